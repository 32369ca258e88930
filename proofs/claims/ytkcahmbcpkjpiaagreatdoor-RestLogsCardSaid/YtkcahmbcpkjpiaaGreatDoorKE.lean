/- Joined texts of this claim: U6 U7 U8 E4 E5 D1 E6 E12 D2 D3 M1 M2 S2 S3 Sh S1 G1 M3 D5 U9 S4 S5 S6 S7 D4. -/
import Derived.Test.YtkcahmbcpkjpiaaGreatDoorKC
import Derived.Test.YtkcahmbcpkjpiaaGreatDoorKD
import Derived.Lib.Hide
import Derived.Test.YtkcahmbcpkjpiaaGreatDoorKB
import Derived.Shelf.GgSortFunc.InsertionK
import Derived.Test.YtkcahmbcpkjpiaaGreatDoorProg
import Derived.Shelf.RegionOpenPlain
import Derived.WalkKit
import Derived.Deep.LoopGhost
import Derived.Deep.Draws
import Derived.Lib.Walk
import Derived.Sort.WalkB12
import Derived.Lib.SliceRun
import Derived.Lib.SlicesCompact
import Derived.Shelf.SlSortCmp.WholeK
import Derived.Shelf.SlLaysF0
import Derived.KernelRfl
import Derived.Shelf.SlSortCmp.Insertion
import Derived.Shelf.SlSortCmp.NoneTotal
import Derived.Deep.RegionLaw
import Derived.Lib.SlicesDelete
import Derived.Shelf.Spec.SlicesInsert
import Derived.ArgAppend
import Derived.Shelf.Spec.SlicesInsertGrow
set_option linter.unusedSimpArgs false
set_option linter.unusedVariables false
set_option linter.unusedSectionVars false
set_option maxHeartbeats 8000000
set_option maxRecDepth 100000
namespace Go.Proofs.YtkcahmbcpkjpiaaGreatDoor
open Go.RowKit
open Tryz
theorem zrH {α β:Type} {f:α→β}:∀ {rs:List β},(∀ r ∈ rs,∃ y,r=f y)→∃ l:List α,rs=l.map f
 | [],_=>⟨[],rfl⟩
 | r :: rs,h=>by
  obtain ⟨y,rfl⟩:=h r (by simp)
  obtain ⟨l,rfl⟩:=zrH (rs:=rs) fun q hq=>h q (by simp [hq])
  exact ⟨y :: l,rfl⟩
theorem zgB {k:IntKind} {n:Int} {p:PV} (h:Bl (.int k n) p):∃ m,p = .int k m:=by cases h; exact ⟨_,rfl⟩
theorem zoF {s:ByteArray} {p:PV} (h:Bl (.str s) p):∃ t,p = .str t:=by cases h; exact ⟨_,rfl⟩
theorem znd {rows : List (List PV)} {q : PV} (h : Bl (.list rows) q) : ∃ rows', q = .list rows' ∧ rows'.length = rows.length ∧ (∀ (k : Nat) (r r' : List PV), rows[k]? = some r → rows'[k]? = some r' → r'.length = r.length) ∧
    ∀ (k:Nat) (r r':List PV) (j:Nat) (p p':PV),rows[k]? = some r→rows'[k]? = some r'→r[j]? = some p→r'[j]? = some p'→Bl p p':=by
  cases h with
  | list rows rows' hl hr h=>exact ⟨rows',rfl,hl,hr,h⟩
theorem zlv {l:List Id} {q:PV} (h:Bl (.list (l.map cId)) q):∃ l':List Id,l'.length=l.length∧q = .list (l'.map cId):=by
 obtain ⟨rows',rfl,hl,hr,h⟩:=znd h
 obtain ⟨l',rfl⟩:=zrH (f:=cId) (rs:=rows') fun r hr'=>by
  obtain ⟨k,hk,e⟩:=yaq hr'
  have hk':k < l.length:=by rw [hl] at hk; simpa using hk
  have g1:(l.map cId)[k]? = some (cId l[k]):=by simp [hk']
  have g2:rows'[k]? = some r:=by rw [yac hk,e]
  have h2:=hr k _ _ g1 g2
  clear e hr'
  match r,h2,g2 with
  | [a,b],_,g2 =>
   obtain ⟨m,rfl⟩:=zgB (h k _ _ 0 _ _ g1 g2 rfl rfl)
   obtain ⟨m2,rfl⟩:=zgB (h k _ _ 1 _ _ g1 g2 rfl rfl)
   exact ⟨⟨m,m2⟩,rfl⟩
 exact ⟨l',by simpa using hl,rfl⟩
theorem zw2 {l:List Entry} {q:PV} (h:Bl (.list (l.map cE)) q):∃ l':List Entry,l'.length=l.length∧q = .list (l'.map cE):=by
 obtain ⟨rows',rfl,hl,hr,h⟩:=znd h
 obtain ⟨l',rfl⟩:=zrH (f:=cE) (rs:=rows') fun r hr'=>by
  obtain ⟨k,hk,e⟩:=yaq hr'
  have hk':k < l.length:=by rw [hl] at hk; simpa using hk
  have g1:(l.map cE)[k]? = some (cE l[k]):=by simp [hk']
  have g2:rows'[k]? = some r:=by rw [yac hk,e]
  have h2:=hr k _ _ g1 g2
  clear e hr'
  match r,h2,g2 with
  | [a,b,c,d,f],_,g2 =>
   obtain ⟨m,rfl⟩:=zgB (h k _ _ 0 _ _ g1 g2 rfl rfl)
   obtain ⟨m2,rfl⟩:=zgB (h k _ _ 1 _ _ g1 g2 rfl rfl)
   obtain ⟨m3,rfl⟩:=zgB (h k _ _ 2 _ _ g1 g2 rfl rfl)
   obtain ⟨t,rfl⟩:=zoF (h k _ _ 3 _ _ g1 g2 rfl rfl)
   obtain ⟨ls,-,rfl⟩:=zlv (h k _ _ 4 _ _ g1 g2 rfl rfl)
   exact ⟨⟨⟨m,m2⟩,m3,t,ls⟩,rfl⟩
 exact ⟨l',by simpa using hl,rfl⟩
theorem zoG {S:Nat→Nat→Prop} {w:World} {v:Value} {l:List Id} (h:RepP S w (.list (l.map cId)) v):∃ a c,v = .slice a l.length c∧l.length≤c∧c≤maxLen∧∀ k e,l[k]? = some e→∃ b o,a=some ⟨b,o,none⟩∧S b (o + k * 2 + 1)∧w.cell? ⟨b,o + k * 2 + 1,none⟩=some (.int .i64 e.n):=by
 generalize hrs:l.map cId=rows at h
 cases h with
 | list rows a c sz x hc hm hsz hz hl h =>
  subst hrs
  have hlen:(l.map cId).length=l.length:=by simp
  rw [hlen] at hc ⊢
  refine ⟨a,c,rfl,hc,hm,fun k e hk=>?_⟩
  have g1:(l.map cId)[k]? = some (cId e):=by simp [hk]
  have:sz=2:=(hz _ (yaf g1)).symm
  subst this
  obtain ⟨b,o,ha,hS,hcell⟩:=hl k _ 1 _ g1 rfl
  have h2:=h k _ 1 _ g1 rfl
  refine ⟨b,o,ha,hS,hcell.trans ?_⟩
  generalize x k 1=y at h2 ⊢
  cases h2; rfl
theorem zw3 {S : Nat → Nat → Prop} {w : World} {v : Value} {l : List Entry} (h : RepP S w (.list (l.map cE)) v) : ∃ a c, v = .slice a l.length c ∧ l.length ≤ c ∧ c ≤ maxLen ∧ ∀ k e, l[k]? = some e → ∃ b o, a = some ⟨b, o, none⟩ ∧ S b (o + k * 5 + 3) ∧ w.cell? ⟨b, o + k * 5 + 3, none⟩ = some (.string e.t) ∧
    ∃ lv,w.cell? ⟨b,o + k * 5 + 4,none⟩=some lv∧RepP S w (.list (e.ls.map cId)) lv:=by
  generalize hrs:l.map cE=rows at h
  cases h with
  | list rows a c sz x hc hm hsz hz hl h =>
    subst hrs
    have hlen:(l.map cE).length=l.length:=by simp
    rw [hlen] at hc ⊢
    refine ⟨a,c,rfl,hc,hm,fun k e hk=>?_⟩
    have g1:(l.map cE)[k]? = some (cE e):=by simp [hk]
    have:sz=5:=(hz _ (yaf g1)).symm
    subst this
    obtain ⟨b,o,ha,hS,hcell⟩:=hl k _ 3 _ g1 rfl
    obtain ⟨b2,o2,ha2,hS2,hcell2⟩:=hl k _ 4 _ g1 rfl
    have h2:=h k _ 3 _ g1 rfl
    have h3:=h k _ 4 _ g1 rfl
    rw [ha] at ha2
    cases ha2
    refine ⟨b,o,ha,hS,hcell.trans ?_,_,hcell2,h3⟩
    generalize x k 3=y at h2 ⊢
    cases h2; rfl
theorem Soil.set {R:Nat→Nat→Prop} {w:World} {b o:Nat} {v v':Value} (h:w.cell? ⟨b,o,none⟩=some v) (hk:kin v v') (hR:R b o):Soil R w (w.setCell ⟨b,o,none⟩ v'):=by
 have hcell:∀ b2 o2,(w.setCell ⟨b,o,none⟩ v').cell? ⟨b2,o2,none⟩=if b2=b∧o2=o then some v' else w.cell? ⟨b2,o2,none⟩:=by
  intro b2 o2
  by_cases e:b2=b∧o2=o
  ·
   obtain ⟨rfl,rfl⟩:=e
   rw [if_pos ⟨rfl,rfl⟩]
   simp only [World.cell?,World.setCell,ybi] at h ⊢
   cases hb:w.heap[b2]? with
   | none=>rw [hb] at h; cases h
   | some ob =>
    rw [hb] at h
    cases ob with
    | cells c T f =>
     have h:c[o2]? = some v:=by simpa using h
     have hlt:o2 < c.size:=(yak.1 h).1
     simp [hlt]
    | _=>exact absurd h (by simp)
  ·
   rw [if_neg e]
   simp only [World.cell?,World.setCell,ybi]
   cases hb:w.heap[b2]? with
   | none=>by_cases e2:b=b2 <;> simp [e2,hb]
   | some ob =>
    by_cases e2:b=b2
    ·
     subst e2
     have e3:o≠o2:=fun q=>e ⟨rfl,q.symm⟩
     cases ob <;> simp [Array.getElem?_setIfInBounds,e3]
    ·
     simp [e2,hb]
 refine ⟨by simp [World.setCell],rfl,rfl,rfl,fun b2 hb=>?_,fun b2 o2 hn=>?_,fun b2 o2 u hu=>?_,fun b2=>?_⟩
 ·
  have:b≠b2:=fun e=>hb o (e ▸ hR)
  simp [World.setCell,ybi,this]
 ·
  rw [hcell,if_neg (fun e=>hn (by rw [e.1,e.2]; exact hR))]
 ·
  rw [hcell]
  by_cases e:b2=b∧o2=o
  ·
   rw [if_pos e]
   rw [e.1,e.2,h] at hu
   cases hu
   exact ⟨v',rfl,hk⟩
  ·
   rw [if_neg e]
   exact ⟨u,hu,zfq u⟩
 ·
  have hf:∀ o2,(w.setCell ⟨b,o,none⟩ v').frozen? ⟨b2,o2,none⟩=w.frozen? ⟨b2,o2,none⟩:=fun o2=>by
   simp only [World.frozen?,World.setCell,ybi]
   by_cases e2:b=b2
   ·
    subst e2
    cases hb:w.heap[b]? with
    | none=>simp
    | some ob=>cases ob <;> simp
   ·
    simp [e2]
  simp only [Unf,hf]
theorem zuy {S:Nat→Nat→Prop} {w w':World} {v:Value} {l:List Entry} (hs:Soil S w w') (h:RepP S w (.list (l.map cE)) v):∃ l':List Entry,l'.length=l.length∧RepP S w' (.list (l'.map cE)) v:=by
 obtain ⟨q,h1,h2⟩:=zxO hs h v (zfq v)
 obtain ⟨l',g1,rfl⟩:=zw2 h1
 exact ⟨l',g1,h2⟩
theorem zoH {S:Nat→Nat→Prop} {w w':World} {v:Value} {l:List Id} (hs:Soil S w w') (h:RepP S w (.list (l.map cId)) v):∃ l':List Id,l'.length=l.length∧RepP S w' (.list (l'.map cId)) v:=by
 obtain ⟨q,h1,h2⟩:=zxO hs h v (zfq v)
 obtain ⟨l',g1,rfl⟩:=zlv h1
 exact ⟨l',g1,h2⟩
theorem ziJ {S : Nat → Nat → Prop} {w : World} {v : Value} (l : List Entry) (hu : ∀ b o, S b o → Unf w b) (hv : RepP S w (.list (l.map cE)) v) :
    Calls prog 17 #[v] w fun e w'=>e = .returned (.tuple #[])∧Soil S w w':=by
  obtain ⟨a,c,rfl,hc,hm,-⟩:=zw3 hv
  have hm2:c≤9223372036854775807:=by unfold maxLen at hm; omega
  clear hm
  have HV:=Lib.hid hv; clear hv
  have HU:=Lib.hid hu; clear hu
  go_enter func17,ntmps17
  go_wp2
  go_loopw [2] (fun i wr=>∃ k:Nat,k≤l.length∧i = .int .i64 k∧Soil S w wr) (fun i _=>l.length - (intOf i).toNat)
  case atStart=>exact ⟨0,by omega,rfl,Soil.refl _ _⟩
  case round =>
    obtain ⟨k,hk,rfl,hs⟩:=hrel
    by_cases hlt:k < l.length
    · obtain ⟨l1,hl1,hv1⟩:=zuy hs HV.out
      obtain ⟨a',c',e1,-,-,hat⟩:=zw3 hv1
      simp only [Value.slice.injEq] at e1
      obtain ⟨rfl,-,rfl⟩:=e1
      obtain ⟨b,o,rfl,hS3,hc3,lv,hc4,hlv⟩:=hat k l1[k] (yac (by omega))
      generalize l1[k]=e at *
      obtain ⟨a2,c2,rfl,hcc,hm3,-⟩:=zoG hlv
      have hm4:c2≤9223372036854775807:=by unfold maxLen at hm3; omega
      clear hm3
      have HS:=Lib.hid hs; clear hs
      have HLV:=Lib.hid hlv; clear hlv hv1 hat
      have HS3:=Lib.hid hS3; clear hS3
      go_wp2
      go_loopw [3] (fun j wr2=>∃ k2:Nat,k2≤e.ls.length∧j = .int .i64 k2∧Soil S wr wr2) (fun j _=>e.ls.length - (intOf j).toNat)
      case atStart=>exact ⟨0,by omega,rfl,Soil.refl _ _⟩
      case round =>
        obtain ⟨k2,hk2,rfl,hs2⟩:=hrel
        obtain ⟨y4,d4,d4k⟩:=hs2.cell _ _ _ hc4
        have d4k:y4=_:=d4k
        subst d4k
        by_cases hlt2:k2 < e.ls.length
        · obtain ⟨l2,hl2,hv2⟩:=zoH hs2 HLV.out
          obtain ⟨a',c',e1,-,-,hat⟩:=zoG hv2
          simp only [Value.slice.injEq] at e1
          obtain ⟨rfl,-,rfl⟩:=e1
          obtain ⟨b2,o2,rfl,hS,hcell⟩:=hat k2 l2[k2] (yac (by omega))
          have hf:wr.frozen? ⟨b2,o2 + k2 * 2 + 1,none⟩=false:=((HS.out.trans hs2).frz b2).2 (HU.out _ _ hS) _
          have HT:=Lib.hid (hs2.trans (Soil.set hcell ⟨-7,rfl⟩ hS)); clear hs2 hv2 hat hS
          go_wp2
          go_roundw
          case rel=>exact ⟨k2 + 1,by omega,by go_num,HT.out⟩
          case measure=>simp [intOf]; omega
        · have hk3:k2=e.ls.length:=by omega
          subst hk3
          obtain ⟨y3,d3,t3,rfl⟩:=hs2.cell _ _ _ hc3
          have hf:wr.frozen? ⟨b,o + k * 5 + 3,none⟩=false:=((HS.out.trans hs2).frz b).2 (HU.out _ _ HS3.out) _
          have HT:=Lib.hid ((HS.out.trans hs2).trans (Soil.set d3 ⟨⟨#[63]⟩,rfl⟩ HS3.out)); clear hs2
          go_wp2
          go_roundw
          case rel=>exact ⟨k + 1,by omega,by go_num,HT.out⟩
          case measure=>simp [intOf]; omega
    · have hk3:k=l.length:=by omega
      subst hk3
      go_wp2
      go_end0
      exact ⟨rfl,hs⟩
def zlw (P:Program) (f:Nat) (ok:List (List PV)→Prop):Prop :=
 ∀ (S:Nat→Nat→Prop) (w:World) (v:Value) (rows:List (List PV)),ok rows→(∀ b o,S b o→Unf w b)→RepP S w (.list rows) v→Calls P f #[v] w fun e w'=>e = .returned (.tuple #[])∧Soil S w w'
section
variable {P:Program} {x:Cx} {nt:Nat} {st:St}
theorem zdp {ops:Array Oper}:∀ (p:List LOper) {q:List LOper} {l:List Oper},zF P nt ops l=some (p ++ q)→∃ l1 l2,l=l1 ++ l2∧zF P nt ops l1=some p∧zF P nt ops l2=some q
 | [],q,l,h=>⟨[],l,rfl,rfl,h⟩
 | o :: p,q,l,h=>by
  cases l with
  | nil=>simp [zF] at h
  | cons y l =>
   simp only [zF] at h
   split at h <;> try (cases h; done)
   rename_i lo r h1 h2
   simp only [yau,yae,yb6] at h
   obtain ⟨rfl,rfl⟩:=h
   obtain ⟨l1,l2,rfl,g1,g2⟩:=zdp p h2
   exact ⟨y :: l1,l2,rfl,by simp only [zF,h1,g1],g2⟩
theorem Zq.wp_app {ops : Array Oper} {K : St → Prop} {Q : Exit → Act → World → Prop} {l2 : List Oper} (hK : ∀ st a w, K st → Rel x nt st a w → wpList P ops Q l2 a w) : ∀ (l : List Oper) (lops : List LOper) (st : St) (a : Act) (w : World),
    zF P nt ops l=some lops→Zq P lops K st→Rel x nt st a w→wpList P ops Q (l ++ l2) a w
  | [],lops,st,a,w,hl,h,hrel=>by
    simp only [zF,yae] at hl; subst hl
    exact hK st a w h hrel
  | o :: l,lops,st,a,w,hl,h,hrel=>by
    simp only [zF] at hl
    split at hl <;> try (cases hl; done)
    rename_i lo r h1 h2
    cases hl
    unfold Zc at h1
    split at h1 <;> try (cases h1; done)
    rename_i lop hop
    split at h1 <;> try (cases h1; done)
    rename_i hd
    have hd':∀ t,o.dst=some t→t < nt:=by
      intro t e
      rw [e] at hd
      simpa [zmR] using hd
    have skip:Region.wanted o (yielded ops a.tmps)=false→Zq P r K (st.put o.dst .undef st.heap)→wpList P ops Q (o :: (l ++ l2)) a w:=by
      intro hw hr
      unfold wpList
      rw [if_neg (by simp [hw])]
      refine Zq.wp_app hK l r _ _ w h2 hr ?_
      obtain ⟨⟨C,hr1,he⟩,hdf,hsz⟩:=hrel
      exact zbc hsz hdf hr1 he (fun _ _ h=>h) .undef hd'
    have take:Region.wanted o (yielded ops a.tmps)=true→WOp P true lop st (fun v H=>Zq P r K (st.put o.dst v H))→wpList P ops Q (o :: (l ++ l2)) a w:=by
      intro hw hr
      unfold wpList
      rw [if_pos hw]
      exact .inl (hr.wp hop hd' hrel fun v H' a' w' hk hrel'=>Zq.wp_app hK l r _ a' w' h2 hk hrel')
    split at h1
    · rename_i hg
      cases h1
      simp only [Zq] at h
      exact take (by simp [Region.wanted,hg]) h
    · rename_i j want hg
      split at h1 <;> try (cases h1; done)
      rename_i t ht
      split at h1 <;> try (cases h1; done)
      rename_i htn
      cases h1
      simp only [Zq] at h
      obtain ⟨⟨C,hr1,he⟩,hdf,hsz⟩:=hrel
      have hy:yielded ops a.tmps j=match a.tmps.getD t Go.undef with | .bool b=>some b | _=>none:=by
        unfold yielded
        rw [ht]
        have:t < a.tmps.size:=by rw [hsz]; exact htn
        have e:a.tmps[t]? = some (a.tmps.getD t Go.undef):=by simp [this]
        simp only [Option.bind_some,e]
        cases a.tmps.getD t Go.undef <;> rfl
      have het:=he t
      split at h
      · rename_i b hb
        rw [hb] at het
        rw [het.bool_inv] at hy
        have hwd:Region.wanted o (yielded ops a.tmps)=(b == want):=by
          simp only [Region.wanted,hg,hy]
          cases b <;> cases want <;> rfl
        split at h
        · rename_i e; exact take (by rw [hwd,e]; simp) h
        · rename_i e; exact skip (by rw [hwd]; simpa using e) h
      · rename_i hb
        rw [hb] at het
        rw [het.undef_inv] at hy
        exact skip (by simp only [Region.wanted,hg,hy]; rfl) h
      · exact h.elim
theorem zx9 {pre : List LOper} {d : Option Nat} {f hot : Nat} {so : Bool} {X : LOpd} {ok : List (List PV) → Prop} {Q : AE → St → Prop} (hsp : zlw P f ok) (hS0 : ∀ b o, ¬ x.S0 b o)
    (h:Zq P pre (fun st1=>(∃ rows,X.ev st1 = .list rows∧ok rows)∧(∀ (id:Nat) v sto ipu T sz rows,st1.heap[id]? = some (.arr v sto ipu T sz rows)→sto=true)∧∀ st2,zop st1 st2→Q .normal (st2.put d (.tup []) st2.heap)) st) :
    W P x nt (.reg none (pre ++ [⟨d,.call f [X] hot,none,so⟩])) Q st:=by
  intro c hc a w hrel
  cases c <;> simp only [zq,reduceCtorEq] at hc
  case region id rops draw =>
    split at hc <;> try (cases hc; done)
    rename_i l0 hl
    split at hc
    · rename_i hd
      subst hd
      split at hc
      · unfold Za at hc
        split at hc <;> cases hc
      · unfold Zl at hc
        split at hc <;> cases hc
    · rename_i hd
      cases hc
      obtain rfl:draw=false:=by simpa using hd
      refine wp_region_list ?_
      obtain ⟨l1,l2,e,g1,g2⟩:=zdp pre hl
      rw [e]
      refine Zq.wp_app (fun st1 a w hk hr=>?_) l1 _ st a w g1 h hrel
      obtain ⟨⟨rows,hX,hok⟩,hst,hq⟩:=hk
      cases l2 with
      | nil=>simp [zF] at g2
      | cons o l2 =>
        simp only [zF] at g2
        split at g2 <;> try (cases g2; done)
        rename_i lo r h1 h2
        simp only [yae,yb6] at g2
        obtain ⟨rfl,rfl⟩:=g2
        cases l2 with
        | cons y l2 =>
          simp only [zF] at h2
          split at h2 <;> cases h2
        | nil =>
        unfold Zc at h1
        split at h1 <;> try (cases h1; done)
        rename_i lop hop
        split at h1 <;> try (cases h1; done)
        rename_i hd
        have hd':∀ t,o.dst=some t→t < nt:=by
          intro t e
          rw [e] at hd
          simpa [zmR] using hd
        split at h1
        · rename_i hg
          cases h1
          unfold wpList
          rw [if_pos (by simp [Region.wanted,hg])]
          refine .inl ?_
          obtain ⟨⟨C,hr1,he⟩,hdf,hsz⟩:=hr
          obtain ⟨bs,tys,ho,hb,hargs⟩:=zjc hop
          have hreps:=zci he hargs
          obtain ⟨v,hv⟩:∃ v,bs.map a.eval=#[v]:=by
            have:=hreps.1
            have h1:(bs.map a.eval).size=1:=by simpa using this
            exact ⟨(bs.map a.eval)[0], by apply Array.ext; · simpa using h1
                                          · intro i h2 h3; simp at h3; subst h3; rfl⟩
          have hrep:RepV (zu x C st1.heap w) w C (.list rows) v:=by
            have e1:bs.toList.map a.eval = [v]:=by rw [← ybE,hv]
            rw [e1] at hreps
            have:=hreps.2 0 _ v rfl rfl
            rw [hX] at this
            exact this
          have hp:=hrep.list_inv
          have hu:∀ b o,zu x C st1.heap w b o→Unf w b:=fun b o hs=>by
            rcases hs.1 with q | q
            · exact (hS0 b o q).elim
            · exact q.2
          unfold Oper.wp
          have hex:(execOp a.eval o).run P w = .ok (.enter f #[v]) w:=by
            have:=zha hb #[v] w
            simp only [execOp,ho,resolve,Deferred.ofValue,Act.eval,yal,yay,Result.andThen_ok,invoke]
            rw [← hv] at this ⊢
            simpa using this
          rw [show (execOp a.eval o).run P w = .ok (.enter f #[v]) w from hex,Oper.upon_enter]
          refine (hsp _ w v rows hok hu hp).mono ?_
          rintro e w' ⟨rfl,hs⟩
          obtain ⟨st2,k1,⟨⟨C2,hr2,he2⟩,hdf2,hsz2⟩⟩:=Rel.soil hr1 he hdf hsz hs (fun b o h=>h) hst hS0 (fun b o h=>hr1.old_apart hS0 h)
          exact ⟨_,hq st2 k1,zbc hsz2 hdf2 hr2 he2 (fun _ _ h=>h) (.tup [] [] rfl fun j p x h=>by simp at h) hd'⟩
        · rename_i j want hg
          split at h1 <;> try (cases h1; done)
          split at h1 <;> cases h1
  all_goals (repeat' (split at hc)) <;> first | (cases hc; done) | (unfold Zl at hc; split at hc <;> cases hc; done) | (unfold Za at hc; split at hc <;> cases hc; done) | (obtain ⟨_,e⟩:=zE hc; cases e; done)
end
theorem zdT:zlw prog 17 fun rows=>∃ l:List Entry,rows=l.map cE:=by
 rintro S w v rows ⟨l,rfl⟩ hu hv
 exact ziJ l hu hv
def zgS:PV→PV
 | .list rows => .oll rows
 | .rptr cells => .olp cells
 | .vlist _ => .top
 | .agg _ => .top
 | .tup _ => .top
 | .clo .. => .top
 | .clob .. => .top
 | p=>p
def unR:PV→PV
 | .oll rows => .list rows
 | .olp cells => .rptr cells
 | .vlist _ => .top
 | .agg _ => .top
 | .tup _ => .top
 | .clo .. => .top
 | .clob .. => .top
 | p=>p
def ziK:AObj→AObj
 | .box cs => .box (cs.map zgS)
 | .arr v st ipu T sz rows => .arr v st ipu T sz (if ipu then rows.map (·.map zgS) else rows)
 | .gone => .gone
def zrI:AObj→AObj
 | .box cs => .box (cs.map unR)
 | .arr v st ipu T sz rows => .arr v st ipu T sz (if ipu then rows.map (·.map unR) else rows)
 | .gone => .gone
section
variable {S S':Nat→Nat→Prop} {w:World} {C:Conc} {O:Nat→Nat→Prop}
theorem zfr (hS:∀ b o,S b o→O b o) (ho:∀ b o,C.old b o→O b o) {p:PV} {v:Value} (h:RepV S w C p v):RepV S' w { C with old:=O } (zgS p) v:=by
 cases h with
 | pure h =>
  have e:zgS p=olc p:=by cases h <;> rfl
  rw [e]
  exact zqT (C := { C with old:=O }) (h.mono hS fun _ _ _=>rfl)
 | any=>exact .any
 | undef=>exact .undef
 | vlist=>exact .any
 | agg=>exact .any
 | tup=>exact .any
 | clo=>exact .any
 | clob=>exact .any
 | ptr id off hi=>exact .ptr (C := { C with old:=O }) id off hi
 | aptr id sz idx off g n c hi hs=>exact .aptr (C := { C with old:=O }) id sz idx off g n c hi hs
 | aptrOld id ver sz idx off hi hv h1=>exact .aptrOld (C := { C with old:=O }) id ver sz idx off hi hv h1
 | arr id hi h1=>exact .arr (C := { C with old:=O }) id hi h1
 | arrOld id ver hi hv h1=>exact .arrOld (C := { C with old:=O }) id ver hi hv h1
 | oll rows h=>exact .oll rows (h.mono ho fun _ _ _=>rfl)
 | olp cells h=>exact .olp cells (h.mono ho fun _ _ _=>rfl)
theorem zya (hS:∀ b o,S b o→S' b o) (ho:∀ b o,C.old b o→S' b o) {p:PV} {v:Value} (h:RepV S w C p v):RepV S' w { C with old:=O } (unR p) v:=by
 cases h with
 | pure h =>
  have e:unR p=p:=by cases h <;> rfl
  rw [e]
  exact .pure (h.mono hS fun _ _ _=>rfl)
 | any=>exact .any
 | undef=>exact .undef
 | vlist=>exact .any
 | agg=>exact .any
 | tup=>exact .any
 | clo=>exact .any
 | clob=>exact .any
 | ptr id off hi=>exact .ptr (C := { C with old:=O }) id off hi
 | aptr id sz idx off g n c hi hs=>exact .aptr (C := { C with old:=O }) id sz idx off g n c hi hs
 | aptrOld id ver sz idx off hi hv h1=>exact .aptrOld (C := { C with old:=O }) id ver sz idx off hi hv h1
 | arr id hi h1=>exact .arr (C := { C with old:=O }) id hi h1
 | arrOld id ver hi hv h1=>exact .arrOld (C := { C with old:=O }) id ver hi hv h1
 | oll rows h=>exact .pure (h.mono ho fun _ _ _=>rfl)
 | olp cells h=>exact .pure (h.mono ho fun _ _ _=>rfl)
end
def AObj.isBox:AObj→Prop
 | .arr _ _ ipu _ _ _=>ipu=true
 | _=>True
theorem zcp {C:Conc} {O:Nat→Nat→Prop} {id b:Nat} (ob:AObj):(ziK ob).holds { C with old:=O } id b↔ob.holds C id b:=by
 cases ob <;> exact ybR
theorem zgc {C:Conc} {O:Nat→Nat→Prop} {id b:Nat} (ob:AObj):(zrI ob).holds { C with old:=O } id b↔ob.holds C id b:=by
 cases ob <;> exact ybR
theorem zrJ {C:Conc} {O:Nat→Nat→Prop} {id b o:Nat} (ob:AObj):(zrI ob).free { C with old:=O } id b o↔ob.free C id b o:=by
 cases ob with
 | box cs=>exact ybR
 | gone=>exact ybR
 | arr v st ipu T sz rows =>
  have e:(if ipu=true then rows.map (·.map unR) else rows).length=rows.length:=by split <;> simp
  show ((C.sv id).ownBlock=some b→st=false∧ipu=false∧o < (if ipu=true then rows.map (·.map unR) else rows).length * sz)↔_
  rw [e]
  exact ybR
section
variable {x:Cx} {C C':Conc} {H H':List AObj} {w w':World}
def ZY (x:Cx) (C:Conc) (H:List AObj) (w:World):Cx :=
 ⟨w,fun _ _=>False,{ C with old:=fun b o=>C.old b o∨zu x C H w b o },H.map ziK⟩
theorem HR.rootR (hr:HR x C H w) (hbox:∀ (id:Nat) ob,H[id]? = some ob→ob.isBox):HR (ZY x C H w) (ZY x C H w).C0 (H.map ziK) w:=by
 have hnot:∀ b o,(C.old b o∨zu x C H w b o)→b < w.heap.size∧∀ (id:Nat) ob,H[id]? = some ob→¬ ob.holds C id b:=by
  rintro b o (h | h)
  ·
   exact ⟨(hr.old b o h).1,(hr.old b o h).2.1⟩
  ·
   refine ⟨h.2.1,fun id ob hid hb=>?_⟩
   have hf:=h.2.2 id ob hid
   have hx:=hbox id ob hid
   cases ob with
   | box cs=>exact hf hb
   | arr v st ipu T sz rows =>
    have h1:ipu=false:=(hf hb).2.1
    have h2:ipu=true:=hx
    rw [h1] at h2
    cases h2
   | gone=>exact hb
 have hnot2:∀ b o,(C.old b o∨zu x C H w b o)→∀ (id:Nat) ob,(H.map ziK)[id]? = some ob→¬ ob.holds (ZY x C H w).C0 id b:=by
  intro b o h id ob hid hb
  obtain ⟨ob1,h1,rfl⟩:=zO hid
  exact (hnot b o h).2 id ob1 h1 ((zcp ob1).1 hb)
 refine ⟨by show C.n=(H.map ziK).length; rw [yah]; exact hr.n,fun id ob hid=>?_,fun id id' ob ob' b h1 h2 h3 h4=>?_,fun id ob b h hb => .inr ⟨id,ob,h,hb⟩,fun b o h=>h.elim,yag _,rfl,rfl,rfl,fun b _ _=>rfl,yag _,fun _ _=>rfl,fun _ _ => .inl ⟨rfl,rfl⟩,fun b o h=>⟨(hnot b o h).1,hnot2 b o h,h,(hnot b o h).1,hnot2 b o h⟩,fun _ _ h=>h,fun _ _ h=>h⟩
 ·
  obtain ⟨ob1,h1,rfl⟩:=zO hid
  have hx:=hbox id ob1 h1
  have ho:=hr.obj id ob1 h1
  cases ob1 with
  | box cs =>
   obtain ⟨arr,T,e1,e2,e3⟩:=ho
   refine ⟨arr,T,e1,by simpa using e2,fun j p v hj hv=>?_⟩
   obtain ⟨q,hq,rfl⟩:=zO hj
   obtain ⟨f1,f2⟩:=e3 j q v hq hv
   exact ⟨f1,zfr (fun b o h => .inr h) (fun b o h => .inl h) f2⟩
  | arr v st ipu T sz rows =>
   have hx:ipu=true:=hx
   subst hx
   obtain ⟨e1,e2,e3,xs,e4,e5⟩:=ho
   refine ⟨e1,e2,fun row hrow=>?_,xs,by simp only [if_true,yah]; exact e4,fun k row j p u a b c=>?_⟩
   ·
    simp only [if_true] at hrow
    obtain ⟨r,hr1,rfl⟩:=yaG.1 hrow
    rw [yah]; exact e3 r hr1
   ·
    simp only [if_true] at a ⊢
    obtain ⟨r,g2,rfl⟩:=zO a
    obtain ⟨q,g3,rfl⟩:=zO b
    have:=e5 k r j q u g2 g3 c
    simp only [if_true] at this
    exact ⟨this.1,zfr (fun b o h => .inr h) (fun b o h => .inl h) this.2⟩
  | gone=>trivial
 ·
  obtain ⟨ob1,g1,rfl⟩:=zO h1
  obtain ⟨ob2,g2,rfl⟩:=zO h2
  exact hr.apart id id' ob1 ob2 b g1 g2 ((zcp ob1).1 h3) ((zcp ob2).1 h4)
theorem HR.unrootR (hr : HR x C H w) (hxo : ∀ b o, ¬ x.C0.old b o) (h' : HR (ZY x C H w) C' H' w') :
    HR x { C' with old:=fun _ _=>False } (H'.map zrI) w'∧∀ p v,RepV (zu (ZY x C H w) C' H' w') w' C' p v→RepV (zu x { C' with old:=fun _ _=>False } (H'.map zrI) w') w' { C' with old:=fun _ _=>False } (unR p) v:=by
  have hCo:∀ b o,¬ C.old b o:=fun b o h=>hxo b o (hr.old b o h).2.2.1
  have hmine:∀ b,(w.heap.size≤b∨∃ (i:Nat) (ob0:AObj),(H.map ziK)[i]? = some ob0∧ob0.holds (ZY x C H w).C0 i b)→x.w0.heap.size≤b∨∃ (i:Nat) (ob0:AObj),x.H0[i]? = some ob0∧ob0.holds x.C0 i b:=by
    rintro b (h | ⟨i,ob0,h1,h2⟩)
    · exact .inl (yaP hr.size h)
    · obtain ⟨ob1,g1,rfl⟩:=zO h1
      exact hr.mine i ob1 b g1 ((zcp ob1).1 h2)
  have hfree:∀ b o,zk5 C' H' b o→zk5 { C' with old:=fun _ _=>False } (H'.map zrI) b o:=by
    intro b o h id ob hid
    obtain ⟨ob1,g1,rfl⟩:=zO hid
    exact (zrJ ob1).2 (h id ob1 g1)
  have hS:∀ b o,zu (ZY x C H w) C' H' w' b o→zu x { C' with old:=fun _ _=>False } (H'.map zrI) w' b o:=by
    rintro b o ⟨q,h2,h3⟩
    rcases q with q | ⟨q,hu⟩
    · exact q.elim
    · exact ⟨.inr ⟨hmine b q,hu⟩,h2,hfree b o h3⟩
  have hold:∀ b o,C'.old b o→zu x { C' with old:=fun _ _=>False } (H'.map zrI) w' b o:=by
    intro b o h
    obtain ⟨h1,h2,h3,h4,h5⟩:=h'.old b o h
    rcases (show C.old b o∨zu x C H w b o from h3) with q | q
    · exact (hCo b o q).elim
    · exact ⟨q.1.imp_right fun g=>⟨g.1,h'.unf b h4 g.2⟩,h1,hfree b o fun id ob hid=>AObj.free_of_not (h2 id ob hid) o⟩
  have hm:∀ p v,RepV (zu (ZY x C H w) C' H' w') w' C' p v→RepV (zu x { C' with old:=fun _ _=>False } (H'.map zrI) w') w' { C' with old:=fun _ _=>False } (unR p) v:=fun p v h=>zya hS hold h
  refine ⟨⟨by simpa using h'.n,fun id ob hid=>?_,fun id id' ob ob' b h1 h2 h3 h4=>?_,fun id ob b h hb=>?_,fun b o h=>?_,yaP hr.size h'.size,h'.os.trans hr.os,h'.tape.trans hr.tape,h'.output.trans hr.output,fun b hb h=>?_,?_,fun i hi=>?_,fun i hi=>?_,fun b o h=>h.elim,fun b o h=>(hxo b o h).elim,fun b hb h=>h'.unf b (yam hb hr.size) (hr.unf b hb h)⟩,hm⟩
  · obtain ⟨ob1,g1,rfl⟩:=zO hid
    have ho:=h'.obj id ob1 g1
    cases ob1 with
    | box cs =>
      obtain ⟨arr,T,e1,e2,e3⟩:=ho
      refine ⟨arr,T,e1,by simpa using e2,fun j p v hj hv=>?_⟩
      obtain ⟨q,hq,rfl⟩:=zO hj
      obtain ⟨f1,f2⟩:=e3 j q v hq hv
      exact ⟨f1,hm _ _ f2⟩
    | arr v st ipu T sz rows =>
      obtain ⟨e1,e2,e3,xs,e4,e5⟩:=ho
      have e:(if ipu=true then rows.map (·.map unR) else rows).length=rows.length:=by split <;> simp
      refine ⟨e1,e2,fun row hrow=>?_,xs,by rw [e]; exact e4,fun k row j p u a b c=>?_⟩
      · split at hrow
        · obtain ⟨r,hr1,rfl⟩:=yaG.1 hrow
          rw [yah]; exact e3 r hr1
        · exact e3 row hrow
      · cases ipu with
        | true =>
          simp only [if_true] at a ⊢
          obtain ⟨r,g2,rfl⟩:=zO a
          obtain ⟨q,g3,rfl⟩:=zO b
          have:=e5 k r j q u g2 g3 c
          simp only [if_true] at this
          exact ⟨this.1,hm _ _ this.2⟩
        | false =>
          simp only [yap,if_false] at a ⊢
          have:=e5 k row j p u a b c
          simp only [yap,if_false] at this
          exact ⟨this.1,this.2.mono hS fun _ _ _=>rfl⟩
    | gone=>trivial
  · obtain ⟨ob1,g1,rfl⟩:=zO h1
    obtain ⟨ob2,g2,rfl⟩:=zO h2
    exact h'.apart id id' ob1 ob2 b g1 g2 ((zgc ob1).1 h3) ((zgc ob2).1 h4)
  · obtain ⟨ob1,g1,rfl⟩:=zO h
    exact hmine b (h'.mine id ob1 b g1 ((zgc ob1).1 hb))
  · obtain ⟨h1,h2,h3⟩:=hr.s0 b o h
    have hst:zu x C H w b o:=⟨.inl h,yam h1 hr.size,h2⟩
    have hco:C'.old b o:=h'.old0 b o (.inr hst)
    refine ⟨h1,(hold b o hco).2.2,?_⟩
    obtain ⟨-,-,-,h4,h5⟩:=h'.old b o hco
    exact (zbb (h'.frame b h4 h5)).trans h3
  · refine (h'.frame b (yam hb hr.size) fun i ob0 hi hh=>?_).trans (hr.frame b hb h)
    obtain ⟨ob1,g1,rfl⟩:=zO hi
    rcases hr.mine i ob1 b g1 ((zcp ob1).1 hh) with q | ⟨j,ob2,q1,q2⟩
    · omega
    · exact h j ob2 q1 q2
  · have h1:=h'.len
    have h2:=hr.len
    simp only [ZY,yah] at h1 ⊢
    omega
  · have hi':i < H.length:=yam hi hr.len
    exact (h'.ids i (by simpa [ZY] using hi')).trans (hr.ids i hi)
  · have hi':i < H.length:=yam hi hr.len
    rcases h'.vers i (by simpa [ZY] using hi') with ⟨a,b⟩ | a
    · rcases hr.vers i hi with ⟨c,d⟩ | c
      · exact .inl ⟨a.trans c,b.trans d⟩
      · exact .inr (Nat.lt_of_lt_of_eq c a.symm)
    · rcases hr.vers i hi with ⟨c,d⟩ | c
      · exact .inr (by have a:C.ver i < C'.ver i:=a; rw [← c]; exact a)
      · exact .inr (Nat.lt_trans c a)
end
def zrK (st:St):St:=⟨fun t=>zgS (st.env t),st.heap.map ziK⟩
def zCp (st:St):St:=⟨fun t=>unR (st.env t),st.heap.map zrI⟩
theorem zyb {P : Program} {x : Cx} {nt : Nat} {lc : LC} {Q : AE → St → Prop} {st : St} (hxo : ∀ b o, ¬ x.C0.old b o) (hbox : ∀ (id : Nat) ob, st.heap[id]? = some ob → ob.isBox)
    (h:∀ x2:Cx,(∀ b o,¬ x2.S0 b o)→x2.H0=st.heap.map ziK→W P x2 nt lc (fun e st'=>Q e (zCp st')) (zrK st)):W P x nt lc Q st:=by
  intro c hc a w ⟨⟨C,hr,he⟩,hdf,hsz⟩
  have h2:=h (ZY x C st.heap w) (fun b o h=>h) rfl c hc a w ⟨⟨(ZY x C st.heap w).C0,hr.rootR hbox,fun t=>zfr (fun b o h => .inr h) (fun b o h => .inl h) (he t)⟩,hdf,hsz⟩
  have back:∀ st' a' w',Rel (ZY x C st.heap w) nt st' a' w'→Rel x nt (zCp st') a' w':=by
    rintro st' a' w' ⟨⟨C',hr',he'⟩,hdf',hsz'⟩
    obtain ⟨k1,k2⟩:=hr.unrootR hxo hr'
    exact ⟨⟨_,k1,fun t=>k2 _ _ (he' t)⟩,hdf',hsz'⟩
  refine wp_mono h2 fun e a' w' hq=>?_
  cases e <;> first | exact hq.elim | (obtain ⟨st',g1,g2⟩:=hq; exact ⟨_,g1,back st' a' w' g2⟩)
theorem zb5 (n a b:Int):zg prog 60 [.int .i64 n,.int .i64 a,.int .i64 b] [] (.bool (ZI n a b)) []:=by
 refine zg.of_walk func60 ntmps60 zz5.1 zz5.2 (by simp) fun x hx=>?_
 by_cases h:a≤n
 all_goals
  simp only [go_sem,L60,R60,h,decide_true,decide_false]
  refine zd hx ?_
  simp only [go_sem,L60,R60,ZI,h,decide_false,true_and,false_and]
theorem zjo (a:Id):zg prog 133 [.agg (cId a)] [] (.bool (zcS a)) []:=by
 refine zg.of_walk func133 ntmps133 zv6.1 zv6.2 (by simp) fun x hx=>?_
 simp only [go_sem,zBG,zBH,cId]
 refine zc (.pure (zb5 _ _ _)) ?_
 cases h:ZI a.r 0 1
 ·
  simp only [go_sem]
  refine zd hx ?_
  simp [go_sem,zBG,zBH,zcS,h]
 ·
  simp only [go_sem]
  refine zc (.pure (zb5 _ _ _)) ?_
  simp only [go_sem]
  refine zd hx ?_
  simp [go_sem,zBG,zBH,zcS,h]
theorem Zx (r n:Int):zg prog 34 [.int .i64 r,.int .i64 n] [] (.agg [.int .i64 r,.int .i64 n]) []:=by
 refine zg.of_walk func34 ntmps34 zzU.1 zzU.2 (by simp) fun x hx=>?_
 simp only [go_sem,L34,R34]
 refine zd hx ?_
 simp [go_sem,L34,R34]
theorem zke (a b:Id):zg prog 131 [.agg (cId a),.agg (cId b)] [] (.bool (Zi a b)) []:=by
 refine zg.of_walk func131 ntmps131 zv5.1 zv5.2 (by simp) fun x hx=>?_
 by_cases h1:a.r < b.r
 ·
  simp only [go_sem,zxT,zxU,cId,h1,decide_true]
  refine zd hx ?_
  simp [go_sem,zxT,zxU,Zi,h1]
 ·
  by_cases h2:a.r=b.r
  ·
   simp only [go_sem,zxT,zxU,cId,h1,h2,decide_true,decide_false,Int.lt_irrefl]
   refine zd hx ?_
   simp [go_sem,zxT,zxU,Zi,h2]
  ·
   simp only [go_sem,zxT,zxU,cId,h1,h2,decide_false]
   refine zd hx ?_
   simp [go_sem,zxT,zxU,Zi,h1,h2]
theorem zuz {x y:List Id} (hl:x.length=y.length) (h:∀ k,k < x.length→nth x k=nth y k):x=y:=by
 refine ycf hl fun k h1 h2=>?_
 have:=h k h1
 rwa [zv _ _ h1,zv _ _ h2] at this
theorem zM {k:Nat} (h:k < 9223372036854775807):IntKind.i64.wrap ((k:Int) + 1)=((k + 1:Nat):Int):=by
 rw [IntWalk.i64_in _ (by omega)]; omega
theorem zgT (a b:Id):(decide (a.r=b.r) && decide (a.n=b.n))=decide (a=b):=by
 rw [ybJ]; simp [Id.eq_iff]
theorem ZS (a b:List Id) (hm:a.length≤9223372036854775807):zg prog 46 [.list (a.map cId),.list (b.map cId)] [] (.bool (decide (a=b))) []:=by
 refine zg.of_walk func46 ntmps46 zzX.1 zzX.2 (by simp) fun x hx=>?_
 by_cases hl:a.length=b.length
 ·
  have hl':((a.length:Int)=(b.length:Int))=True:=by simp [hl]
  simp only [go_sem,L46,R46,hl']
  refine zy [0,1,5] 0 (fun n st=>∃ k:Nat,k + n=a.length∧(∀ j,j < k→nth a j=nth b j) ∧
   st=⟨mkE .top [(0,.list (a.map cId)),(1,.list (b.map cId)),(5,.int .i64 k)],[]⟩) a.length (by simp [hx]) (by simp) ?_ ?_
  ·
   refine ⟨0,by omega,fun j h=>by omega,?_⟩
   simp [zh,go_sem,ze,zf,pos,yaa]
  ·
   rintro n st ⟨k,hk,hz,rfl⟩
   simp only [go_sem]
   by_cases hlt:k < a.length
   ·
    have hg:a[k]? = some (nth a k):=zk _ _ hlt
    have hlt2:k < b.length:=by omega
    have hg2:b[k]? = some (nth b k):=zk _ _ hlt2
    have hw:=zM (k:=k) (by omega)
    by_cases he:nth a k=nth b k
    ·
     simp only [go_sem,hlt,hlt2,hg,hg2,cId,he,hw]
     refine ⟨by simp,n - 1,by omega,k + 1,by omega,fun j hj=>?_,?_⟩
     ·
      by_cases e:j=k
      ·
       rw [e]; exact he
      ·
       exact hz j (by omega)
     ·
      simp [zh,go_sem,ze,zf,pos]
    ·
     simp only [go_sem,hlt,hlt2,hg,hg2,cId,zgT,he]
     refine zd hx ?_
     have:¬ a=b:=fun e=>he (by rw [e])
     simp [go_sem,L46,R46,this]
   ·
    simp only [go_sem,hlt,decide_false]
    refine zd hx ?_
    have:a=b:=zuz hl fun j hj=>hz j (by omega)
    simp [go_sem,L46,R46,this]
 ·
  have hl':((a.length:Int)=(b.length:Int))=False:=by simp; omega
  simp only [go_sem,L46,R46,hl']
  refine zd hx ?_
  have:¬ a=b:=fun e=>hl (by rw [e])
  simp [go_sem,L46,R46,this]
def zaC {α:Type} (p:α→Bool):List α→Nat→Int
 | [],_ => -1
 | x :: l,k=>if p x=true then (k:Int) else zaC p l (k + 1)
theorem zaS {α:Type} [Inhabited α] (p:α→Bool) (l:List α) (k:Nat) (h:k < l.length):zaC p (l.drop k) k=if p (nth l k)=true then (k:Int) else zaC p (l.drop (k + 1)) (k + 1):=by
 rw [List.drop_eq_getElem_cons h,zaC,zv _ _ h]
instance:Inhabited Entry:=⟨⟨default,0,⟨#[]⟩,[]⟩⟩
theorem zkf {α:Type} (p:α→Bool):∀ (l:List α) (k:Nat),zaC p l k = -1∧l.any p=false∨(k:Int)≤zaC p l k∧l.any p=true
 | [],k => .inl ⟨rfl,rfl⟩
 | x :: l,k=>by
  simp only [zaC,List.any_cons]
  cases hx:p x
  ·
   rcases zkf p l (k + 1) with ⟨h1,h2⟩ | ⟨h1,h2⟩
   ·
    exact .inl ⟨by simpa using h1,by simp [h2]⟩
   ·
    exact .inr ⟨by simp; omega,by simp [h2]⟩
  ·
   exact .inr ⟨by simp,by simp⟩
theorem zcH {α:Type} (p:α→Bool) (l:List α):decide (0≤zaC p l 0)=l.any p:=by
 rcases zkf p l 0 with ⟨h1,h2⟩ | ⟨h1,h2⟩
 ·
  rw [h1,h2]; rfl
 ·
  rw [h2]; simp; omega
theorem zgC (l : List Entry) (g : Nat) (caps : List PV) (Hs : List AObj) (p : Entry → Bool) (hg : ZU prog g = true) (hl : l.length ≤ 9223372036854775806) (hc : ClosedH Hs caps)
    (hp:∀ e ∈ l,zg prog g (.agg (cE e) :: caps) Hs (.bool (p e)) Hs) :
    zg prog 178 [.list (l.map cE),.clo g caps] Hs (.int .i64 (zaC p l 0)) Hs:=by
  refine zg.of_walk func178 ntmps178 zwA.1 zwA.2 (by simp) fun x hx=>?_
  simp only [go_sem,zBW,zBX]
  refine zcm [0,1,7,8] (fun n st=>∃ k:Nat,k + n=l.length∧zaC p (l.drop k) k=zaC p l 0 ∧
    st=⟨mkE .top [(0,.list (l.map cE)),(1,.clo g caps),(7,.int .i64 l.length),(8,.int .i64 k)],Hs⟩) l.length ?_ ?_
  · refine ⟨0,by omega,by simp,?_⟩
    simp [ZX,go_sem]
  · rintro n st ⟨k,hk,hi,rfl⟩
    by_cases hlt:k < l.length
    · have hgt:l[k]? = some (nth l k):=zk _ _ hlt
      have wk:=zM (k:=k) (by omega)
      rw [zaS p l k hlt] at hi
      simp only [go_sem,hlt,hgt,cE,cId]
      refine Zm rfl hg (.whole (hp (nth l k) (by rw [zv _ _ hlt]; exact yaw hlt)) rfl ?_ hc.sub hc.back) ?_
      · simp only [go_sem,cE,cId]
        rw [hc.caps]
      cases hpk:p (nth l k)
      · rw [if_neg (by simp [hpk])] at hi
        simp only [go_sem,wk]
        exact ⟨n - 1,by omega,k + 1,by omega,hi,by simp [ZX,go_sem]⟩
      · rw [if_pos hpk] at hi
        simp only [go_sem]
        refine zav hx rfl hc.kept ?_
        simp [go_sem,zBW,zBX,hi]
    · have:l.drop k = []:=ya2 (by omega)
      rw [this] at hi
      simp only [go_sem,hlt]
      refine zav hx rfl hc.kept ?_
      simp [go_sem,zBW,zBX,← hi,zaC]
theorem zlx (l : List Id) (g : Nat) (caps : List PV) (Hs : List AObj) (p : Id → Bool) (hg : ZU prog g = true) (hl : l.length ≤ 9223372036854775806) (hc : ClosedH Hs caps)
    (hp:∀ e ∈ l,zg prog g (.agg (cId e) :: caps) Hs (.bool (p e)) Hs) :
    zg prog 193 [.list (l.map cId),.clo g caps] Hs (.int .i64 (zaC p l 0)) Hs:=by
  refine zg.of_walk func193 ntmps193 zoC.1 zoC.2 (by simp) fun x hx=>?_
  simp only [go_sem,zx1,zx2]
  refine zcm [0,1,7,8] (fun n st=>∃ k:Nat,k + n=l.length∧zaC p (l.drop k) k=zaC p l 0 ∧
    st=⟨mkE .top [(0,.list (l.map cId)),(1,.clo g caps),(7,.int .i64 l.length),(8,.int .i64 k)],Hs⟩) l.length ?_ ?_
  · refine ⟨0,by omega,by simp,?_⟩
    simp [ZX,go_sem]
  · rintro n st ⟨k,hk,hi,rfl⟩
    by_cases hlt:k < l.length
    · have hgt:l[k]? = some (nth l k):=zk _ _ hlt
      have wk:=zM (k:=k) (by omega)
      rw [zaS p l k hlt] at hi
      simp only [go_sem,hlt,hgt,cId,cId]
      refine Zm rfl hg (.whole (hp (nth l k) (by rw [zv _ _ hlt]; exact yaw hlt)) rfl ?_ hc.sub hc.back) ?_
      · simp only [go_sem,cId,cId]
        rw [hc.caps]
      cases hpk:p (nth l k)
      · rw [if_neg (by simp [hpk])] at hi
        simp only [go_sem,wk]
        exact ⟨n - 1,by omega,k + 1,by omega,hi,by simp [ZX,go_sem]⟩
      · rw [if_pos hpk] at hi
        simp only [go_sem]
        refine zav hx rfl hc.kept ?_
        simp [go_sem,zx1,zx2,hi]
    · have:l.drop k = []:=ya2 (by omega)
      rw [this] at hi
      simp only [go_sem,hlt]
      refine zav hx rfl hc.kept ?_
      simp [go_sem,zx1,zx2,← hi,zaC]
theorem zdU (l : List Entry) (g : Nat) (caps : List PV) (Hs : List AObj) (p : Entry → Bool) (hg : ZU prog g = true) (hl : l.length ≤ 9223372036854775806) (hc : ClosedH Hs caps)
    (hp:∀ e ∈ l,zg prog g (.agg (cE e) :: caps) Hs (.bool (p e)) Hs) :
    zg prog 128 [.list (l.map cE),.clo g caps] Hs (.bool (l.any p)) Hs:=by
  refine zg.of_walk func128 ntmps128 zv3.1 zv3.2 (by simp) fun x hx=>?_
  simp only [go_sem,zCO,zCP]
  refine zc (.whole (zgC l g caps Hs p hg hl hc hp) rfl ?_ hc.sub hc.back) ?_
  · simp only [go_sem]
    rw [hc.leaf]
  simp only [go_sem]
  refine zav hx rfl hc.kept ?_
  simp [go_sem,zCO,zCP,zcH]
theorem zdV (l : List Id) (g : Nat) (caps : List PV) (Hs : List AObj) (p : Id → Bool) (hg : ZU prog g = true) (hl : l.length ≤ 9223372036854775806) (hc : ClosedH Hs caps)
    (hp:∀ e ∈ l,zg prog g (.agg (cId e) :: caps) Hs (.bool (p e)) Hs) :
    zg prog 114 [.list (l.map cId),.clo g caps] Hs (.bool (l.any p)) Hs:=by
  refine zg.of_walk func114 ntmps114 zov.1 zov.2 (by simp) fun x hx=>?_
  simp only [go_sem,zAF,zAG]
  refine zc (.whole (zlx l g caps Hs p hg hl hc hp) rfl ?_ hc.sub hc.back) ?_
  · simp only [go_sem]
    rw [hc.leaf]
  simp only [go_sem]
  refine zav hx rfl hc.kept ?_
  simp [go_sem,zAF,zAG,zcH]
def zkg (a b:Entry):Bool:=decide (a.id=b.id) && decide (a.c=b.c) && decide (a.t=b.t) && decide (a.ls=b.ls)
theorem zdW (a b:Entry):zg prog 19 [.agg (cE a),.agg (cE b)] [] (.bool (zkg a b)) []:=by
 refine zg.len2 0 4 rfl (by simp [cE]; rfl) fun hm=>?_
 have hm':a.ls.length≤9223372036854775807:=by simp [maxLen] at hm; omega
 refine zg.of_walk func19 ntmps19 zzI.1 zzI.2 (by simp) fun x hx=>?_
 by_cases h1:a.id=b.id
 ·
  by_cases h2:a.c=b.c
  ·
   by_cases h3:a.t=b.t
   ·
    simp only [go_sem,L19,R19,cE,zgT,h1,h2,h3]
    refine zc (.pure (ZS _ _ hm')) ?_
    simp only [go_sem]
    refine zd hx ?_
    simp [go_sem,L19,R19,zkg,h1,h2,h3]
   ·
    simp only [go_sem,L19,R19,cE,zgT,h1,h2,h3]
    refine zd hx ?_
    simp [go_sem,L19,R19,zkg,h1,h2,h3]
  ·
   simp only [go_sem,L19,R19,cE,zgT,h1,h2]
   refine zd hx ?_
   simp [go_sem,L19,R19,zkg,h1,h2]
 ·
  simp only [go_sem,L19,R19,cE,zgT,h1]
  refine zd hx ?_
  simp [go_sem,L19,R19,zkg,h1]
theorem zgU (e:Entry):zg prog 58 [.agg (cE e)] [] (.int .i64 (zm e)) []:=by
 refine zg.len2 0 4 rfl (by simp [cE]; rfl) fun hm=>?_
 have hm':e.ls.length≤9223372036854775807:=by simp [maxLen] at hm; omega
 refine zg.of_walk func58 ntmps58 zz4.1 zz4.2 (by simp) fun x hx=>?_
 simp only [go_sem,L58,R58,cE]
 refine zc (.pure (zjo e.id)) ?_
 cases h1:zcS e.id
 ·
  simp only [go_sem]
  refine zd hx ?_
  simp [go_sem,L58,R58,zm,h1]
 simp only [go_sem]
 refine zc (.pure (zb5 _ _ _)) ?_
 cases h2:ZI e.c 1 7
 ·
  simp only [go_sem]
  refine zd hx ?_
  simp [go_sem,L58,R58,zm,h1,h2]
 by_cases h3:12 < e.t.size
 ·
  have h3':decide ((12:Int) < e.t.size)=true:=by simp; omega
  simp only [go_sem,h3']
  refine zd hx ?_
  simp [go_sem,L58,R58,zm,h1,h2,h3]
 have h3':decide ((12:Int) < e.t.size)=false:=by simp; omega
 by_cases h4:6 < e.ls.length
 ·
  have h4':decide ((6:Int) < (e.ls.length:Nat))=true:=by simp; omega
  simp only [go_sem,h3',h4']
  refine zd hx ?_
  simp [go_sem,L58,R58,zm,h1,h2,h3,h4]
 have h4':decide ((6:Int) < (e.ls.length:Nat))=false:=by simp; omega
 have hc:zm e=zP (zU e.id e.ls) e.ls.length:=by simp [zm,h1,h2,h3,h4]
 simp only [go_sem,h3',h4',hc]
 refine zy [1,3] 1 (fun n st=>∃ k:Nat,k + n=e.ls.length∧zP (zU e.id e.ls) k=0 ∧
  st=⟨mkE .top [(1,.ptr 0 0),(3,.int .i64 k)],[.box (cE e)]⟩) e.ls.length (by simp [hx]) (by simp) ?_ ?_
 ·
  refine ⟨0,by omega,rfl,?_⟩
  simp [zh,go_sem,ze,zf,pos,yaa,cE]
 ·
  rintro n st ⟨k,hk,hz,rfl⟩
  simp only [go_sem,cE]
  by_cases hlt:k < e.ls.length
  ·
   have hg:e.ls[k]? = some (nth e.ls k):=zk _ _ hlt
   have w1:=zM (k:=k) (by omega)
   simp only [go_sem,hlt,hg,cId]
   refine zc (.pure (zjo (nth e.ls k))) ?_
   cases h5:zcS (nth e.ls k)
   ·
    simp only [go_sem]
    refine zd hx ?_
    have:zU e.id e.ls k=3:=by simp [zU,h5]
    simp only [go_sem,hc,Zg hz (by rw [this]; decide) hlt,this]
   have fin:∀ r:Int,zU e.id e.ls k=r→r≠0→zP (zU e.id e.ls) e.ls.length=r:=fun r h1 h2=>by rw [Zg hz (by rw [h1]; exact h2) hlt,h1]
   by_cases h0:0 < k
   ·
    have hg1:e.ls[k - 1]? = some (nth e.ls (k - 1)):=zk _ _ (by omega)
    have e1:IntKind.i64.wrap ((k:Int) - 1)=((k - 1:Nat):Int):=by rw [IntWalk.i64_in _ (by omega)]; omega
    have d0:decide ((0:Int) < (k:Int))=true:=by simp; omega
    have hlt1:k - 1 < e.ls.length:=by omega
    simp only [go_sem,d0,hlt,hlt1,hg,hg1,e1,cId]
    refine zc (.pure (zke (nth e.ls (k - 1)) (nth e.ls k))) ?_
    cases hl:Zi (nth e.ls (k - 1)) (nth e.ls k)
    ·
     simp only [go_sem,hlt,hg,cId]
     refine zd hx ?_
     have:zU e.id e.ls k=4:=by simp [zU,h5,h0,hl]
     simp only [go_sem,fin _ this (by decide)]
    ·
     by_cases h7:(nth e.ls k).r=e.id.r <;> by_cases h8:e.id.n≤(nth e.ls k).n <;> simp only [go_sem,hlt,hg,cId,h7,h8]
     ·
      refine zd hx ?_
      have:zU e.id e.ls k=4:=by simp [zU,h5,hl,h7,h8]
      simp only [go_sem,fin _ this (by decide)]
     all_goals
      have:zU e.id e.ls k=0:=by simp [zU,h5,hl,h7,h8]
      refine ⟨by simp,n - 1,by omega,k + 1,by omega,Zv hz this,?_⟩
      simp [zh,go_sem,ze,zf,pos,yaa,cE,w1]
   ·
    have d0:decide ((0:Int) < (k:Int))=false:=by simp; omega
    by_cases h7:(nth e.ls k).r=e.id.r <;> by_cases h8:e.id.n≤(nth e.ls k).n <;> simp only [go_sem,d0,hlt,hg,cId,h7,h8]
    ·
     refine zd hx ?_
     have:zU e.id e.ls k=4:=by simp [zU,h5,h0,h7,h8]
     simp only [go_sem,fin _ this (by decide)]
    all_goals
     have:zU e.id e.ls k=0:=by simp [zU,h5,h0,h7,h8]
     refine ⟨by simp,n - 1,by omega,k + 1,by omega,Zv hz this,?_⟩
     simp [zh,go_sem,ze,zf,pos,yaa,cE,w1]
  ·
   simp only [go_sem,hlt]
   refine zd hx ?_
   simp only [go_sem]
   first | rw [hc,show e.ls.length=k by omega,hz] | rw [show e.ls.length=k by omega,hz]
def zG (l:List Entry) (x:Id):Int:=zaC (fun e=>decide (e.id=x)) l 0
theorem zrL (l:List Entry):∀ row ∈ l.map cE,row.length=5:=by simp [cE]
theorem zne (cells : List PV) (h : cells.map (zn false (pos [0]) (zt false [.box cells])) = cells) (h2 : cells.map (zn false (pos [0]) (zt true [.box cells])) = cells) (h3 : cells.map (zn false (ZV 1 [0]) zpu) = cells) :
    ClosedH [.box cells] [.ptr 0 0]:=by
  refine ⟨?_,?_,?_,?_,?_⟩
  · simp [zp,pos,yaa]
  · simp [ren,zn,zp,pos,yaa]
  · simp only [yax,yaS,yaa,yb0,yas,ze,yaA,ya3,ya8,ybA,zf,h]
  · simp only [yax,yaS,yaa,yb0,yas,ZN,yaA,ya3,zS,zT,yaF,Nat.sub_self,ybh]
    simp [pos,zf,h3]
  · simp only [yax,yaS,yaa,yb0,yas,ze,yaA,ya3,ya8,ybA,zf,h2]
theorem znf (x:Id) (e:Entry):zg prog 179 [.agg (cE e),.ptr 0 0] [.box (cId x)] (.bool (decide (e.id=x))) [.box (cId x)]:=by
 refine zg.of_walk func179 ntmps179 zwB.1 zwB.2 (by simp) fun xx hx=>?_
 simp only [go_sem,zDo,zDp,cE,cId,zgT]
 refine zI [] (by simp) (by simp) (by simp [hx]) ?_ ?_
 ·
  simp [go_sem,zDo,zDp,hx]
 ·
  simp [ze,zf,hx,go_sem]
theorem zuA (x:Id):ClosedH [.box (cId x)] [.ptr 0 0]:=zne _ (by simp [cId,zn,zp]) (by simp [cId,zn,zp]) (by simp [cId,zn,zp])
theorem zaL (l:List Entry) (x:Id) (hl:l.length≤9223372036854775806):zg prog 105 [.list (l.map cE),.agg (cId x)] [] (.int .i64 (zG l x)) []:=by
 refine zg.of_walk func105 ntmps105 zvS.1 zvS.2 (by simp) fun xx hx=>?_
 simp only [go_sem,zCE,zCF,cId]
 refine zc (.heapE [0] (r' := .int .i64 (zG l x)) (H' := [.box (cId x)]) (zgC l 179 [.ptr 0 0] [.box (cId x)] (fun e=>decide (e.id=x)) (by kernel_rfl) hl (zuA x) (fun e _=>znf x e)) (by simp) (by simp) (by simp [go_sem,pos]) (by simp [ze,zf,go_sem,cId]) rfl (by simp [ZN,zS,zT,zf,pos,go_sem,yaa,cId])) ?_
 simp only [go_sem]
 refine zd hx ?_
 simp [go_sem,zCE,zCF]
def zax (l:List Entry) (r:Int):Nat:=l.countP fun e=>decide (e.id.r=r)
theorem zcq (l:List Entry) (k:Nat) (r:Int) (h:k < l.length):zax (l.take (k + 1)) r=zax (l.take k) r + if (nth l k).id.r=r then 1 else 0:=by
 rw [yaE h,zv _ _ h]
 simp only [zax,List.countP_append,List.countP_cons,List.countP_nil,decide_eq_true_eq]
 omega
theorem zhD (l:List Entry) (r:Int):zax l r≤l.length:=List.countP_le_length
def zrM (l:List Entry):Prop:=∀ e ∈ l,e.id.r=0∨e.id.r=1
theorem zc7 (l:List Entry) (h:zrM l) (hl:l.length≤1000000000000000):zg prog 113 [.list (l.map cE)] [] (.agg [.int .i64 (zax l 0),.int .i64 (zax l 1)]) []:=by
 refine zg.of_walk func113 ntmps113 zvW.1 zvW.2 (by simp) fun x hx=>?_
 simp only [go_sem,zCG,zCH]
 refine zy [2,3,6,7,8] 2 (fun n st=>∃ k:Nat,k + n=l.length ∧
  st=⟨mkE .top [(2,.ptr 0 0),(3,.ptr 1 0),(6,.list (l.map cE)),(7,.int .i64 l.length),(8,.int .i64 k)],[.box [.int .i64 0,.int .i64 0],.box [.int .i64 (zax (l.take k) 0),.int .i64 (zax (l.take k) 1)]]⟩) l.length (by simp [hx]) (by simp) ?_ ?_
 ·
  refine ⟨0,by omega,?_⟩
  simp [zh,go_sem,ze,zf,pos,yaa,zax]
 ·
  rintro n st ⟨k,hk,rfl⟩
  by_cases hlt:k < l.length
  ·
   have hg:l[k]? = some (nth l k):=zk _ _ hlt
   have wk:=zM (k:=k) (by omega)
   have hle:∀ r,zax (l.take k) r≤1000000000000000:=fun r=>by have:=zhD (l.take k) r; rw [yaz] at this; omega
   have w0:=zM (k:=zax (l.take k) 0) (by have:=hle 0; omega)
   have w1:=zM (k:=zax (l.take k) 1) (by have:=hle 1; omega)
   have c0:=zcq l k 0 hlt
   have c1:=zcq l k 1 hlt
   rcases h (nth l k) (by rw [zv _ _ hlt]; exact yaw hlt) with hr | hr
   ·
    rw [hr] at c0 c1
    simp only [go_sem,hlt,hg,cE,hr,w0,w1,wk,Int.reduceLE,Int.reduceLT,Int.reduceToNat,yao,yaX,yaD,yaO]
    refine ⟨by simp,n - 1,by omega,k + 1,by omega,?_⟩
    simp [zh,go_sem,ze,zf,pos,yaa,c0,c1]
   ·
    rw [hr] at c0 c1
    simp only [go_sem,hlt,hg,cE,hr,w0,w1,wk,Int.reduceLE,Int.reduceLT,Int.reduceToNat,yao,yaX,yaD,yaO]
    refine ⟨by simp,n - 1,by omega,k + 1,by omega,?_⟩
    simp [zh,go_sem,ze,zf,pos,yaa,c0,c1]
  ·
   have:l.take k=l:=yan (by omega)
   simp only [go_sem,hlt]
   refine zd hx ?_
   simp [go_sem,zCG,zCH,this]
def zbg (l:List Entry) (e:Entry):Bool:=decide ((zax l e.id.r:Int) + 1=e.id.n) && !(e.ls.any fun x=>decide (zG l x < 0))
theorem zly (l:List Entry) (x:Id) (hl:l.length≤9223372036854775806):zg prog 206 [.agg (cId x),.ptr 0 0] [.box [.list (l.map cE)]] (.bool (decide (zG l x < 0))) [.box [.list (l.map cE)]]:=by
 refine zg.of_walk func206 ntmps206 zwP.1 zwP.2 (by simp) fun xx hx=>?_
 simp only [go_sem,zDE,zDF,cId]
 refine zc (.pureE (zaL l x hl) (by simp [go_sem,cId])) ?_
 simp only [go_sem]
 refine zI [] (by simp) (by simp) (by simp [hx]) ?_ ?_
 ·
  simp [go_sem,zDE,zDF,hx]
 ·
  simp [ze,zf,hx,go_sem]
theorem zyc (l:List Entry):ClosedH [.box [.list (l.map cE)]] [.ptr 0 0]:=zne _ (by simp [zn,zp]) (by simp [zn,zp]) (by simp [zn,zp])
theorem zng (l : List Entry) (e : Entry) (h : zrM l) (hl : l.length ≤ 1000000000000000) (he : e.id.r = 0 ∨ e.id.r = 1) (hls : e.ls.length ≤ 9223372036854775806) :
    zg prog 129 [.list (l.map cE),.agg (cE e)] [] (.bool (zbg l e)) []:=by
  refine zg.of_walk func129 ntmps129 zv4.1 zv4.2 (by simp) fun x hx=>?_
  have hw:IntKind.i64.wrap ((zax l e.id.r:Int) + 1)=(zax l e.id.r:Int) + 1:=by have:=zhD l e.id.r; rw [IntWalk.i64_in _ (by omega)]
  simp only [go_sem,zBE,zBF,cE]
  refine zc (.pure (zc7 l h hl)) ?_
  have hany:=zdV e.ls 206 [.ptr 0 0] [.box [.list (l.map cE)]] (fun x=>decide (zG l x < 0)) (by kernel_rfl) hls (zyc l) (fun y _=>zly l y (by omega))
  rcases he with hr | hr
  all_goals
    rw [hr] at hw
    by_cases hc:(zax l e.id.r:Int) + 1=e.id.n
    · have hc':=hc
      rw [hr] at hc'
      have dc:=decide_eq_true hc'
      simp only [go_sem,hr,hw,dc,Int.reduceLE,Int.reduceLT,Int.reduceToNat,yao,yaX,yaD,yaO]
      refine zc (.heapE [0] (r' := .bool (e.ls.any fun x=>decide (zG l x < 0))) (H' := [.box [.list (l.map cE)],.box (cE e)]) hany (by simp) (by simp) (by simp [go_sem,pos]) (by simp [ze,zf,go_sem]) rfl (by simp [ZN,zS,zT,zf,pos,go_sem,yaa,cE,hr])) ?_
      simp only [go_sem]
      refine zd hx ?_
      simp [go_sem,zBE,zBF,zbg,hc]
    · have hc':=hc
      rw [hr] at hc'
      simp only [go_sem,hr,hw,hc',Int.reduceLE,Int.reduceLT,Int.reduceToNat,yao,yaX,yaD,yaO]
      refine zd hx ?_
      simp [go_sem,zBE,zBF,zbg,hc]
def ZZ (l:List Entry) (k:Nat):Int :=
 if zm (nth l k)≠0 then zm (nth l k) else if 0≤zG (l.take k) (nth l k).id then 6
 else if (zax (l.take k) (nth l k).id.r:Int) + 1≠(nth l k).id.n then 4 else if zbg (l.take k) (nth l k)=false then 5 else 0
def zJ (l:List Entry):Int:=if 40 < l.length then 2 else zP (ZZ l) l.length
theorem za4 {e:Entry} (h:zm e=0):e.id.r=0∨e.id.r=1:=by
 have:=(zV h).1
 simp only [zcS,yat,zY] at this
 omega
theorem zjp {l:List Entry} {k:Nat} (h:zP (ZZ l) k=0) (hk:k≤l.length):zrM (l.take k):=by
 intro e he
 obtain ⟨j,hj,rfl⟩:=yaq he
 rw [yaz] at hj
 have h0:=zai.1 h j (by omega)
 have hc:zm (nth l j)=0:=by
  unfold ZZ at h0
  split at h0
  ·
   exact h0
  ·
   rename_i h; simpa using h
 rw [List.getElem_take,← zv l j (by omega)]
 exact za4 hc
theorem ZD (l:List Entry) (hm:l.length≤9223372036854775806):zg prog 75 [.list (l.map cE)] [] (.int .i64 (zJ l)) []:=by
 refine zg.of_walk func75 ntmps75 zz8.1 zz8.2 (by simp) fun x hx=>?_
 by_cases h40:40 < l.length
 ·
  have d40:decide ((40:Int) < (l.length:Nat))=true:=by simp; omega
  simp only [go_sem,L75,R75,d40]
  refine zd hx ?_
  simp [go_sem,L75,R75,zJ,h40]
 have d40:decide ((40:Int) < (l.length:Nat))=false:=by simp; omega
 have hcl:zJ l=zP (ZZ l) l.length:=by simp [zJ,h40]
 simp only [go_sem,L75,R75,d40,hcl]
 refine zy [0,9,10,11] 0 (fun n st=>∃ k:Nat,k + n=l.length∧zP (ZZ l) k=0 ∧
  st=⟨mkE .top [(0,.list (l.map cE)),(9,.list (l.map cE)),(10,.int .i64 l.length),(11,.int .i64 k)],[]⟩) l.length (by simp [hx]) (by simp) ?_ ?_
 ·
  refine ⟨0,by omega,rfl,?_⟩
  simp [zh,go_sem,ze,zf,pos]
 ·
  rintro n st ⟨k,hk,hz,rfl⟩
  by_cases hlt:k < l.length
  ·
   have hg:l[k]? = some (nth l k):=zk _ _ hlt
   have wk:=zM (k:=k) (by omega)
   have hle:k≤l.length:=by omega
   have hrow:(∀ row ∈ List.map cE l,row.length=5)=True:=eq_true (zrL l)
   have htk:List.take k (List.map cE l)=List.map cE (List.take k l):=List.map_take.symm
   have hlk:(l.take k).length≤40:=by rw [yaz]; omega
   have hreg:=zjp hz hle
   have fin:∀ r:Int,ZZ l k=r→r≠0→zP (ZZ l) l.length=r:=fun r h1 h2=>by rw [Zg hz (by rw [h1]; exact h2) hlt,h1]
   simp only [go_sem,hlt,hg,cE]
   refine zc (.pureE (ze0 (nth l k)) (by simp [go_sem,cE])) ?_
   by_cases h1:zm (nth l k)=0
   ·
    have hr:=za4 h1
    simp only [go_sem,h1,hle,hrow,htk,yaO,ybK,yaD,ybm,cE]
    refine zc (.pureE (zaL (l.take k) (nth l k).id (by omega)) (by simp [go_sem,cId])) ?_
    by_cases h2:0≤zG (l.take k) (nth l k).id
    ·
     simp only [go_sem,h2]
     refine zd hx ?_
     have:ZZ l k=6:=by simp [ZZ,h1,h2]
     simp [go_sem,L75,R75,fin _ this (by decide)]
    simp only [go_sem,h2,hle,hrow,htk,yaO,ybK,yaD,ybm,cE]
    refine zc (.pureE (zc7 (l.take k) hreg (by omega)) (by simp [go_sem])) ?_
    have hw:∀ r,IntKind.i64.wrap ((zax (l.take k) r:Int) + 1)=(zax (l.take k) r:Int) + 1:=fun r=>by have:=zhD (l.take k) r; rw [IntWalk.i64_in _ (by omega)]
    by_cases h3:(zax (l.take k) (nth l k).id.r:Int) + 1=(nth l k).id.n
    ·
     have h3e:ZZ l k=if zbg (l.take k) (nth l k)=false then 5 else 0:=by simp [ZZ,h1,h2,h3]
     rcases hr with hr | hr
     all_goals
      have h3':=h3
      rw [hr] at h3'
      have dc:=decide_eq_true h3'
      simp only [go_sem,hr,hw,dc,hle,hrow,htk,ybK,ybm,cE,Int.reduceLE,Int.reduceLT,Int.reduceToNat,yao,yaX,yaD,yaO]
      refine zc (.pureE (zng (l.take k) (nth l k) hreg (by omega) (by omega) (by have:=(zV h1).2.2.2.1; omega)) (by simp [go_sem,cE,hr])) ?_
      cases h4:zbg (l.take k) (nth l k)
      ·
       simp only [go_sem]
       refine zd hx ?_
       have:ZZ l k=5:=by rw [h3e,if_pos h4]
       simp [go_sem,L75,R75,fin _ this (by decide)]
      ·
       simp only [go_sem,wk]
       refine ⟨by simp,n - 1,by omega,k + 1,by omega,Zv hz (by rw [h3e,if_neg (by simp [h4])]),?_⟩
       simp [zh,go_sem,ze,zf,pos]
    ·
     rcases hr with hr | hr
     all_goals
      have h3':=h3
      rw [hr] at h3'
      have dc:=decide_eq_false h3'
      simp only [go_sem,hr,hw,dc,Int.reduceLE,Int.reduceLT,Int.reduceToNat,yao,yaX,yaD,yaO]
      refine zd hx ?_
      have:ZZ l k=4:=by simp [ZZ,h1,h2,h3]
      simp [go_sem,L75,R75,fin _ this (by decide)]
   ·
    simp only [go_sem,h1]
    refine zd hx ?_
    have:ZZ l k=zm (nth l k):=by simp [ZZ,h1]
    simp [go_sem,L75,R75,fin _ this h1]
  ·
   have hke:k=l.length:=by omega
   subst hke
   simp only [go_sem,ybO,hz]
   refine zd hx ?_
   simp [go_sem,L75,R75,hz]
section
variable {x:Cx} {C:Conc} {H:List AObj} {w w':World}
theorem HR.row (hr : HR x C H w) {id v T sz : Nat} {sto : Bool} {rows : List (List PV)} {u : Value} (hid : H[id]? = some (.arr v sto false T sz rows)) (hu : RepV (zu x C H w) w C (.arr id v) u) :
    u=C.sv id∧(∀ row ∈ rows,row.length=sz)∧(u = .slice none 0 0∧rows = []∨∃ (g cap:Nat) (cur:Array Value),u = .slice (some ⟨g,0,none⟩) rows.length cap∧w.heap[g]? = some (.cells cur T (0,0))∧rows.length≤cap∧cap≤maxLen∧cur.size=cap * sz ∧
      ∀ (k:Nat) row (j:Nat) p,rows[k]? = some row→row[j]? = some p→∃ y,cur[k * sz + j]? = some y∧y.oneCell'=true∧RepP (zu x C H w) w p y):=by
  obtain ⟨o1,o2,o3,xs,o4,o5⟩:=hr.obj id _ hid
  obtain ⟨e,hi⟩:=hu.arr_inv o1
  refine ⟨e,o3,?_⟩
  rcases o4.2 with ⟨g1,g2⟩ | ⟨g,cap,cur,g1,-,g2,g3,g4,g5,g6⟩
  · exact .inl ⟨e.trans g1,ybs.1 g2⟩
  · refine .inr ⟨g,cap,cur,e.trans g1,g2,g3,g4,g5,fun k row j p a b=>?_⟩
    have hk:k < rows.length:=(yab.1 a).1
    have hj:j < sz:=by rw [← o3 row (yaf a)]; exact (yab.1 b).1
    have hkl:k * sz + j < rows.length * sz:=by
      have:(k + 1) * sz≤rows.length * sz:=yaj _ hk
      rw [yaI] at this; omega
    have hcl:rows.length * sz≤cap * sz:=yaj _ g3
    have hlt:k * sz + j < cur.size:=by omega
    have hx:xs[k * sz + j]? = some cur[k * sz + j]:=by rw [← g6,yaK,if_pos hkl,yaV,ya4 hlt]
    have:=o5 k row j p _ a b hx
    simp only [yap,if_false] at this
    exact ⟨_,ya4 hlt,this⟩
theorem HR.drop (hr : HR x C H w) {id v T sz g cap' : Nat} {rows rows' : List (List PV)} {cur' : Array Value} 
    (hid:H[id]? = some (.arr v true false T sz rows)) (hs:Step w w' fun b=>(C.sv id).ownBlock=some b) (hg:(C.sv id).ownBlock=some g)
    (hc:w'.heap[g]? = some (.cells cur' T (0,0))) (hn:rows'.length≤cap') (hm:cap'≤maxLen) (hz:cur'.size=cap' * sz) (hrow:∀ row ∈ rows',row.length=sz)
    (hrep:∀ (k:Nat) row (j:Nat) p u,rows'[k]? = some row→row[j]? = some p→cur'[k * sz + j]? = some u→RepP (zu x C H w) w p u) :
    HR x C (H.set id .gone) w'∧(∀ p u,RepV (zu x C H w) w C p u→RepV (zu x C (H.set id .gone) w') w' C p u) ∧
      RepP (zu x C (H.set id .gone) w') w' (.list rows') (.slice (some ⟨g,0,none⟩) rows'.length cap'):=by
  obtain ⟨o1,o2,o3,xs,o4,o5⟩:=hr.obj id _ hid
  have hlt:id < H.length:=(yab.1 hid).1
  have hgb:g < w'.heap.size:=(yak.1 hc).1
  have hmp:∀ p v,RepP (zu x C H w) w p v→RepP (zu x C (H.set id .gone) w') w' p v:=by
    intro p v h
    refine h.mono (fun b o h=>⟨h.1.imp_right fun q=>⟨q.1,by
      by_cases e:(C.sv id).ownBlock=some b
      · have e2:=ybe (hg.symm.trans e); subst e2; exact .of hc
      · exact q.2.same (hs.blk b h.2.1 e)⟩,yam h.2.1 hs.size,fun i ob1 hi=>?_⟩) fun b o h=>zbb (hs.blk b h.2.1 fun hb=>?_)
    · by_cases e:i=id
      · subst e; rw [ya9 hlt] at hi; cases hi; trivial
      · rw [ybl (Ne.symm e)] at hi; exact h.2.2 i ob1 hi
    · have:=h.2.2 id _ hid hb; simp at this
  obtain ⟨k1,k2⟩:=hr.change (C':=C) hid (ob' := .gone) hs rfl (fun _=>rfl) (fun _ _=>⟨rfl,rfl⟩) (.inl ⟨rfl,rfl⟩)
    (fun b o hb hf=>trivial) (fun b o hb hf=>by have:=hf hb; simp at this) (fun b hb=>hb.elim) (fun _ _=>trivial) (hfz:=fun b hb _=>by have e:=ybe (hg.symm.trans hb); subst e; exact .of hc)
  refine ⟨k1,k2,?_⟩
  refine .list rows' _ cap' sz (fun k j=>cur'[k * sz + j]!) hn hm o2 hrow (fun k row j p a b=>⟨g,0,rfl,?_,?_⟩) fun k row j p a b=>?_
  · refine ⟨?_,hgb,fun i ob1 hi=>?_⟩
    · exact .inr ⟨hr.mine id _ g hid hg,.of hc⟩
    · by_cases e:i=id
      · subst e; rw [ya9 hlt] at hi; cases hi; trivial
      · rw [ybl (Ne.symm e)] at hi
        exact AObj.free_of_not (fun hb=>e (hr.apart i id ob1 _ g hi hid hb hg)) _
  all_goals
    have hk:k < rows'.length:=(yab.1 a).1
    have hj:j < sz:=by rw [← hrow row (yaf a)]; exact (yab.1 b).1
    have hkl:k * sz + j < cur'.size:=by
      have h1:(k + 1) * sz≤rows'.length * sz:=yaj _ hk
      have h2:rows'.length * sz≤cap' * sz:=yaj _ hn
      rw [yaI] at h1; omega
  · simp [World.cell?,hc,hkl]
  · exact hmp _ _ (hrep k row j p _ a b (by simp [hkl]))
end
end Go.Proofs.YtkcahmbcpkjpiaaGreatDoor
namespace Go.Proofs.YtkcahmbcpkjpiaaGreatDoor
open Go.RowKit
open Go.Sort (flatK putRowK HoldsK size_flatK get_flatK putCells mapBlock onCells)
structure Flat {α:Type} (pv:α→List PV) (enc:α→List Value) (k:Nat):Prop where
 k0:0 < k
 len:∀ a,(enc a).length=k
 lenp:∀ a,(pv a).length=k
 one:∀ a,∀ v ∈ enc a,v.oneCell'=true
 fit:∀ S w a (j:Nat) p,(pv a)[j]? = some p→RepP S w p ((enc a)[j]!)
 back:∀ S w a (j:Nat) p u,(pv a)[j]? = some p→RepP S w p u→u=(enc a)[j]!
section
variable {α:Type} [Inhabited α] {pv:α→List PV} {enc:α→List Value} {k:Nat}
theorem Flat.holds (F : Flat pv enc k) {S : Nat → Nat → Prop} {w : World} {g T : Nat} {cur : Array Value} (l : List α) (hc : w.heap[g]? = some (.cells cur T (0, 0)))
    (h:∀ (i:Nat) row (j:Nat) p,(l.map pv)[i]? = some row→row[j]? = some p→∃ y,cur[i * k + j]? = some y∧y.oneCell'=true∧RepP S w p y):HoldsK enc k w g 0 l.toArray:=by
  intro t ht
  rw [size_flatK] at ht
  rw [get_flatK _ _ _ _ ht]
  have k0:=F.k0
  have hi:t / k < l.length:=Nat.div_lt_of_lt_mul (by rw [ybW]; simpa using ht)
  have hj:t % k < k:=Nat.mod_lt _ k0
  have e:t / k * k + t % k=t:=by rw [ybW]; exact Nat.div_add_mod t k
  obtain ⟨y,h1,-,h3⟩:=h (t / k) (pv l[t / k]) (t % k) ((pv l[t / k])[t % k]'(by rw [F.lenp]; exact hj)) (by simp [hi]) (by rw [yac (by rw [F.lenp]; exact hj)])
  have h4:=F.back _ _ _ _ _ _ (yac (by rw [F.lenp]; exact hj)) h3
  rw [e] at h1
  have e2:l.toArray[t / k]! = l[t / k]:=by simp [hi]
  rw [e2,← h4]
  refine ⟨?_,?_⟩
  · simp [World.cell?,hc,h1]
  · simp [World.frozen?,hc]
theorem zlz (enc : α → List Value) (k : Nat) (w : World) (g m : Nat) (d' : Array α) (os : Array Obj) {cur : Array Value} {T : TypeId} {fr : Nat × Nat} (hc : w.heap[g]? = some (.cells cur T fr)) :
    ∃ cur':Array Value,(sortWorldK enc k w g 0 m d' os).heap[g]? = some (.cells cur' T fr)∧cur'.size=cur.size ∧
      (∀ t y,t < d'.size * k→cur'[t]? = some y→y=(flatK enc k d')[t]!)∧Step w (sortWorldK enc k w g 0 m d' os) (fun b=>b=g):=by
  have hlt:g < w.heap.size:=(yak.1 hc).1
  have hh:(sortWorldK enc k w g 0 m d' os).heap=w.heap.modify g (onCells (putCells id 0 (flatK enc k d'))) ++ os:=rfl
  refine ⟨putCells id 0 (flatK enc k d') cur,?_,by simp [putCells],fun t y ht hy=>?_,?_⟩
  · rw [hh,Array.getElem?_append_left (by simpa using hlt),ybi,if_pos rfl,hc]
    rfl
  · rw [putCells,Array.getElem?_mapIdx] at hy
    cases hcu:cur[t]? with
    | none=>rw [hcu] at hy; cases hy
    | some z =>
      rw [hcu,yaM,if_pos ⟨ybv _,by rw [size_flatK]; omega⟩] at hy
      exact (ybe hy).symm
  · refine ⟨by rw [hh]; simp,rfl,rfl,rfl,fun b hb hne=>?_⟩
    rw [hh,Array.getElem?_append_left (by simpa using hb),ybi,if_neg (fun e=>hne e.symm)]
theorem Flat.rep (F : Flat pv enc k) {S : Nat → Nat → Prop} {w : World} {d' : Array α} {cur' : Array Value} (h : ∀ t y, t < d'.size * k → cur'[t]? = some y → y = (flatK enc k d')[t]!) {l : List α} (n : Nat) (hl : ∀ i, i < n → l[i]? = some d'[i]!) (hn : l.length = n) (hnd : n ≤ d'.size) :
    ∀ (i:Nat) row (j:Nat) p u,(l.map pv)[i]? = some row→row[j]? = some p→cur'[i * k + j]? = some u→u.oneCell'=true∧RepP S w p u:=by
  intro i row j p u a b c
  have k0:=F.k0
  rw [yav] at a
  obtain ⟨y,hy,rfl⟩:=yad.1 a
  have hi:i < n:=by rw [← hn]; exact (yab.1 hy).1
  have hj:j < k:=by rw [← F.lenp y]; exact (yab.1 b).1
  rw [hl i hi] at hy
  have ht:i * k + j < d'.size * k:=by
    have:(i + 1) * k≤d'.size * k:=yaj _ (by omega)
    rw [yaI] at this; omega
  have hu:=h _ _ ht c
  rw [get_flatK _ _ _ _ ht] at hu
  have e1:(i * k + j) / k=i:=by rw [ybW,Nat.mul_add_div k0,Nat.div_eq_of_lt hj]; rfl
  have e2:(i * k + j) % k=j:=by rw [ybW,Nat.mul_add_mod,Nat.mod_eq_of_lt hj]
  rw [e1,e2,ybe hy] at hu
  subst hu
  refine ⟨F.one y _ ?_,F.fit _ _ _ _ _ b⟩
  rw [getElem!_pos _ j (by rw [F.len]; exact hj)]
  exact yaw _
end
end Go.Proofs.YtkcahmbcpkjpiaaGreatDoor
namespace Go.Proofs.YtkcahmbcpkjpiaaGreatDoor
open Go.RowKit Go.Lib Go.Sort
open Go.Shelf
def eId (x:Id):List Value := [.int .i64 x.r,.int .i64 x.n]
theorem zlA {α:Type} [Inhabited α] (enc:α→List Value) (k:Nat) (hk:∀ x,(enc x).length=k) (d:Array α) (i:Nat) (hi:i < d.size) (x:α):setMany (flatK enc k d) (i * k) (enc x)=flatK enc k (d.setIfInBounds i x):=by
  refine ext_get! (by simp) fun t ht=>?_
  have ht':t < d.size * k:=by simpa using ht
  have k0 : 0 < k := by rcases yb5 k with h | h; · subst h; simp at ht'
                        · exact h
  rw [get_setMany _ _ _ t (by simpa using ht'),get_flatK _ _ _ t ht',get_flatK _ _ _ t (by simpa using ht'),hk]
  by_cases a:t / k=i
  · have m:t - i * k=t % k:=by subst a; rw [Nat.mod_eq_sub_div_mul]
    rw [if_pos ((blk_iff k i t k0).2 a),m,a,getElem!_set_same d i x hi]
  · rw [if_neg (fun h=>a ((blk_iff k i t k0).1 h)),getElem!_set_other d i _ x a]
theorem zcr {P : Program} (w : World) (t e ty : TypeId) (z : Value) (ht : P.underlying t = some (.slice e)) (hv : ∀ w, (zeroValue e).run P w = .ok z w) (h1 : ∀ v ∈ z.cells, v.oneCell' = true) (b o n c : Nat) (hn : 0 < n)
    (hc:∀ j,j < n * z.cells.size→(w.cell? ⟨b,o + j,none⟩).isSome=true) (hf:∀ j,j < n * z.cells.size→w.frozen? ⟨b,o + j,none⟩=false) :
    ∃ zs:List Value,zs.length=n * z.cells.size∧(Builtin.clear_ #[t] ty #[.slice (some ⟨b,o,none⟩) n c]).run P w = .ok (.tuple #[]) (w.setCells b o zs):=by
  refine ⟨(Builtin.zeroCells z.cells n).toList,by simp [Builtin.zeroCells,ybW],?_⟩
  have hst:=run_storeCells_cells (P:=P) b o (Builtin.zeroCells z.cells n).toList 0 w (by simpa [Builtin.zeroCells,ybW] using hc) (by simpa [Builtin.zeroCells,ybW] using hf) (by
    intro v hv'
    obtain ⟨i,hi,rfl⟩:=List.mem_iff_getElem.1 hv'
    simp only [Builtin.zeroCells,Array.getElem_toList,Array.getElem_map,Array.getElem_range]
    have hs:0 < z.cells.size:=by
      rcases yb5 z.cells.size with h | h
      · simp [Builtin.zeroCells,h] at hi
      · exact h
    have:=Nat.mod_lt i hs
    exact h1 _ (by simp [getElem!_pos,this]))
  simp only [ybh] at hst
  obtain ⟨m,rfl⟩:∃ m,n=m + 1:=⟨n - 1,by omega⟩
  simp [Builtin.clear_,run_underlying ht,hv,hst]
theorem zrN (x:Id):(eId x).length=2:=rfl
theorem zyd (x:Id):∀ v ∈ eId x,v.oneCell'=true:=by
 intro v hv; simp [eId] at hv; rcases hv with rfl | rfl <;> rfl
theorem zc8 {w : World} {blk off : Nat} {d : Array Id} (h : HoldsK eId 2 w blk off d) {i : Nat} (hi : i < d.size) :
    w.cell? ⟨blk,off + i * 2,none⟩=some (.int .i64 d[i]!.r)∧w.cell? ⟨blk,off + i * 2 + 1,none⟩=some (.int .i64 d[i]!.n)∧w.frozen? ⟨blk,off + i * 2,none⟩=false∧w.frozen? ⟨blk,off + i * 2 + 1,none⟩=false :=
  ⟨(h.cell hi (c:=0) (by omega)).1,(h.cell hi (c:=1) (by omega)).1,(h.cell hi (c:=0) (by omega)).2,(h.cell hi (c:=1) (by omega)).2⟩
theorem zeH {w wr : World} {n blk off : Nat} {dk : Array Id} {i : Nat} (hi : i < dk.size) (hwr : wr = putRowK eId 2 (Sort.ahead w n) blk off dk) (x : Id) :
    wr.setCells blk (off + i * 2) (eId x)=putRowK eId 2 (Sort.ahead w n) blk off (dk.setIfInBounds i x):=by
  subst hwr
  unfold putRowK
  rw [setCells_putRow _ _ _ _ _ _ (by rw [size_flatK,zrN]; omega),zlA eId 2 zrN dk i hi x]
def znh (w:World) (blk off:Nat) (d:Array Id) (w':World):Prop :=
 ∃ (q:Nat) (F:Array Value),F.size=d.size * 2∧(∀ t,t < (compactUpTo d d.size).length * 2→F[t]! = (flatK eId 2 (compactUpTo d d.size).toArray)[t]!)∧w'=putRow id (Sort.ahead w q) blk off F
theorem zlB {w:World} {blk off:Nat} {d:Array Id} (hH:HoldsK eId 2 w blk off d) (q:Nat) (hall:∀ j,j < d.size→keeps d j=true):(compactUpTo d d.size).length=d.size∧znh w blk off d (w.drewN q):=by
 have e:compactUpTo d d.size=d.toList:=by rw [compactUpTo_all d _ hall,range_map_get]
 refine ⟨by rw [e]; simp,q,flatK eId 2 d,size_flatK _ _ _,fun t _=>by rw [e],?_⟩
 exact (putRow_self id (Sort.ahead w q) blk off _ (holdsK_ahead eId 2 w q blk off d hH)).symm
set_option maxRecDepth 1000000 in
theorem ziL (blk off cap : Nat) (d : Array Id) (w : World) (hH : HoldsK eId 2 w blk off d) (hsz : d.size ≤ 9223372036854775807) (hcap : d.size ≤ cap) :
    Calls Tryz.prog 180 #[.slice (some ⟨blk,off,none⟩) d.size cap] w fun e w'=>e = .returned (.slice (some ⟨blk,off,none⟩) (compactUpTo d d.size).length cap)∧znh w blk off d w':=by
  have mixed:Tryz.prog.follows Departure.mixedOrders=true:=rfl
  have HS:Aside (∀ q,(∀ j,j < d.size→keeps d j=true)→(compactUpTo d d.size).length=d.size∧znh w blk off d (w.drewN q)):=fun q=>zlB hH q
  by_cases h2:d.size < 2
  · have HH:Aside (HoldsK eId 2 w blk off d):=hH
    clear hH
    go_enter Tryz.func180,Tryz.ntmps180
    go_wp2
    go_ret
    obtain ⟨e1,e2⟩:=HS.out 0 (fun j hj=>keeps_lt_one d j (by omega))
    exact ⟨by rw [e1]; rfl,e2⟩
  · go_enter Tryz.func180,Tryz.ntmps180
    go_wp2
    go_loopg [3] d.size (fun g s3 wr=>∃ k q:Nat,1≤k∧k≤d.size∧d.size - k≤g∧s3 = .int .i64 k∧wr=w.drewN q∧∀ j,j < k→keeps d j=true)
    case atStart=>exact ⟨1,0,yag _,by omega,by omega,rfl,rfl,keeps_lt_one d⟩
    case round =>
      obtain ⟨k,q,hk1,hk,hg,rfl,rfl,hall⟩:=hrel
      by_cases hlt:k < d.size
      · obtain ⟨c1,c1',f1,f1'⟩:=zc8 hH hlt
        obtain ⟨c0,c0',f0,f0'⟩:=zc8 hH (i:=k - 1) (by omega)
        have A:Aside (∀ j,j < k→keeps d j=true):=hall
        have HH:Aside (HoldsK eId 2 w blk off d):=hH
        clear hall hH f1 f1' f0 f0'
        generalize hx:d[k]! = x at c1 c1'
        generalize hy:d[k - 1]! = y at c0 c0'
        have B:Aside (d[k]! = x∧d[k - 1]! = y):=⟨hx,hy⟩
        clear hx hy
        by_cases hdup:x=y
        · subst hdup
          go_wp2_with fail
          go_region_o
          go_wp2
          clear c0 c1 c0' c1'
          go_loopg [3,5] d.size (fun g s3 s5 wr=>∃ (kk k2 q2:Nat) (dk:Array Id),s3 = .int .i64 kk∧s5 = .int .i64 k2∧1≤k2∧k + k2≤d.size∧d.size - (k + k2)≤g∧wr=putRowK eId 2 (Sort.ahead w q2) blk off dk∧CompInv d (k + k2) kk dk)
          case atStart=>exact ⟨k,1,q + 1,d,rfl,rfl,yag _,by omega,by omega,(putRowK_self eId 2 (Sort.ahead w (q + 1)) blk off d (holdsK_ahead eId 2 w (q + 1) blk off d HH.out)).symm,CompInv.start A.out (keeps_neg (by omega) (by rw [B.out.1,B.out.2]))⟩
          case round =>
            obtain ⟨kk,k2,q2,dk,rfl,rfl,h1,hle,hg2,hwr,hI⟩:=hrel
            have hkk:=hI.lt
            have hds:=hI.size
            have hHk:HoldsK eId 2 wr blk off dk:=by rw [hwr]; exact holdsK_putRowK eId 2 _ blk off d dk (holdsK_ahead eId 2 w q2 blk off d HH.out) hds
            have W2:Aside (wr=putRowK eId 2 (Sort.ahead w q2) blk off dk):=hwr
            have I2:Aside (CompInv d (k + k2) kk dk):=hI
            clear hwr
            by_cases hlt2:k + k2 < d.size
            · obtain ⟨cm,cm',-,-⟩:=zc8 hHk (i:=k + k2) (by omega)
              obtain ⟨cp,cp',-,-⟩:=zc8 hHk (i:=k + k2 - 1) (by omega)
              obtain ⟨ck,ck',fk,fk'⟩:=zc8 hHk (i:=kk) (by omega)
              rw [hI.high (k + k2) (by omega),show off + (k + k2) * 2=off + k * 2 + k2 * 2 by omega] at cm cm'
              rw [hI.high (k + k2 - 1) (by omega),show off + (k + k2 - 1) * 2=off + k * 2 + (k2 - 1) * 2 by omega] at cp cp'
              clear hHk hI
              generalize hu:d[k + k2]! = u at cm cm'
              generalize hv:d[k + k2 - 1]! = v at cp cp'
              generalize dk[kk]! = old at ck ck'
              have C:Aside (d[k + k2]! = u∧d[k + k2 - 1]! = v):=⟨hu,hv⟩
              clear hu hv
              by_cases huv:u=v
              · subst huv
                go_wp2_with fail
                go_region_o
                go_wp2
                go_roundg (d.size - (k + (k2 + 1)))
                case measure=>omega
                case rel=>exact ⟨kk,k2 + 1,q2 + 1,dk,rfl,by go_num,by omega,by omega,yag _,by rw [W2.out]; rfl,I2.out.skip (keeps_neg (by omega) (by rw [C.out.1,C.out.2]))⟩
              · have N:Aside (u≠v):=huv
                obtain ⟨ur,un⟩:=u
                obtain ⟨vr,vn⟩:=v
                simp only at cm cm' cp cp'
                by_cases hr:ur=vr
                · subst hr
                  have hn:un≠vn:=fun e=>huv (by rw [e])
                  clear huv
                  go_wp2_with fail
                  go_region_o
                  go_wp2
                  go_roundg (d.size - (k + (k2 + 1)))
                  case measure=>omega
                  case rel =>
                    refine ⟨kk + 1,k2 + 1,q2 + 1,dk.setIfInBounds kk ⟨ur,un⟩,by go_num,by go_num,by omega,by omega,yag _,?_,?_⟩
                    · exact zeH (wr:=wr.drew) (n:=q2 + 1) (by omega) (by rw [W2.out]; rfl) ⟨ur,un⟩
                    · have:=I2.out.keep hlt2 (keeps_pos (by rw [C.out.1,C.out.2]; exact N.out)); rwa [C.out.1] at this
                · clear huv
                  go_wp2_with fail
                  go_region_o
                  go_wp2
                  go_roundg (d.size - (k + (k2 + 1)))
                  case measure=>omega
                  case rel =>
                    refine ⟨kk + 1,k2 + 1,q2 + 1,dk.setIfInBounds kk ⟨ur,un⟩,by go_num,by go_num,by omega,by omega,yag _,?_,?_⟩
                    · exact zeH (wr:=wr.drew) (n:=q2 + 1) (by omega) (by rw [W2.out]; rfl) ⟨ur,un⟩
                    · have:=I2.out.keep hlt2 (keeps_pos (by rw [C.out.1,C.out.2]; exact N.out)); rwa [C.out.1] at this
            · have hend:k + k2=d.size:=by omega
              obtain ⟨zs,hzl,hcl⟩:∃ zs:List Value,zs.length=(d.size - kk) * 2∧∀ ty,(Builtin.clear_ #[30] ty #[.slice (some ⟨blk,off + kk * 2,none⟩) (d.size - kk) (cap - kk)]).run Tryz.prog wr = .ok (.tuple #[]) (wr.setCells blk (off + kk * 2) zs):=by
                obtain ⟨zs,h1,h2⟩:=zcr (P:=Tryz.prog) wr 30 29 0 (.agg #[.int .i64 0,.int .i64 0]) rfl (fun _=>by kernel_rfl) (by intro v hv; simp [Value.cells] at hv; rcases hv with rfl | rfl <;> rfl) blk (off + kk * 2) (d.size - kk) (cap - kk) (by omega)
                  (fun j hj=>by
                    have hj':j < (d.size - kk) * 2:=hj
                    have:=(hHk (kk * 2 + j) (by rw [size_flatK]; omega)).1
                    rw [← ybc] at this
                    rw [this]; rfl) (fun j hj=>by
                    have hj':j < (d.size - kk) * 2:=hj
                    have:=(hHk (kk * 2 + j) (by rw [size_flatK]; omega)).2
                    rwa [← ybc] at this)
                exact ⟨zs,h1,fun ty=>h2⟩
              clear hHk hI
              go_wp2
              go_ret
              have hI:=I2.out
              rw [hend] at hI
              refine ⟨by rw [hI.len]; rfl,q2,setMany (flatK eId 2 dk) (kk * 2) zs,by simp [hI.size],fun t ht=>?_,?_⟩
              · rw [hI.len] at ht
                have hts:t < dk.size * 2:=by have:=hI.size; omega
                have hq:t / 2 < kk:=by omega
                rw [get_setMany _ _ _ t (by rw [size_flatK]; exact hts),if_neg (by omega),get_flatK _ _ _ _ hts,get_flatK _ _ _ _ (by simp [hI.len]; omega)]
                have:=hI.low (t / 2) hq
                rw [show (compactUpTo d d.size).toArray[t / 2]! = dk[t / 2]! by simp [this]]
              · rw [W2.out]
                unfold putRowK
                exact setCells_putRow _ _ _ _ _ _ (by rw [size_flatK,hzl]; have:=hI.size; omega)
        · have B':Aside (x≠y):=hdup
          obtain ⟨xr,xn⟩:=x
          obtain ⟨yr,yn⟩:=y
          simp only at c0 c0' c1 c1'
          by_cases hr:xr=yr
          · subst hr
            have hn:xn≠yn:=fun e=>hdup (by rw [e])
            clear hdup
            go_wp2_with fail
            go_region_o
            go_wp2
            go_roundg (d.size - (k + 1))
            case measure=>omega
            case rel =>
              refine ⟨k + 1,q + 1,by omega,by omega,yag _,by go_num,rfl,fun j hj=>?_⟩
              by_cases e:j=k
              · subst e
                exact keeps_pos (by rw [B.out.1,B.out.2]; exact B'.out)
              · exact A.out j (by omega)
          · clear hdup
            go_wp2_with fail
            go_region_o
            go_wp2
            go_roundg (d.size - (k + 1))
            case measure=>omega
            case rel =>
              refine ⟨k + 1,q + 1,by omega,by omega,yag _,by go_num,rfl,fun j hj=>?_⟩
              by_cases e:j=k
              · subst e
                exact keeps_pos (by rw [B.out.1,B.out.2]; exact B'.out)
              · exact A.out j (by omega)
      · have:k=d.size:=by omega
        subst this
        have HH:Aside (HoldsK eId 2 w blk off d):=hH
        clear hH
        go_wp2
        go_ret
        obtain ⟨e1,e2⟩:=HS.out q hall
        exact ⟨by rw [e1]; rfl,e2⟩
theorem zlC (w:World):Calls Tryz.prog 180 #[.slice none 0 0] w fun e w'=>e = .returned (.slice none 0 0)∧w'=w:=by
 go_enter Tryz.func180,Tryz.ntmps180
 go_wp2
 go_ret
 exact ⟨rfl,rfl⟩
end Go.Proofs.YtkcahmbcpkjpiaaGreatDoor
namespace Go.Proofs.YtkcahmbcpkjpiaaGreatDoor
open Go.RowKit
open Go.Sort (flatK putRowK HoldsK size_flatK get_flatK putCells mapBlock onCells)
theorem zgd:Flat cId eId 2 where
 k0:=by omega
 len:=fun _=>rfl
 lenp:=fun _=>rfl
 one:=zyd
 fit:=fun S w a j p h=>by
  rcases j with _ | _ | j
  ·
   cases h; exact .int _ _
  ·
   cases h; exact .int _ _
  ·
   simp [cId] at h
 back:=fun S w a j p u h hr=>by
  rcases j with _ | _ | j
  ·
   cases h; cases hr; rfl
  ·
   cases h; cases hr; rfl
  ·
   simp [cId] at h
section
variable {x:Cx} {C:Conc} {H:List AObj} {w w':World}
theorem HR.dropNil (hr : HR x C H w) {id v T sz : Nat} {sto ipu : Bool} (hid : H[id]? = some (.arr v sto ipu T sz [])) :
    HR x C (H.set id .gone) w∧(∀ p u,RepV (zu x C H w) w C p u→RepV (zu x C (H.set id .gone) w) w C p u) :=
  hr.change (C':=C) hid (ob' := .gone) (zc3 w) rfl (fun _=>rfl) (fun _ _=>⟨rfl,rfl⟩) (.inl ⟨rfl,rfl⟩) (fun b o hb hf=>trivial) (fun b o hb hf=>rfl) (fun b hb=>hb.elim) (fun _ _=>trivial)
theorem zeh (w : World) (g m : Nat) (F : Array Value) {cur : Array Value} {T : TypeId} {fr : Nat × Nat} (hc : w.heap[g]? = some (.cells cur T fr)) :
    ∃ cur':Array Value,(Go.Sort.putRow id (Go.Sort.ahead w m) g 0 F).heap[g]? = some (.cells cur' T fr)∧cur'.size=cur.size ∧
      (∀ t y,t < F.size→cur'[t]? = some y→y=F[t]!)∧Step w (Go.Sort.putRow id (Go.Sort.ahead w m) g 0 F) (fun b=>b=g):=by
  have hlt:g < w.heap.size:=(yak.1 hc).1
  have hh:(Go.Sort.putRow id (Go.Sort.ahead w m) g 0 F).heap=w.heap.modify g (onCells (putCells id 0 F)):=rfl
  refine ⟨putCells id 0 F cur,?_,by simp [putCells],fun t y ht hy=>?_,?_⟩
  · rw [hh,ybi,if_pos rfl,hc]
    rfl
  · rw [putCells,Array.getElem?_mapIdx] at hy
    cases hcu:cur[t]? with
    | none=>rw [hcu] at hy; cases hy
    | some z =>
      rw [hcu,yaM,if_pos ⟨ybv _,by omega⟩] at hy
      exact (ybe hy).symm
  · refine ⟨by rw [hh]; simp,rfl,rfl,rfl,fun b hb hne=>?_⟩
    rw [hh,ybi,if_neg (fun e=>hne e.symm)]
end
theorem zye {vs:Array Value} (h:vs.toList.length=1):∃ a,vs=#[a]∧vs.toList[0]? = some a:=by
 obtain ⟨l⟩:=vs
 obtain ⟨a,rfl⟩:=List.length_eq_one_iff.1 h
 exact ⟨a,rfl,rfl⟩
theorem zkh {vs:Array Value} (h:vs.toList.length=2):∃ a b,vs=#[a,b]∧vs.toList[0]? = some a∧vs.toList[1]? = some b:=by
 obtain ⟨l⟩:=vs
 match l,h with
 | [a,b],_=>exact ⟨a,b,rfl,rfl,rfl⟩
def zhE (l:List Id):List Id:=Lib.compact l
theorem zdD (l : List Id) (v T : Nat) (hl : l.length ≤ 9223372036854775807) :
    zg Tryz.prog 180 [.arr 0 v] [.arr v true false T 2 (l.map cId)] (.list ((zhE l).map cId)) [.gone]:=by
  intro x vs hx h0 hp
  obtain ⟨a,rfl,h1⟩:=zye hp.1
  have ha:=hp.2 0 _ _ rfl h1
  obtain ⟨e1,e2,e3⟩:=h0.row (id:=0) rfl ha
  rcases e3 with ⟨rfl,hnil⟩ | ⟨g,cap,cur,rfl,hc,hcap,hm,hz,hrow⟩
  · have:l = []:=by simpa using hnil
    subst this
    refine (zlC x.w0).mono ?_
    rintro e w' ⟨rfl,rfl⟩
    obtain ⟨k1,k2⟩:=h0.dropNil (id:=0) (v:=v) (T:=T) (sz:=2) rfl
    exact ⟨_,x.C0,rfl,k1,.pure zfg⟩
  · have hH:=zgd.holds l hc hrow
    have key:=ziL g 0 cap l.toArray x.w0 hH (by simpa using hl) (by simpa using hcap)
    rw [yah]
    refine Calls.mono key ?_
    rintro e w' ⟨rfl,q,F,f1,f2,rfl⟩
    obtain ⟨cur',c1,c2,c3,c4⟩:=zeh x.w0 g q F hc
    have hown:(x.C0.sv 0).ownBlock=some g:=by rw [← e1]; rfl
    have hle:(zhE l).length≤l.length:=by
      show (Lib.compactUpTo l.toArray l.length).length≤_
      unfold Lib.compactUpTo
      rw [yah]
      exact yaP (ybj _ _) (by simp)
    have hcl:((zhE l).map cId).length≤cap:=by rw [yah]; rw [yah] at hcap; omega
    obtain ⟨k1,k2,k3⟩:=h0.drop (id:=0) (g:=g) (cap':=cap) (rows':=(zhE l).map cId) (cur':=cur') rfl
      ⟨c4.size,c4.os,c4.tape,c4.output,fun b hb hne=>c4.blk b hb fun e=>hne (by rw [hown,e])⟩ hown c1 hcl hm (by rw [c2,hz])
      (fun row hr=>by obtain ⟨y,-,rfl⟩:=yaG.1 hr; rfl)
      (fun k row j p u a b c=>(zgd.rep (d':=(zhE l).toArray) (cur':=cur') (fun t y ht hy=>by
        rw [c3 t y (by rw [f1]; simp at ht ⊢; omega) hy]
        refine f2 t ?_
        rw [yb9] at ht
        rw [yb9]
        exact ht) (zhE l).length (fun i hi=>by simp [hi]) rfl (by simp) k row j p u a b c).2)
    refine ⟨_,x.C0,rfl,k1,.pure ?_⟩
    rw [yah] at k3
    exact k3
end Go.Proofs.YtkcahmbcpkjpiaaGreatDoor
namespace Go.Proofs.YtkcahmbcpkjpiaaGreatDoor
open Go.Shelf Go.Proofs
def zni:Go.Shelf.Ren:=⟨fun | 6=>177 | 15=>227 | 14=>226 | 28=>257 | 29=>258 | 20=>249 | 21=>250 | 22=>251 | 23=>252 | 24=>253 | 25=>254 | 26=>255 | 27=>256 | 46=>276 | 47=>277 | 48=>278 | 49=>279 | 50=>280 | 57=>292 | n=>n,fun | 22=>30 | 24=>29 | 25=>202 | 3=>3 | 39=>275 | 0=>0 | 53=>314 | 55=>316 | 4=>4 | 46=>308 | 45=>307 | 50=>206 | 5=>5 | 9=>9 | 66=>327 | 70=>331 | 76=>340 | 77=>341 | n=>n,fun n=>n⟩
theorem zrO:SlLaysF0.n6 Tryz.prog zni := {
 mixed:=by kernel_rfl,
 f6:=⟨Tryz.f177.name,by decide,Tryz.func177.trans (congrArg some (by kernel_rfl))⟩,
 f14:=⟨Tryz.f226.name,by decide,Tryz.func226.trans (congrArg some (by kernel_rfl))⟩,
 f15:=Tryz.func227.trans (congrArg some (by kernel_rfl)),
 f20:=⟨Tryz.f249.name,by decide,Tryz.func249.trans (congrArg some (by kernel_rfl))⟩,
 f21:=⟨Tryz.f250.name,by decide,Tryz.func250.trans (congrArg some (by kernel_rfl))⟩,
 f22:=⟨Tryz.f251.name,by decide,Tryz.func251.trans (congrArg some (by kernel_rfl))⟩,
 f23:=⟨Tryz.f252.name,by decide,Tryz.func252.trans (congrArg some (by kernel_rfl))⟩,
 f24:=⟨Tryz.f253.name,by decide,Tryz.func253.trans (congrArg some (by kernel_rfl))⟩,
 f25:=⟨Tryz.f254.name,by decide,Tryz.func254.trans (congrArg some (by kernel_rfl))⟩,
 f26:=⟨Tryz.f255.name,by decide,Tryz.func255.trans (congrArg some (by kernel_rfl))⟩,
 f27:=⟨Tryz.f256.name,by decide,Tryz.func256.trans (congrArg some (by kernel_rfl))⟩,
 f28:=Tryz.func257.trans (congrArg some (by kernel_rfl)),
 f29:=Tryz.func258.trans (congrArg some (by kernel_rfl)),
 f46:=⟨Tryz.f276.name,by decide,Tryz.func276.trans (congrArg some (by kernel_rfl))⟩,
 f47:=Tryz.func277.trans (congrArg some (by kernel_rfl)),
 f48:=Tryz.func278.trans (congrArg some (by kernel_rfl)),
 f49:=⟨Tryz.f279.name,by decide,Tryz.func279.trans (congrArg some (by kernel_rfl))⟩,
 f50:=⟨Tryz.f280.name,by decide,Tryz.func280.trans (congrArg some (by kernel_rfl))⟩,
 f57:=⟨Tryz.f292.name,by decide,Tryz.func292.trans (congrArg some (by kernel_rfl))⟩,
 t0:=Tryz.underlying0,
 a0:=Tryz.isAgg0,
 z0:=Tryz.sizeOf0,
 v0:=Tryz.zeroValue0,
 t3:=Tryz.underlying3,
 a3:=Tryz.isAgg3,
 z3:=Tryz.sizeOf3,
 v3:=Tryz.zeroValue3,
 t4:=Tryz.underlying4,
 a4:=Tryz.isAgg4,
 z4:=Tryz.sizeOf4,
 v4:=Tryz.zeroValue4,
 t5:=Tryz.underlying5,
 a5:=Tryz.isAgg5,
 z5:=Tryz.sizeOf5,
 v5:=Tryz.zeroValue5,
 t9:=Tryz.underlying9,
 a9:=Tryz.isAgg9,
 z9:=Tryz.sizeOf9,
 v9:=Tryz.zeroValue9,
 t22:=Tryz.underlying30,
 a22:=Tryz.isAgg30,
 z22:=Tryz.sizeOf30,
 v22:=Tryz.zeroValue30,
 t25:=Tryz.underlying202,
 a25:=Tryz.isAgg202,
 z25:=Tryz.sizeOf202,
 v25:=Tryz.zeroValue202,
 t39:=Tryz.underlying275,
 a39:=Tryz.isAgg275,
 z39:=Tryz.sizeOf275,
 v39:=Tryz.zeroValue275,
 t45:=Tryz.underlying307,
 a45:=Tryz.isAgg307,
 z45:=Tryz.sizeOf307,
 v45:=Tryz.zeroValue307,
 t46:=Tryz.underlying308,
 a46:=Tryz.isAgg308,
 z46:=Tryz.sizeOf308,
 v46:=Tryz.zeroValue308,
 t50:=Tryz.underlying206,
 a50:=Tryz.isAgg206,
 z50:=Tryz.sizeOf206,
 v50:=Tryz.zeroValue206,
 t53:=Tryz.underlying314,
 a53:=Tryz.isAgg314,
 z53:=Tryz.sizeOf314,
 v53:=Tryz.zeroValue314,
 t55:=Tryz.underlying316,
 a55:=Tryz.isAgg316,
 z55:=Tryz.sizeOf316,
 v55:=Tryz.zeroValue316,
 t66:=Tryz.underlying327,
 a66:=Tryz.isAgg327,
 z66:=Tryz.sizeOf327,
 v66:=Tryz.zeroValue327,
 t70:=Tryz.underlying331,
 a70:=Tryz.isAgg331,
 z70:=Tryz.sizeOf331,
 v70:=Tryz.zeroValue331,
 t76:=Tryz.underlying340,
 a76:=Tryz.isAgg340,
 z76:=Tryz.sizeOf340,
 v76:=Tryz.zeroValue340,
 t77:=Tryz.underlying341,
 a77:=Tryz.isAgg341,
 z77:=Tryz.sizeOf341,
 v77:=Tryz.zeroValue341 }
end Go.Proofs.YtkcahmbcpkjpiaaGreatDoor
namespace Go.Proofs.YtkcahmbcpkjpiaaGreatDoor
open Go.RowKit
open Tryz
theorem zpQ (a b:Int) (w:World):Calls prog 214 #[.int .i64 a,.int .i64 b] w fun e w'=>e = .returned (.int .i64 (ziI a b))∧w=w':=by
 by_cases h1:a < b
 ·
  go_enter func214,ntmps214
  go_wp2
  go_ret
  exact ⟨by simp [ziI,h1],rfl⟩
 ·
  by_cases h2:b < a
  ·
   go_enter func214,ntmps214
   go_wp2
   go_ret
   exact ⟨by simp [ziI,h1,h2],rfl⟩
  ·
   go_enter func214,ntmps214
   go_wp2
   go_ret
   exact ⟨zaA (by unfold ziI; rw [if_neg (by omega),if_neg (by omega)]),rfl⟩
theorem zlD (a b:Id) (w:World):Calls prog 143 #[.agg #[.int .i64 a.r,.int .i64 a.n],.agg #[.int .i64 b.r,.int .i64 b.n]] w fun e w'=>e = .returned (.int .i64 (zgb a b))∧∃ q os',w'=Go.Sort.grow (w.drewN q) os':=by
 go_enter func143,ntmps143
 go_wp2_with (go_at_call 214; refine (zpQ _ _ _).mono ?_; rintro e w' ⟨rfl,rfl⟩)
 ·
  go_ret
  have h:(ziI a.r b.r != 0)=true:=by assumption
  exact ⟨zaA (by rw [zgb,if_neg (by simpa using h)]),0,_,by rw [Go.Sort.alloc_eq_grow,Go.Sort.alloc_eq_grow,Go.Sort.grow_grow]; rfl⟩
 ·
  go_ret
  have h:(ziI a.r b.r != 0)=false:=by assumption
  exact ⟨zaA (by rw [zgb,if_pos (by simpa using h)]),0,_,by rw [Go.Sort.alloc_eq_grow,Go.Sort.alloc_eq_grow,Go.Sort.grow_grow]; rfl⟩
theorem zuB (blk off size:Nat) (w:World):CmpLays prog 143 #[] eId 2 zgb blk off size w:=fun _ _ _ _ a b=>zlD a b _
theorem zEj:Go.Sort.SWO (ltOf zgb) where
 irrefl:=fun x=>by simp [ltOf,zbe,Zi]
 trans:=fun x y z h1 h2=>by
  simp only [ltOf,decide_eq_true_eq,zbe,Zi] at h1 h2 ⊢
  omega
 ntrans:=fun x y z h1 h2=>by
  simp only [ltOf,decide_eq_false_iff_not,zbe,Zi,decide_eq_true_eq] at h1 h2 ⊢
  omega
theorem zrP (x y:Id) (h1:ltOf zgb x y=false) (h2:ltOf zgb y x=false):x=y:=by
 simp only [ltOf,decide_eq_false_iff_not,zbe,Zi,decide_eq_true_eq] at h1 h2
 cases x; cases y
 simp at h1 h2 ⊢
 omega
def zb6 (l:List Id):List Id:=l.mergeSort fun x y => !(ltOf zgb) y x
theorem zb7 (l : List Id) (v T : Nat) (hl : l.length < 4611686018427387904) :
    zg prog 177 [.arr 0 v,.clo 143 []] [.arr v true false T 2 (l.map cId)] (.tup []) [.arr v true false T 2 ((zb6 l).map cId)]:=by
  intro x vs hx h0 hp
  obtain ⟨a,b,rfl,h1,h2⟩:=zkh hp.1
  have ha:=hp.2 0 _ _ rfl h1
  have hb:=hp.2 1 _ _ rfl h2
  obtain ⟨ws,rfl,hw,-⟩:=hb.clo_inv
  obtain rfl:ws = []:=ybs.1 hw
  obtain ⟨e1,e2,e3⟩:=h0.row (id:=0) rfl ha
  rcases e3 with ⟨rfl,hnil⟩ | ⟨g,cap,cur,rfl,hc,hcap,hm,hz,hrow⟩
  · have:l = []:=by simpa using hnil
    subst this
    refine (AnyF.slices_SortFunc_none zrO none 0 (.func (.func 143) #[] #[]) x.w0).mono ?_
    rintro e w' ⟨rfl,rfl⟩
    exact ⟨_,x.C0,rfl,by simpa [zb6] using h0,.tup [] [] rfl (fun j p u h=>by simp at h)⟩
  · have eg:∀ args w,(callFunc 143 args).run prog w = .ok (.enter 143 args) w:=enters_of func143 (by kernel_rfl) rfl
    have hH:=zgd.holds l hc hrow
    have hlt:g < x.w0.heap.size:=(yak.1 hc).1
    have key:=AnyQ.slices_SortFunc_total zrO 2 (fun _=>by kernel_rfl) (fun _=>by kernel_rfl) eId zgd.len zgd.one zgb zEj 143 #[] g 0 cap l.toArray x.w0 eg (zuB g 0 _ x.w0) hH hlt (by simpa using hl) zrP
    rw [yah] at *
    refine key.mono ?_
    rintro e w' ⟨rfl,n,os,rfl⟩
    obtain ⟨cur',c1,c2,c3,c4⟩:=zlz eId 2 x.w0 g n (l.toArray.toList.mergeSort fun x y => !(ltOf zgb) y x).toArray os hc
    have hsl:(zb6 l).length=l.length:=(List.mergeSort_perm l _).length_eq
    have hown:(x.C0.sv 0).ownBlock=some g:=by rw [← e1]; rfl
    obtain ⟨C',k1,k2,k3⟩:=h0.rerow (id:=0) (v':=v) (g':=g) (cap':=cap) (rows':=(zb6 l).map cId) (cur':=cur') rfl (by
      refine ⟨c4.size,c4.os,c4.tape,c4.output,fun b hb hne=>c4.blk b hb fun e=>hne (by rw [hown,e])⟩) (.inl hown) (.inl ⟨rfl,by rw [← e1,yah,hsl]⟩) c1 (by rw [yah,hsl]; exact hcap) hm (by rw [c2,hz])
      (fun row hr=>by obtain ⟨y,-,rfl⟩:=yaG.1 hr; rfl) (zgd.rep c3 (l:=zb6 l) (zb6 l).length (fun i hi=>by
        rw [yac hi]
        simp [zb6] at hi ⊢
        simp [hi]) rfl (by simp [zb6]))
    exact ⟨_,C',rfl,k1,.tup [] [] rfl (fun j p u h=>by simp at h)⟩
/-! ids in order -/
def Asc (l:List Id):Prop:=l.Pairwise fun a b=>Zi a b=true
theorem zcs {a b c:Id} (h1:Zi a b=true) (h2:Zi b c=true):Zi a c=true:=by
 simp only [Zi,decide_eq_true_eq] at *; omega
theorem zaD (a:Id):Zi a a=false:=by simp [Zi]
theorem zjq {a b:Id} (h1:Zi a b=false) (h2:Zi b a=false):a=b:=by
 cases a; cases b
 simp only [Zi,decide_eq_false_iff_not] at h1 h2
 simp
 omega
theorem znj:∀ {l m:List Id},Asc l→Asc m→(∀ x,x ∈ l↔x ∈ m)→l=m
 | [],[],_,_,_=>rfl
 | [],y :: m,_,_,h=>by have:=(h y).2 (by simp); simp at this
 | x :: l,[],_,_,h=>by have:=(h x).1 (by simp); simp at this
 | x :: l,y :: m,h1,h2,h=>by
  have h1':=ya7.1 h1
  have h2':=ya7.1 h2
  have hxy:x=y:=by
   rcases yaN.1 ((h x).1 (by simp)) with e | e
   ·
    exact e
   rcases yaN.1 ((h y).2 (by simp)) with e' | e'
   ·
    exact e'.symm
   have:=zcs (h1'.1 y e') (h2'.1 x e)
   rw [zaD] at this; cases this
  subst hxy
  rw [znj h1'.2 h2'.2 fun z=>?_]
  constructor
  ·
   intro hz
   rcases yaN.1 ((h z).1 (by simp [hz])) with e | e
   ·
    subst e; have:=h1'.1 z hz; rw [zaD] at this; cases this
   ·
    exact e
  ·
   intro hz
   rcases yaN.1 ((h z).2 (by simp [hz])) with e | e
   ·
    subst e; have:=h2'.1 z hz; rw [zaD] at this; cases this
   ·
    exact e
theorem zki:∀ (l:List Int) (a b:Int),l.Pairwise (· < ·)→(∀ x ∈ l,a≤x∧x < b)→a≤b→(l.length:Int)≤b - a
 | [],a,b,_,_,h=>by simp; omega
 | x :: l,a,b,hp,hm,h=>by
  have hp':=ya7.1 hp
  have hx:=hm x (by simp)
  have:=zki l (x + 1) b hp'.2 (fun y hy=>⟨hp'.1 y hy,(hm y (by simp [hy])).2⟩) (by omega)
  simp only [yax]; omega
theorem zrQ {l:List Id} (h:Asc l) (hk:∀ x ∈ l,zcS x=true):l.length≤40:=by
 have hb:∀ x ∈ l,0≤x.r∧x.r≤1∧1≤x.n∧x.n≤20:=fun x hx=>by
  have:=hk x hx
  simp only [zcS,yat,zY] at this
  omega
 have:=zki (l.map fun x=>x.r * 20 + x.n) 1 41 (yca.2 (List.Pairwise.imp_of_mem (fun {a b} ha hb' hab=>by
  have h1:=hb a ha
  have h2:=hb b hb'
  simp only [Zi,decide_eq_true_eq] at hab
  omega) h)) (fun y hy=>by
   obtain ⟨x,hx,rfl⟩:=yaG.1 hy
   have:=hb x hx
   omega) (by omega)
 rw [yah] at this
 omega
theorem zhF {l:List Id} {x:Id}:x ∈ zb6 l↔x ∈ l:=(List.mergeSort_perm l _).mem_iff
theorem zdX (l:List Id):(zb6 l).length=l.length:=(List.mergeSort_perm l _).length_eq
theorem zgD (l:List Id):(zb6 l).Pairwise fun a b=>Zi b a=false:=by
 have:=List.pairwise_mergeSort (le:=fun x y:Id => !(ltOf zgb) y x) (fun a b c h1 h2=>by
  simp only [ltOf,zbe,yaQ,decide_eq_false_iff_not,ybt] at *
  simp only [Zi,decide_eq_false_iff_not] at *; omega) (fun a b=>by
  simp only [ltOf,zbe,ybI,yaQ,decide_eq_false_iff_not,Zi,decide_eq_true_eq]; omega) l
 exact this.imp fun {a b} h=>by simpa [ltOf,zbe] using h
theorem zrR {l:List Id} {x:Id}:x ∈ zhE l↔x ∈ l:=by
 unfold zhE Lib.compact Lib.compactUpTo
 rw [yaG]
 constructor
 ·
  rintro ⟨j,hj,rfl⟩
  have:j < l.length:=by simpa using (ya1.1 hj).1
  simp [this]
 ·
  intro hx
  obtain ⟨j,hj,rfl⟩:=yaq hx
  induction j using Nat.strongRecOn with
  | _ j ih =>
   by_cases hk:Lib.keeps l.toArray j=true
   ·
    exact ⟨j,ya1.2 ⟨yaW.2 hj,hk⟩,by simp [hj]⟩
   ·
    simp only [Lib.keeps,decide_eq_true_eq,not_or,Decidable.not_not] at hk
    obtain ⟨h0,h1⟩:=hk
    have hj':j - 1 < l.length:=by omega
    obtain ⟨i,h2,h3⟩:=ih (j - 1) (by omega) hj' (yaw hj')
    refine ⟨i,h2,?_⟩
    rw [h3]
    have:=h1
    simp only [hj,hj',List.getElem!_toArray,getElem!_pos] at this
    exact this.symm
theorem zrS {l:List Id} (h:l.Pairwise fun a b=>Zi b a=false):Asc (zhE l):=by
 unfold zhE Lib.compact Lib.compactUpTo Asc
 rw [yca]
 refine List.Pairwise.imp_of_mem (R:=(· < ·)) (fun {i j} hi hj hij=>?_) (List.Pairwise.filter _ List.pairwise_lt_range)
 obtain ⟨h1,-⟩:=ya1.1 hi
 obtain ⟨h2,h3⟩:=ya1.1 hj
 have hjl:j < l.length:=yaW.1 h2
 simp only [Lib.keeps,decide_eq_true_eq] at h3
 have h3':=h3.resolve_left (by omega)
 have hj1:j - 1 < l.length:=by omega
 have hil:i < l.length:=by omega
 simp only [List.getElem!_toArray,getElem!_pos,hjl,hj1] at h3'
 simp only [List.getElem!_toArray,getElem!_pos,hjl,hil]
 have a1:Zi l[j] l[j - 1]=false:=yaT.1 h (j - 1) j hj1 hjl (by omega)
 have a2:Zi l[j - 1] l[j]=true:=by
  cases e:Zi l[j - 1] l[j]
  ·
   exact (h3' (zjq a1 e)).elim
  ·
   rfl
 by_cases e:i=j - 1
 ·
  subst e; exact a2
 ·
  have a3:Zi l[j - 1] l[i]=false:=yaT.1 h i (j - 1) hil hj1 (by omega)
  simp only [Zi,decide_eq_false_iff_not,decide_eq_true_eq] at *
  omega
def zyf (l:List Id):List Id:=zhE (zb6 l)
theorem zuC {l:List Id} {x:Id}:x ∈ zyf l↔x ∈ l:=zrR.trans zhF
theorem zuD (l:List Id):Asc (zyf l):=zrS (zgD l)
theorem zlE {l:List Id} (h:l.Nodup):Asc (zb6 l):=by
 have h1:(zb6 l).Nodup:=(List.mergeSort_perm l _).nodup_iff.2 h
 exact (List.Pairwise.and (zgD l) h1).imp fun {a b} ⟨h1,h2⟩=>by
  cases e:Zi a b
  ·
   exact (h2 (zjq e h1)).elim
  ·
   rfl
/-! finding -/
theorem zlF {α:Type} (p:α→Bool):∀ (l:List α) (k i:Nat),0≤zaC p (l.take k) i→zaC p l i=zaC p (l.take k) i∧zaC p l i < i + k
 | [],k,i,h=>by simp [zaC] at h
 | x :: l,0,i,h=>by simp [zaC] at h
 | x :: l,k + 1,i,h=>by
  simp only [ybk,zaC] at h ⊢
  split
  ·
   exact ⟨rfl,by omega⟩
  ·
   rename_i hx
   rw [if_neg hx] at h
   have:=zlF p l k (i + 1) h
   exact ⟨this.1,by omega⟩
theorem zlG {α:Type} [Inhabited α] (p:α→Bool):∀ (l:List α) (i:Nat),0≤zaC p l i→∃ k:Nat,zaC p l i=i + k∧k < l.length∧p (nth l k)=true
 | [],i,h=>by simp [zaC] at h
 | x :: l,i,h=>by
  simp only [zaC] at h ⊢
  split
  ·
   rename_i hx
   exact ⟨0,by simp,by simp,by simpa [nth] using hx⟩
  ·
   rename_i hx
   rw [if_neg hx] at h
   obtain ⟨k,h1,h2,h3⟩:=zlG p l (i + 1) h
   exact ⟨k + 1,by omega,by simp; omega,by simpa [nth] using h3⟩
theorem zpR {l:List Entry} {k:Nat} {x:Id} (h:0≤zG (l.take k) x):zG l x=zG (l.take k) x∧zG l x < k:=by
 have:=zlF (fun e:Entry=>decide (e.id=x)) l k 0 h
 exact ⟨this.1,by have:=this.2; unfold zG; omega⟩
theorem z7 {l:List Entry} {x:Id} (h:0≤zG l x):∃ k:Nat,zG l x=k∧k < l.length∧(nth l k).id=x:=by
 obtain ⟨k,h1,h2,h3⟩:=zlG _ l 0 h
 exact ⟨k,by rw [zG,h1]; simp,h2,by simpa using h3⟩
theorem zbh {l:List Entry} {x:Id}:zG l x < 0↔∀ e ∈ l,e.id≠x:=by
 rcases zkf (fun e:Entry=>decide (e.id=x)) l 0 with ⟨h1,h2⟩ | ⟨h1,h2⟩
 ·
  rw [zG,h1]
  rw [yaZ] at h2
  exact ⟨fun _ e he=>by simpa using h2 e he,fun _=>by omega⟩
 ·
  rw [ybn] at h2
  obtain ⟨e,he,hx⟩:=h2
  exact ⟨fun h=>by rw [zG] at h; omega,fun h=>(h e he (by simpa using hx)).elim⟩
/-! right logs -/
structure LogOk (l:List Entry):Prop where
 len:l.length≤40
 chk:∀ k,k < l.length→zm (nth l k)=0
 new:∀ k,k < l.length→zG (l.take k) (nth l k).id < 0
 num:∀ k,k < l.length→(zax (l.take k) (nth l k).id.r:Int) + 1=(nth l k).id.n
 lnk:∀ k,k < l.length→∀ x ∈ (nth l k).ls,0≤zG (l.take k) x
theorem zaE {l:List Entry}:zJ l=0↔LogOk l:=by
 have key:∀ k,ZZ l k=0↔zm (nth l k)=0∧zG (l.take k) (nth l k).id < 0∧(zax (l.take k) (nth l k).id.r:Int) + 1=(nth l k).id.n∧∀ x ∈ (nth l k).ls,0≤zG (l.take k) x:=by
  intro k
  unfold ZZ
  split
  ·
   rename_i h; exact ⟨fun e=>(h e).elim,fun e=>(h e.1).elim⟩
  ·
   rename_i h0
   have h0':zm (nth l k)=0:=by simpa using h0
   split
   ·
    rename_i h; exact ⟨fun e=>(by cases e),fun e=>by omega⟩
   ·
    rename_i h1
    split
    ·
     rename_i h; exact ⟨fun e=>(by cases e),fun e=>(h e.2.2.1).elim⟩
    ·
     rename_i h2
     have h2':(zax (l.take k) (nth l k).id.r:Int) + 1=(nth l k).id.n:=by simpa using h2
     have hr:zbg (l.take k) (nth l k)=true↔∀ x ∈ (nth l k).ls,0≤zG (l.take k) x:=by
      simp only [zbg,h2',decide_true,ycg,yaQ,yaZ,decide_eq_true_eq]
      exact ⟨fun h x hx=>by have:=h x hx; omega,fun h x hx=>by have:=h x hx; omega⟩
     rw [← hr]
     split
     ·
      rename_i h; exact ⟨fun e=>(by cases e),fun e=>by rw [h] at e; simp at e⟩
     ·
      rename_i h; exact ⟨fun _=>⟨h0',by omega,h2',by simpa using h⟩,fun _=>rfl⟩
 unfold zJ
 split
 ·
  rename_i h; exact ⟨fun e=>(by cases e),fun e=>by have:=e.len; omega⟩
 ·
  rename_i h
  rw [zai]
  exact ⟨fun e=>⟨by omega,fun k hk=>((key k).1 (e k hk)).1,fun k hk=>((key k).1 (e k hk)).2.1,fun k hk=>((key k).1 (e k hk)).2.2.1,fun k hk=>((key k).1 (e k hk)).2.2.2⟩,
   fun e k hk=>(key k).2 ⟨e.chk k hk,e.new k hk,e.num k hk,e.lnk k hk⟩⟩
theorem LogOk.id_ok {l:List Entry} (h:LogOk l) {k:Nat} (hk:k < l.length):zcS (nth l k).id=true:=(zV (h.chk k hk)).1
theorem LogOk.link_ok {l:List Entry} (h:LogOk l) {k:Nat} (hk:k < l.length) {x:Id} (hx:x ∈ (nth l k).ls):zcS x=true:=by
 obtain ⟨j,h1,h2,h3⟩:=z7 (h.lnk k hk x hx)
 rw [yaz] at h2
 have:nth (l.take k) j=nth l j:=by rw [zv _ _ (by rw [yaz]; omega),zv _ _ (by omega),List.getElem_take]
 rw [← h3,this]
 exact h.id_ok (by omega)
theorem LogOk.links {l:List Entry} (h:LogOk l) {k:Nat} (hk:k < l.length):(nth l k).ls.length≤6:=(zV (h.chk k hk)).2.2.2.1
theorem LogOk.link_lt {l:List Entry} (h:LogOk l) {k:Nat} (hk:k < l.length) {x:Id} (hx:x ∈ (nth l k).ls):0≤zG l x∧zG l x < k:=by
 have h1:=h.lnk k hk x hx
 have h2:=zpR h1
 exact ⟨by omega,h2.2⟩
theorem LogOk.inj {l:List Entry} (h:LogOk l) {i k:Nat} (hi:i < l.length) (hk:k < l.length) (e:(nth l i).id=(nth l k).id):i=k:=by
 have aux:∀ i k,i < k→k < l.length→(nth l i).id=(nth l k).id→False:=fun i k hik hk e=>by
  have:=zbh.1 (h.new k hk) (nth l i) (by rw [ybH]; exact ⟨i,by omega,by rw [zv _ _ (by omega)]⟩)
  exact this e
 rcases Nat.lt_trichotomy i k with h1 | h1 | h1
 ·
  exact (aux i k h1 hk e).elim
 ·
  exact h1
 ·
  exact (aux k i h1 hi e.symm).elim
theorem LogOk.find {l:List Entry} (h:LogOk l) {k:Nat} (hk:k < l.length):zG l (nth l k).id=k:=by
 have h0:¬ zG l (nth l k).id < 0:=fun hn=>zbh.1 hn (nth l k) (by rw [zv _ _ hk]; exact yaw hk) rfl
 obtain ⟨j,h1,h2,h3⟩:=z7 (by omega:0≤zG l (nth l k).id)
 rw [h1,h.inj h2 hk h3]
theorem LogOk.reg {l:List Entry} (h:LogOk l):zrM l:=by
 intro e he
 obtain ⟨k,hk,rfl⟩:=yaq he
 rw [← zv l k hk]
 exact za4 (h.chk k hk)
/-! zQ -/
def z8 (ps:List (List Id)) (l:List Entry) (x:Id):List Id:=nth ps (zG l x).toNat
def zb8 (ps:List (List Id)) (l:List Entry) (ls:List Id):List Id:=ls.flatMap fun x=>x :: z8 ps l x
def zW (l:List Entry):Nat→List (List Id)
 | 0 => []
 | k + 1=>zW l k ++ [zyf (zb8 (zW l k) l (nth l k).ls)]
def zQ (l:List Entry):List (List Id):=zW l l.length
def zaF (l:List Entry) (k:Nat):List Id:=nth (zQ l) k
@[simp] theorem pastsTo_length (l:List Entry):∀ k,(zW l k).length=k
 | 0=>rfl
 | k + 1=>by simp [zW,pastsTo_length l k]
theorem zct (l:List Entry) {i k:Nat} (h:i < k):nth (zW l k) i=nth (zW l (i + 1)) i:=by
 induction k with
 | zero=>omega
 | succ k ih =>
  by_cases e:i=k
  ·
   rw [e]
  ·
   rw [← ih (by omega),zv _ _ (by simp; omega),zv _ _ (by simp; omega)]
   simp only [zW]
   rw [List.getElem_append_left]
theorem zuE (l:List Entry) (k:Nat):nth (zW l (k + 1)) k=zyf (zb8 (zW l k) l (nth l k).ls):=by
 rw [zv _ _ (by simp)]
 simp only [zW]
 rw [List.getElem_append_right (by simp)]
 simp
theorem zuF {l:List Entry} (h:LogOk l) {k m:Nat} (hk:k < l.length) (hm:k≤m):zb8 (zW l m) l (nth l k).ls=zb8 (zW l k) l (nth l k).ls:=by
 unfold zb8
 have:∀ x ∈ (nth l k).ls,z8 (zW l m) l x=z8 (zW l k) l x:=fun x hx=>by
  have:=h.link_lt hk hx
  unfold z8
  rw [zct l (by omega:(zG l x).toNat < m),zct l (by omega:(zG l x).toNat < k)]
 rw [List.flatMap_def,List.flatMap_def]
 congr 1
 exact yaU fun x hx=>by rw [this x hx]
theorem zlH {l:List Entry} (h:LogOk l) {k:Nat} (hk:k < l.length):zaF l k=zyf (zb8 (zQ l) l (nth l k).ls):=by
 unfold zaF zQ
 rw [zct l hk,zuE,zuF h hk (Nat.le_of_lt hk)]
theorem zjr {l:List Entry} (h:LogOk l) {k:Nat} (hk:k < l.length):Asc (zaF l k):=by
 rw [zlH h hk]; exact zuD _
theorem zbr {l:List Entry} (h:LogOk l) {k:Nat} (hk:k < l.length) {y:Id}:y ∈ zaF l k↔∃ x ∈ (nth l k).ls,y=x∨y ∈ zaF l (zG l x).toNat:=by
 rw [zlH h hk,zuC,zb8,ya5]
 simp only [yaN]
 rfl
theorem zhG {l:List Entry} (h:LogOk l):∀ (k:Nat),k < l.length→∀ y ∈ zaF l k,∃ j,j < k∧(nth l j).id=y:=by
 intro k
 induction k using Nat.strongRecOn with
 | _ k ih =>
  intro hk y hy
  obtain ⟨x,hx,he⟩:=(zbr h hk).1 hy
  obtain ⟨h1,h2⟩:=h.link_lt hk hx
  obtain ⟨j,h3,h4,h5⟩:=z7 h1
  rcases he with rfl | he
  ·
   exact ⟨j,by omega,h5⟩
  ·
   obtain ⟨i,h6,h7⟩:=ih (zG l x).toNat (by omega) (by omega) y he
   exact ⟨i,by omega,h7⟩
theorem zrT {l:List Entry} (h:LogOk l) {k:Nat} (hk:k < l.length):∀ y ∈ zaF l k,zcS y=true:=by
 intro y hy
 obtain ⟨j,h1,rfl⟩:=zhG h k hk y hy
 exact h.id_ok (by omega)
theorem za5 {l:List Entry} (h:LogOk l) {k:Nat} (hk:k < l.length):(zaF l k).length≤40:=zrQ (zjr h hk) (zrT h hk)
theorem zbE {x : Cx} {nt : Nat} {st : St} (t id : Nat) {cells : List PV} {H' : List AObj} {cells' : List PV} (h : st.env t = .ptr id 0) (hid : st.heap[id]? = some (.box cells)) (hc : cells.map (frz st.heap) = cells') (hp : cells'.all PV.isPure = true) (hH : st.heap.set id .gone = H') :
    za3 x nt st (st.put (some t) (.rptr cells') H'):=by
  subst hc; subst hH
  intro a w ⟨⟨C,hr,he⟩,hdf,hs⟩
  have hlt:id < st.heap.length:=(yab.1 hid).1
  obtain ⟨cs,T,g1,g2,g3⟩:=hr.obj id _ hid
  have hb:C.blk id < w.heap.size:=(yak.1 g1).1
  have hmp:∀ p v,RepP (zu x C st.heap w) w p v→RepP (zu x C (st.heap.set id .gone) w) w p v:=by
    intro p v h
    refine h.mono (fun b o h=>⟨h.1,h.2.1,fun i ob1 hi=>?_⟩) fun b o h=>rfl
    by_cases e:i=id
    · subst e; rw [ya9 hlt] at hi; cases hi; trivial
    · rw [ybl (Ne.symm e)] at hi; exact h.2.2 i ob1 hi
  obtain ⟨k1,k2⟩:=hr.change (C':=C) hid (ob' := .gone) (zc3 w) rfl (fun _=>rfl) (fun _ _=>⟨rfl,rfl⟩) (.inl ⟨rfl,rfl⟩)
    (fun b o hb hf=>trivial) (fun b o hb hf=>rfl) (fun b hb=>hb.elim) (fun _ _=>trivial)
  have hfz:=zk9 (vs:=cells) (us:=cs.toList) hr (fun j q u hq hu=>g3 j q u hq (by rw [← yaV]; exact hu)) hp
  refine ⟨⟨C,k1,fun u=>?_⟩,hdf,hs⟩
  simp only [St.put,yae]
  by_cases e:t=u
  · subst e
    rw [if_pos rfl]
    have:=he t
    rw [h] at this
    rw [this.ptr_inv.1]
    refine .rptr _ (C.blk id) 0 (fun j=>cs[j]!) (fun j p hj=>?_) fun j p hj=>?_
    all_goals
      have hjl:j < cs.size:=by
        have:=(yab.1 hj).1
        rw [yah] at this; omega
    · refine ⟨⟨?_,hb,fun i ob1 hi=>?_⟩,?_⟩
      · exact .inr ⟨hr.mine id _ _ hid rfl,.of g1⟩
      · by_cases e:i=id
        · subst e; rw [ya9 hlt] at hi; cases hi; trivial
        · rw [ybl (Ne.symm e)] at hi
          exact AObj.free_of_not (fun hb=>e (hr.apart i id ob1 _ _ hi hid hb rfl)) _
      · simp [World.cell?,g1,hjl]
    · exact hmp _ _ (hfz j p _ hj (by simp [hjl])).2
  · rw [if_neg e]; exact k2 _ _ (he u)
def zaa (ps:List (List Id)):List (List PV):=ps.map fun p => [.list (p.map cId)]
def zj (l:List Entry) (ps:List (List Id)):PV := .rptr [.list (l.map cE),.list (zaa ps)]
theorem zoI (l : List Entry) (ps : List (List Id)) (x : Id) (hl : l.length ≤ 9223372036854775806) (h0 : 0 ≤ zG l x) (h1 : zG l x < ps.length) :
    zg prog 107 [zj l ps,.agg (cId x)] [] (.list ((z8 ps l x).map cId)) []:=by
  have hg:ps[(zG l x).toNat]? = some (z8 ps l x):=zk _ _ (by omega)
  refine zg.of_walk func107 ntmps107 zgA.1 zgA.2 (by simp) fun xx hx=>?_
  simp only [go_sem,zuw,zux,cId,zj,zaa]
  refine zc (.pureE (zaL l x hl) (by simp [go_sem,cId])) ?_
  simp only [go_sem,h0,h1,hg]
  refine zd hx ?_
  simp [go_sem,zuw,zux]
theorem zrU (l : List Entry) (ps : List (List Id)) (x : Id) (v T : Nat) (hl : l.length ≤ 9223372036854775806) (h0 : 0 ≤ zG l x) (h1 : zG l x < ps.length) :
    zg prog 107 [.ptr 0 0,.agg (cId x)] [.box [.list (l.map cE),.arr 1 v],.arr v false false T 1 (zaa ps)] (.list ((z8 ps l x).map cId)) [.box [.list (l.map cE),.arr 1 v],.arr v false false T 1 (zaa ps)]:=by
  have hg:ps[(zG l x).toNat]? = some (z8 ps l x):=zk _ _ (by omega)
  refine zg.of_walk func107 ntmps107 zgA.1 zgA.2 (by simp) fun xx hx=>?_
  simp only [go_sem,zuw,zux,cId,zaa]
  refine zc (.pureE (zaL l x hl) (by simp [go_sem,cId])) ?_
  simp only [go_sem,h0,h1,hg]
  refine zI [] (by simp) (by simp) (by simp [hx]) ?_ ?_
  · simp [go_sem,zuw,zux,hx,pos,yaa]
  · simp [ze,zf,hx,go_sem,pos,yaa]
theorem zge {ps:List (List Id)} {l:List Entry} {ls:List Id} {j:Nat} (h:j < ls.length):zb8 ps l (ls.take (j + 1))=zb8 ps l (ls.take j) ++ [nth ls j] ++ z8 ps l (nth ls j):=by
 unfold zb8
 rw [yaE h,zv _ _ h,yb3]
 simp only [ybx,List.flatMap_nil,ya6,ybb,yau,yas]
theorem zhH {l:List Entry} {k:Nat} {x:Id} (hk:k≤l.length) (h0:0≤zG l x) (h1:zG l x < k):z8 (zW l k) l x=zaF l (zG l x).toNat:=by
 unfold z8 zaF zQ
 rw [zct l (by omega:(zG l x).toNat < k),zct l (by omega:(zG l x).toNat < l.length)]
theorem zdY {l:List Entry} (h:LogOk l) {k:Nat} (hk:k < l.length):∀ j,j≤(nth l k).ls.length→(zb8 (zW l k) l ((nth l k).ls.take j)).length≤41 * j
 | 0,_=>by simp [zb8]
 | j + 1,hj=>by
  have hlj:j < (nth l k).ls.length:=by omega
  obtain ⟨f1,f2⟩:=h.link_lt hk (x:=nth (nth l k).ls j) (by rw [zv _ _ hlj]; exact yaw hlj)
  have:=zdY h hk j (by omega)
  have h2:=za5 h (k:=(zG l (nth (nth l k).ls j)).toNat) (by omega)
  rw [zge hlj,zhH (by omega) f1 f2]
  simp only [yaR,yax,yaS]
  omega
theorem zaj (l:List Entry) (h:LogOk l):zg prog 106 [.list (l.map cE)] [] (zj l (zQ l)) []:=by
 have hm:=h.len
 refine zg.of_walk func106 ntmps106 zos.1 zos.2 (by simp) fun x hx=>?_
 simp only [go_sem,zAz,zAA]
 refine zaM (zX 0 1 0 30 1 false false rfl rfl (by omega)) ?_
 refine zy [3,12,13,14] 2 (fun n st=>∃ k:Nat,k + n=l.length ∧
  st=⟨mkE .top [(3,.ptr 0 0),(12,.list (l.map cE)),(13,.int .i64 l.length),(14,.int .i64 k)],[.box [.list (l.map cE),.arr 1 k],.arr k false false 30 1 (zaa (zW l k))]⟩) l.length (by simp [hx]) (by simp) ?_ ?_
 ·
  refine ⟨0,by omega,?_⟩
  simp [zh,go_sem,ze,zf,pos,yaa,zW,zaa]
 ·
  rintro n st ⟨k,hk,rfl⟩
  by_cases hlt:k < l.length
  ·
   have hg:l[k]? = some (nth l k):=zk _ _ hlt
   have wk:=zM (k:=k) (by omega)
   have hls:=h.links hlt
   simp only [go_sem,hlt,hg,cE]
   refine zaM (ZR 6 0 29 2 true false rfl (by omega)) ?_
   refine zy [3,6,12,13,14,19,20,21] 4 (fun n st=>∃ j:Nat,j + n=(nth l k).ls.length ∧
    st=⟨mkE .top [(3,.ptr 0 0),(6,.arr 3 (2 * j)),(12,.list (l.map cE)),(13,.int .i64 l.length),(14,.int .i64 k),(19,.list ((nth l k).ls.map cId)),(20,.int .i64 (nth l k).ls.length),(21,.int .i64 j)],
     [.box [.list (l.map cE),.arr 1 k],.arr k false false 30 1 (zaa (zW l k)),.box (cE (nth l k)),.arr (2 * j) true false 29 2 ((zb8 (zW l k) l ((nth l k).ls.take j)).map cId)]⟩) (nth l k).ls.length (by simp [hx]) (by simp [St.put]) ?_ ?_
   ·
    refine ⟨0,by omega,?_⟩
    simp [zh,go_sem,ze,zf,pos,yaa,cE,zb8]
   ·
    rintro n2 st ⟨j,hj,rfl⟩
    by_cases hlj:j < (nth l k).ls.length
    ·
     have hgj:(nth l k).ls[j]? = some (nth (nth l k).ls j):=zk _ _ hlj
     have wj:=zM (k:=j) (by omega)
     have hmem:nth (nth l k).ls j ∈ (nth l k).ls:=by rw [zv _ _ hlj]; exact yaw hlj
     obtain ⟨f1,f2⟩:=h.link_lt hlt hmem
     simp only [go_sem,hlj,hgj,cId]
     have b1:=zdY h hlt j (by omega)
     have b2:=za5 h (k:=(zG l (nth (nth l k).ls j)).toNat) (by omega)
     rw [← zhH (k:=k) (by omega) f1 f2] at b2
     rw [Zf rfl rfl (by simp) (by simp; omega)]
     simp only [go_sem]
     refine zc (.heapE [0,1] (r' := .list ((z8 (zW l k) l (nth (nth l k).ls j)).map cId)) (H' := [.box [.list (l.map cE),.arr 1 k],.arr k false false 30 1 (zaa (zW l k)),.box (cE (nth l k)),.arr (2 * j + 1) true false 29 2 ((zb8 (zW l k) l ((nth l k).ls.take j)).map cId ++ [cId (nth (nth l k).ls j)]),.box (cId (nth (nth l k).ls j))]) (zrU l (zW l k) (nth (nth l k).ls j) k 30 (by omega) f1 (by simp; omega))
      (by simp) (by simp) (by simp [go_sem,pos,cId]) (by simp [ze,zf,go_sem,pos]) rfl (by simp [ZN,zS,zT,zf,pos,go_sem,yaa,ZV,Zh,cE,cId])) ?_
     simp only [go_sem]
     rw [Zf rfl rfl (by simp [cId]) (by simp; omega)]
     simp only [go_sem,wj]
     refine ⟨rfl,?_⟩
     refine ⟨by simp,n2 - 1,by omega,j + 1,by omega,?_⟩
     simp [zh,go_sem,ze,zf,pos,yaa,cE,zge hlj,show 2 * (j + 1)=2 * j + 1 + 1 by omega]
    ·
     have htl:(nth l k).ls.take j=(nth l k).ls:=yan (by omega)
     have b1:=zdY h hlt j (by omega)
     rw [htl] at b1
     simp only [go_sem,hlj,htl]
     have hso:=zb7 (zb8 (zW l k) l (nth l k).ls) (2 * j) 29 (by omega)
     refine zc (.heapE [3] (r' := .tup []) (H' := [.box [.list (l.map cE),.arr 1 k],.arr k false false 30 1 (zaa (zW l k)),.box (cE (nth l k)),.arr (2 * j) true false 29 2 ((zb6 (zb8 (zW l k) l (nth l k).ls)).map cId)]) hso
      (by simp) (by simp) (by simp [go_sem,pos]) (by simp [ze,zf,go_sem,pos]) rfl (by simp [ZN,zS,zT,zf,pos,go_sem,yaa,ZV,Zh,cE])) ?_
     simp only [go_sem]
     have hco:=zdD (zb6 (zb8 (zW l k) l (nth l k).ls)) (2 * j) 29 (by rw [zdX]; omega)
     refine zfo 3 hco rfl rfl rfl rfl (by simp [go_sem]) (by simp [go_sem,pos]) rfl ?_
     simp only [go_sem]
     rw [Zf rfl rfl (by simp) (by simp [zaa]; omega)]
     simp only [go_sem,wk]
     refine ⟨rfl,rfl,rfl,?_⟩
     refine ⟨by simp,n - 1,by omega,k + 1,by omega,?_⟩
     simp [zh,go_sem,ze,zf,pos,yaa,cE,zaa,zW,zyf]
  ·
   have hke:k=l.length:=by omega
   subst hke
   simp only [go_sem,ybO]
   refine zN (zbE (cells' := [.list (l.map cE),.list (zaa (zW l l.length))]) 2 0 rfl rfl (by simp [frz]) rfl rfl) ?_
   refine zd hx ?_
   simp [go_sem,zAz,zAA,zj,zQ]
section
variable {P:Program} {x:Cx} {nt:Nat}
theorem zhI {b : LC} {Q : AE → St → Prop} {st : St} (live : List Nat) (m : Nat) (I : Nat → St → Prop) (n : Nat) (h1 : x.H0.length ≤ m) (h2 : m ≤ st.heap.length) (h0 : I n (st.trim live m))
    (hstep:∀ n st,I n st→W P x nt b (@zga ⟨zrn live m I n⟩ Q) st):W P x nt (.loop b) Q st:=by
  have hi:W P x nt (.loop b) Q (st.trim live m):=by
    refine zol (fun n st=>I n st∨(m≤st.heap.length∧I n (st.trim live m))) n (.inl h0) ?_
    intro n st hI
    have key:∀ st,I n st→W P x nt b (zeU (fun st'=>∃ n',n' < n∧(I n' st'∨(m≤st'.heap.length∧I n' (st'.trim live m)))) Q) st:=fun st hI =>
      (hstep n st hI).mono fun e st' hq=>by
        cases e with
        | normal=>obtain ⟨g1,n',g2,g3⟩:=hq; exact ⟨n',g2,.inr ⟨g1,g3⟩⟩
        | exit id=>exact hq
        | ret=>exact hq
    rcases hI with hI | ⟨hm,hI⟩
    · exact key st hI
    · exact zcF (fun a w hrel=>zfh live h1 hm hrel) (key _ hI)
  exact zcF (fun a w hrel=>zfh live h1 h2 hrel) hi
end
theorem zhJ (l:List Entry) (hl:l.length * 64≤140737488355328) (hf:∀ e ∈ l,e.ls.length * 16≤140737488355328):zg prog 8 [.list (l.map cE)] [] (.list (l.map cE)) []:=by
 refine zg.of_walk func8 ntmps8 zEb.1 zEb.2 (by simp) fun x hx=>?_
 simp only [go_sem,L8,R8]
 refine zaM (ZR 3 0 32 5 true false rfl (by omega)) ?_
 rw [zc4]
 refine zhI [0,3,4] 1 (fun m st=>∃ k:Nat,k + m=l.length ∧
  st=⟨mkE .top [(0,.list (l.map cE)),(3,.arr 0 k),(4,.int .i64 k)],[.arr k true false 32 5 ((l.take k).map cE)]⟩) l.length (by simp [hx]) (by simp) ?_ ?_
 ·
  refine ⟨0,by omega,?_⟩
  simp [zh,go_sem,ze,zf,pos,yaa]
 ·
  rintro m st ⟨k,hk,rfl⟩
  refine zpy (zbd ?_)
  by_cases hlt:k < l.length
  ·
   have hg:l[k]? = some (nth l k):=zk _ _ hlt
   have wk:=zM (k:=k) (by omega)
   simp only [go_sem,hlt,zeU]
   refine zpy (zm1 (zpy (zbd ?_)))
   simp only [go_sem,hlt,hg,cE,zeU]
   refine zpy (zbd ?_)
   simp only [go_sem,zeU]
   rw [Zf rfl rfl (by simp [cId]) (by simp only [yaS,yah,yaF]; exact hf _ (yaf hg))]
   simp only [go_sem,zeU]
   refine zaM (ZW 2 rfl) (zbd ?_)
   simp only [go_sem,zeU]
   rw [zhb rfl rfl (by simp) (by simp [frz,PV.isPure,cId]) (by simp; omega)]
   simp only [go_sem,zeU]
   refine zbd ?_
   simp only [go_sem,wk]
   have htk:l.take (k + 1)=l.take k ++ [nth l k]:=by rw [yby,hg]; rfl
   refine ⟨by simp,m - 1,by omega,k + 1,by omega,?_⟩
   simp [zh,go_sem,ze,zf,pos,yaa,htk,cE,frz]
  ·
   obtain rfl:k=l.length:=by omega
   rw [ybF]
   simp only [go_sem,hlt,zeU]
   refine zN (ZW 0 rfl) ?_
   refine zd hx ?_
   simp [go_sem,L8,R8,pos,zt]
end Go.Proofs.YtkcahmbcpkjpiaaGreatDoor
namespace Go.Proofs.YtkcahmbcpkjpiaaGreatDoor
open Go.RowKit Go.Lib Go.Sort
open Go.Shelf
def zDN (k n i:Nat) (cs F:Array Value):Prop:=F.size=cs.size∧∀ t,t < (n - 1) * k→F[t]! = if t < i * k then cs[t]! else cs[t + k]!
def zw4 (k n i:Nat) (w:World) (blk:Nat) (cs:Array Value) (w':World):Prop:=∃ (q:Nat) (F:Array Value),zDN k n i cs F∧w'=putRow id (Sort.ahead w q) blk 0 F
theorem zyg {k n i : Nat} {cs : Array Value} (hz : n * k ≤ cs.size) (hi : i < n) (news zs : List Value) (hn : news.length = (n - (i + 1)) * k) (hnew : ∀ t, t < news.length → news[t]! = cs[(i + 1) * k + t]!) :
    zDN k n i cs (setMany (setMany cs (i * k) news) ((n - 1) * k) zs):=by
  refine ⟨by simp,fun t ht=>?_⟩
  obtain ⟨m,rfl⟩:∃ m,n=i + 1 + m:=⟨n - (i + 1),by omega⟩
  have e1:i + 1 + m - (i + 1)=m:=by omega
  have e2:i + 1 + m - 1=i + m:=by omega
  rw [e1] at hn
  rw [e2] at ht ⊢
  have e3:(i + 1 + m) * k=i * k + k + m * k:=by rw [yaI,yaI,ybw]
  have e4:(i + m) * k=i * k + m * k:=yaI _ _ _
  have e5:(i + 1) * k=i * k + k:=by rw [yaI,ybw]
  rw [e3] at hz
  rw [e4] at ht ⊢
  rw [e5] at hnew
  rw [get_setMany _ _ _ t (by simp; omega),if_neg (by omega),get_setMany _ _ _ t (by omega)]
  by_cases h:t < i * k
  · rw [if_neg (by omega),if_pos h]
  · rw [if_pos (by omega),if_neg h,hnew _ (by omega),show i * k + k + (t - i * k)=t + k by omega]
theorem zjs {vs:Array Value} (h:vs.toList.length=3):∃ a b c,vs=#[a,b,c]∧vs.toList[0]? = some a∧vs.toList[1]? = some b∧vs.toList[2]? = some c:=by
 obtain ⟨l⟩:=vs
 match l,h with
 | [a,b,c],_=>exact ⟨a,b,c,rfl,rfl,rfl,rfl⟩
theorem zyh {S : Nat → Nat → Prop} {w : World} {rows : List (List PV)} {cur cur' F : Array Value} {sz n i : Nat} (hn : rows.length = n) (hi : i < n) (hz : ∀ row ∈ rows, row.length = sz) (hcs : n * sz ≤ cur.size) (hF : zDN sz n i cur F)
    (hc':∀ t y,t < F.size→cur'[t]? = some y→y=F[t]!)
    (hrow:∀ (k:Nat) row (j:Nat) p,rows[k]? = some row→row[j]? = some p→∃ y,cur[k * sz + j]? = some y∧y.oneCell'=true∧RepP S w p y) :
    ∀ (k:Nat) row (j:Nat) p u,(rows.eraseIdx i)[k]? = some row→row[j]? = some p→cur'[k * sz + j]? = some u→u.oneCell'=true∧RepP S w p u:=by
  intro k row j p u a b c
  have hk:k < n - 1:=by
    have:=(yab.1 a).1
    rw [ybC,if_pos (by omega)] at this; omega
  have hj:j < sz:=by rw [← hz row (List.mem_of_mem_eraseIdx (yaf a))]; exact (yab.1 b).1
  have hle:(k + 1) * sz≤(n - 1) * sz:=yaj _ (by omega)
  have hle2:(n - 1) * sz≤n * sz:=yaj _ (by omega)
  rw [yaI,ybw] at hle
  have hu:=hc' _ _ (by rw [hF.1]; omega) c
  rw [hF.2 _ (by omega)] at hu
  rw [List.getElem?_eraseIdx] at a
  by_cases hki:k < i
  · rw [if_pos hki] at a
    have:(k + 1) * sz≤i * sz:=yaj _ (by omega)
    rw [yaI,ybw] at this
    rw [if_pos (by omega)] at hu
    obtain ⟨y,y1,y2,y3⟩:=hrow k row j p a b
    obtain ⟨y4,y5⟩:=yak.1 y1
    rw [getElem!_pos cur _ y4,y5] at hu
    subst hu
    exact ⟨y2,y3⟩
  · rw [if_neg hki] at a
    have:i * sz≤k * sz:=yaj _ (by omega)
    rw [if_neg (by omega)] at hu
    obtain ⟨y,y1,y2,y3⟩:=hrow (k + 1) row j p a b
    rw [show (k + 1) * sz + j=k * sz + j + sz by rw [yaI,ybw]; omega] at y1
    obtain ⟨y4,y5⟩:=yak.1 y1
    rw [getElem!_pos cur _ y4,y5] at hu
    subst hu
    exact ⟨y2,y3⟩
theorem zlI {w:World} {g T:Nat} {cur:Array Value} (hc:w.heap[g]? = some (.cells cur T (0,0))):Holds id w g 0 cur:=by
 intro t ht
 refine ⟨?_,?_⟩
 ·
  simp [World.cell?,hc,getElem!_pos cur t ht,ht]
 ·
  simp [World.frozen?,hc]
set_option maxRecDepth 1000000 in
theorem zpS (blk off cap n i j : Nat) (cs : Array Value) (w : World) (h0 : off = 0) (hj : j = i + 1) (hH : Holds id w blk off cs) (hz : cs.size = cap * 3) (h1 : ∀ t, t < n * 3 → (cs[t]!).oneCell' = true) (hn : n ≤ cap) (hm : cap ≤ 9223372036854775807) (hi : i < n) :
    Calls Tryz.prog 201 #[.slice (some ⟨blk,off,none⟩) n cap,.int .i64 i,.int .i64 j] w fun e w'=>e = .returned (.slice (some ⟨blk,off,none⟩) (n - 1) cap)∧zw4 3 n i w blk cs w':=by
  have mixed:Tryz.prog.follows Departure.mixedOrders=true:=rfl
  have hcz:n * 3≤cs.size:=by rw [hz]; exact yaj _ hn
  obtain ⟨news,hnews⟩:∃ news:List Value,news=(List.range ((n - j) * 3)).map fun t=>cs[j * 3 + t]! := ⟨_,rfl⟩
  have hlen:news.length=(n - j) * 3:=by rw [hnews]; simp
  have hget:∀ t u,news[t]? = some u→t < (n - j) * 3∧u=cs[j * 3 + t]! := by
    intro t u hu
    have ht:t < news.length:=(yab.1 hu).1
    rw [hlen] at ht
    rw [hnews,yav,ya0 ht] at hu
    exact ⟨ht,(ybe hu).symm⟩
  obtain ⟨A,hA,hsrc⟩:∃ A:Addr,(if cap=j then some (⟨blk,off,none⟩:Addr) else some ⟨blk,off + j * 3,none⟩)=some A∧Hid (∀ t u,news[t]? = some u→w.drew.cell? (A.add t)=some u):=by
    by_cases h:cap=j
    · refine ⟨⟨blk,off,none⟩,by simp [h],fun t u hu=>?_⟩
      have:=(hget t u hu).1
      have e:n - j=0:=by omega
      rw [e] at this; omega
    · refine ⟨⟨blk,off + j * 3,none⟩,by simp [h],fun t u hu=>?_⟩
      obtain ⟨ht,rfl⟩:=hget t u hu
      rw [Addr.add_lit,ybc]
      exact (hH _ (by omega)).1
  have s1:Hid (news.length=(n - j) * 3):=hlen
  have s2:Hid (∀ u ∈ news,u.oneCell'=true):=by
    intro u hu
    obtain ⟨t,ht,rfl⟩:=yaq hu
    obtain ⟨h2,h3⟩:=hget t _ (yac ht)
    rw [h3]
    exact h1 _ (by omega)
  have s3:Hid (∀ t,t < news.length→(w.drew.cell? ⟨blk,off + i * 3 + t,none⟩).isSome=true∧w.drew.frozen? ⟨blk,off + i * 3 + t,none⟩=false):=by
    intro t ht
    rw [hlen] at ht
    rw [ybc]
    exact ⟨by show (w.cell? _).isSome=true; rw [(hH (i * 3 + t) (by omega)).1]; rfl,(hH (i * 3 + t) (by omega)).2⟩
  obtain ⟨W1,hW1⟩:∃ W1,W1=w.drew.setCells blk (off + i * 3) news:=⟨_,rfl⟩
  have hput:W1=putRow id (Sort.ahead w 1) blk off (setMany cs (i * 3) news):=by
    rw [hW1,← setCells_putRow _ _ _ _ _ _ (by omega),putRow_self id (Sort.ahead w 1) blk off cs (holds_ahead id w 1 blk off cs hH)]
    rfl
  have hH1:Holds id W1 blk off (setMany cs (i * 3) news):=by rw [hput]; exact holds_putRow id _ blk off cs _ (holds_ahead id w 1 blk off cs hH) (by simp)
  obtain ⟨zs,hzl,hcl⟩:∃ zs:List Value,zs.length=(n - (i + (n - j))) * 3∧∀ ty,(Builtin.clear_ #[60] ty #[.slice (some ⟨blk,off + (i + (n - j)) * 3,none⟩) (n - (i + (n - j))) (cap - (i + (n - j)))]).run Tryz.prog W1 = .ok (.tuple #[]) (W1.setCells blk (off + (i + (n - j)) * 3) zs):=by
    obtain ⟨zs,e1,e2⟩:=zcr (P:=Tryz.prog) W1 60 106 0 (.agg #[.int .i64 0,.int .i64 0,.bool false]) rfl (fun _=>by kernel_rfl) (by intro v hv; simp [Value.cells] at hv; first | (rcases hv with rfl | rfl | rfl <;> rfl) | (rcases hv with rfl | rfl | rfl | rfl | rfl <;> rfl)) blk (off + (i + (n - j)) * 3) (n - (i + (n - j))) (cap - (i + (n - j))) (by omega)
      (fun s hs=>by
        have hs':s < (n - (i + (n - j))) * 3:=hs
        have:=(hH1 ((i + (n - j)) * 3 + s) (by rw [size_setMany]; omega)).1
        rw [← ybc] at this
        rw [this]; rfl) (fun s hs=>by
        have hs':s < (n - (i + (n - j))) * 3:=hs
        have:=(hH1 ((i + (n - j)) * 3 + s) (by rw [size_setMany]; omega)).2
        rwa [← ybc] at this)
    exact ⟨zs,e1,fun ty=>e2⟩
  have fin:Aside (zw4 3 n i w blk cs (W1.setCells blk (off + (i + (n - j)) * 3) zs)):=by
    subst h0 hj
    refine ⟨1,_,zyg hcz hi news zs hlen (fun t ht=>?_),?_⟩
    · rw [getElem!_pos news t ht]
      exact (hget t _ (yac ht)).2
    · rw [hput,setCells_putRow _ _ _ _ _ _ (by rw [size_setMany,hzl]; omega),show i + (n - (i + 1))=n - 1 by omega]
  have hW:Hid (W1=w.drew.setCells blk (off + i * 3) news):=hW1
  have hic:i≤cap:=by omega
  have hjc:j≤cap:=by omega
  obtain ⟨i0,hi0,hz0,hz1,hz2⟩:=info_parts (P:=Tryz.prog) (e:=106) (z := .agg #[.int .i64 0,.int .i64 0,.bool false]) (size:=3) (bytes:=24) (by kernel_rfl)
  clear hput hW1 hH1 hH hget hnews hlen h1 hz hcz h0
  have hij:¬ i=j:=by omega
  have hijle:i≤j:=by omega
  have hjn:j≤n:=by omega
  have hA':Hid (j=i + 1):=hj
  clear hj
  go_enter Tryz.func201,Tryz.ntmps201
  go_wp2_with fail
  go_region_law_o (refine step_append_room rfl (.tmp 22) (.tmp 25) 60 rfl 106 i0 3 rfl hi0 hz1 blk off i cap (by simp [Act.eval,Act.put]) A (n - j) (cap - j) news (by simp [Act.eval,Act.put]) s1.out hsrc.out s2.out (by omega) s3.out ?_; rw [← hW.out])
  go_wp2
  go_ret
  have hj:=hA'.out
  exact ⟨by rw [show n - 1=i + (n - j) by omega]; rfl,fin.out⟩
theorem zpT (rows : List (List PV)) (v T i : Nat) (hi : i < rows.length) :
    zg Tryz.prog 201 [.arr 0 v,.int .i64 i,.int .i64 ((i + 1:Nat):Int)] [.arr v true false T 3 rows] (.arr 0 (v + 1)) [.arr (v + 1) true false T 3 (rows.eraseIdx i)]:=by
  intro x vs hx h0 hp
  obtain ⟨a,b,c,rfl,p1,p2,p3⟩:=zjs hp.1
  have ha:=hp.2 0 _ _ rfl p1
  obtain rfl:=(hp.2 1 _ _ rfl p2).int_inv
  obtain rfl:=(hp.2 2 _ _ rfl p3).int_inv
  obtain ⟨e1,e2,e3⟩:=h0.row (id:=0) rfl ha
  rcases e3 with ⟨rfl,hnil⟩ | ⟨g,cap,cur,rfl,hc,hcap,hm,hz,hrow⟩
  · subst hnil; simp at hi
  · have hH:=zlI hc
    have hcs:rows.length * 3≤cur.size:=by rw [hz]; exact yaj _ hcap
    have key:=zpS g 0 cap rows.length i (i + 1) cur x.w0 rfl rfl hH hz (fun t ht=>by
      have hk:t / 3 < rows.length:=Nat.div_lt_of_lt_mul (by omega)
      have hj:t % 3 < (rows[t / 3]'hk).length:=by rw [e2 _ (yaw hk)]; exact Nat.mod_lt _ (by omega)
      obtain ⟨y,y1,y2,-⟩:=hrow (t / 3) _ (t % 3) _ (yac hk) (yac hj)
      rw [show t / 3 * 3 + t % 3=t by omega] at y1
      obtain ⟨y4,y5⟩:=yak.1 y1
      rw [getElem!_pos cur _ y4,y5]; exact y2) hcap (by simp [maxLen] at hm; omega) hi
    refine key.mono ?_
    rintro e w' ⟨rfl,q,F,hF,rfl⟩
    obtain ⟨cur',c1,c2,c3,c4⟩:=zeh x.w0 g q F hc
    have hown:(x.C0.sv 0).ownBlock=some g:=by rw [← e1]; rfl
    have hlen:(rows.eraseIdx i).length=rows.length - 1:=by rw [ybC,if_pos hi]
    obtain ⟨C',k1,k2,k3⟩:=h0.rerow (id:=0) (v':=v + 1) (g':=g) (cap':=cap) (rows':=rows.eraseIdx i) (cur':=cur') rfl (by
      refine ⟨c4.size,c4.os,c4.tape,c4.output,fun b hb hne=>c4.blk b hb fun e=>hne (by rw [hown,e])⟩) (.inl hown) (.inr (by omega)) c1 (by rw [hlen]; omega) hm (by rw [c2,hz])
      (fun row hr=>e2 row (List.mem_of_mem_eraseIdx hr)) (zyh rfl hi e2 hcs hF c3 hrow)
    rw [hlen] at k3
    exact ⟨_,C',rfl,k1,k3⟩
end Go.Proofs.YtkcahmbcpkjpiaaGreatDoor
namespace Go.Proofs.YtkcahmbcpkjpiaaGreatDoor
open Go.RowKit Go.Lib Go.Sort
open Go.Shelf
def zuG (k n i:Nat) (cs:Array Value) (vs:List Value) (F:Array Value):Prop:=∀ t,t < (n + 1) * k→F[t]! = if t < i * k then cs[t]! else if t < i * k + k then vs[t - i * k]! else cs[t - k]!
theorem zgV {P : Program} (w : World) (tS tR e : TypeId) (ht : P.underlying tS = some (.slice e)) (size : Nat) (hz : ∀ w, (Go.sizeOf e).run P w = .ok size w)
    (a b:Addr) (la ca lb cb:Nat) (hne:a.block≠b.block) (tA tB:TypeId) (kA kB:Nat)
    (hsa:w.shape? a.block=some (tA,kA)) (hsb:w.shape? b.block=some (tB,kB)) (hkB:kB≠0) (hkA:kA≠0)
    (hfa:w.frozen? b=false) (hfe:w.frozen? { block:=b.block,off:=kB }=false) :
    (Extern.SlicesOverlaps.overlaps #[tS,tS] #[tR] #[.slice (some a) la ca,.slice (some b) lb cb]).run P w = .ok (.bool false) w:=by
  have hnb:(a.block != b.block)=true:=by simpa using hne
  have hnb':(a.block == b.block)=false:=by simpa using hne
  change Sem.run P (α:=Value) (do
    let some t := (#[tS, tS] : Array TypeId)[0]? | stuck "slices.overlaps: no parameter types"
    let .slice elem ← underlying t | stuck "slices.overlaps: slice type expected"
    let size ← sizeOf elem
    match (some a:Option Addr),(some b:Option Addr) with
    | some a,some b =>
      if la=0∨lb=0∨size=0 then pure (Value.bool false)
      else if a.block != b.block && (← frozen a) && (← frozen b) then unsupported .addressObserved
      else do
        if a.block != b.block then do
          noView a; noView b
          if ← mayBeOne a b then return Value.bool ((← choose (.extern "sameAddr.stringBytes" 2)) == 1)
        pure (Value.bool (a.block == b.block && a.off < b.off + lb * size && b.off < a.off + la * size))
    | _,_=>pure (Value.bool false)) w=_
  by_cases h0:la=0∨lb=0∨size=0
  · simp [run_underlying ht,hz,h0]
  · cases kB with
    | zero=>exact absurd rfl hkB
    | succ kB =>
     cases kA with
     | zero=>exact absurd rfl hkA
     | succ kA =>
      cases h1:w.frozen? a <;> cases h2:w.frozen? { block:=a.block,off:=kA + 1 } <;>
        simp [run_underlying ht,hz,h0,hnb,hnb',frozen,noView,viewAt,mayBeOne,stringish,shape,Sem.run,hsa,hsb,hfa,hfe,h1,h2]
theorem zbi {P : Program} (w : World) (dT sT ty elem : TypeId) (k : Nat) (b o dLen dCap : Nat) (a : Addr) (sLen sCap m : Nat) (cs : List Value)
    (hu:P.underlying dT=some (.slice elem)) (hs:(P.info? elem).map (·.size)=some k) (hm:m=Nat.min sLen dLen) (hn:cs.length=m * k)
    (hsrc:∀ j v,cs[j]? = some v→w.cell? (a.add j)=some v) (hc:∀ j,j < cs.length→(w.cell? ⟨b,o + j,none⟩).isSome=true) (hf:∀ j,j < cs.length→w.frozen? ⟨b,o + j,none⟩=false) (h1:∀ v ∈ cs,v.oneCell'=true) :
    (Builtin.copy_ #[dT,sT] ty #[.slice (some ⟨b,o,none⟩) dLen dCap,.slice (some a) sLen sCap]).run P w = .ok (goInt m) (w.setCells b o cs):=by
  have hl:=run_loadCells_list (P:=P) w a cs hsrc
  have hst:=run_storeCells_cells (P:=P) b o cs 0 w (by simpa using hc) (by simpa using hf) h1
  cases hq:P.info? elem with
  | none=>simp [hq] at hs
  | some i =>
    have hi:i.size=k:=by simpa [hq] using hs
    rw [hn] at hl
    simp [Builtin.copy_,run_underlying hu,Builtin.lenOf,Builtin.firstCells,sizeOf,typeInfo,hq,hi,← hm,hl,hst]
def seg (cs:Array Value) (s m:Nat):List Value:=(List.range m).map fun t=>cs[s + t]!
theorem zaP (cs:Array Value) (s m:Nat):(seg cs s m).length=m:=by simp [seg]
theorem ze1 {cs:Array Value} {s m t:Nat} {u:Value} (h:(seg cs s m)[t]? = some u):t < m∧u=cs[s + t]! := by
 have ht:t < (seg cs s m).length:=(yab.1 h).1
 rw [zaP] at ht
 rw [seg,yav,ya0 ht] at h
 exact ⟨ht,(ybe h).symm⟩
theorem zkj {cs:Array Value} {s m t:Nat} (h:t < m):(seg cs s m)[t]! = cs[s + t]! := by
 rw [getElem!_pos _ t (by rw [zaP]; exact h)]
 simp [seg]
theorem zrV {cs:Array Value} {s m e:Nat} (h1:∀ t,t < e→(cs[t]!).oneCell'=true) (he:s + m≤e):∀ v ∈ seg cs s m,v.oneCell'=true:=by
 intro v hv
 obtain ⟨t,ht,rfl⟩:=yaq hv
 obtain ⟨h2,h3⟩:=ze1 (yac ht)
 rw [h3]; exact h1 _ (by omega)
theorem zyi {k n i : Nat} {cs : Array Value} {vs : List Value} (hz : (n + 1) * k ≤ cs.size) (hi : i ≤ n) (hv : vs.length = k) :
    zuG k n i cs vs (setMany (setMany cs ((i + 1) * k) (seg cs (i * k) ((n - i) * k))) (i * k) vs):=by
  intro t ht
  obtain ⟨m,rfl⟩:∃ m,n=i + m:=⟨n - i,by omega⟩
  have e1:(i + m + 1) * k=i * k + m * k + k:=by rw [yaI,yaI,ybw]
  have e2:(i + 1) * k=i * k + k:=by rw [yaI,ybw]
  have e3:i + m - i=m:=by omega
  rw [e1] at hz ht
  rw [e2,e3,get_setMany _ _ _ t (by simp; omega),hv]
  by_cases h1:t < i * k
  · rw [if_neg (by omega),if_pos h1,get_setMany _ _ _ t (by omega),if_neg (by omega)]
  · by_cases h2:t < i * k + k
    · rw [if_pos (by omega),if_neg h1,if_pos h2]
    · rw [if_neg (by omega),if_neg h1,if_neg h2,get_setMany _ _ _ t (by omega),zaP,if_pos (by omega),zkj (by omega),show i * k + (t - (i * k + k))=t - k by omega]
theorem zex {P : Program} (w : World) {ops : Array Oper} {rest : List Oper} {o : Oper} {a : Act} {Q : Exit → Act → World → Prop}
    (hg:o.guard=none) (s x:Operand) (t:TypeId) (hop:o.op=Op.call { callee:=Callee.builtin Builtin.append,args:=#[s,x],argTypes:=#[t,t] })
    (e:TypeId) (i:TypeInfo) (size:Nat) (h1:P.underlying t=some (.slice e)) (h2:P.info? e=some i) (h4:i.size=size)
    (b off n cap:Nat) (hs:a.eval s = .slice (some ⟨b,off,none⟩) n cap) (ad:Addr) (m c:Nat) (news:List Value) (hx:a.eval x = .slice (some ad) m c) (hn:news.length=m * size)
    (hc:∀ j u,news[j]? = some u→w.cell? (ad.add j)=some u) (h1c:∀ u ∈ news,u.oneCell'=true) (hroom:n + m≤cap)
    (hspare:∀ j,j < news.length→(w.cell? ⟨b,off + n * size + j,none⟩).isSome=true∧w.frozen? ⟨b,off + n * size + j,none⟩=false)
    (hK:wpList P ops Q rest (a.put o.dst (.slice (some ⟨b,off,none⟩) (n + m) cap)) (w.setCells b (off + n * size) news)) :
    wpList P ops Q (o :: rest) a w:=by
  refine wpList_plain hg fun K hK'=>?_
  subst h4
  have hrun:=run_append_room_cells (P:=P) w t o.type e i h1 h2 b off n cap ad m c news hn hc h1c hroom (fun j hj=>(hspare j hj).1) (fun j hj=>(hspare j hj).2)
  unfold Oper.wp
  simp [execOp,hop,resolve,invoke,builtin,hs,hx,hrun,Result.andThen]
  exact hK' _ _ hK
set_option maxRecDepth 1000000 in
theorem zpU (blk off cap n i m vb voff vc tA kA : Nat) (cs : Array Value) (vs : List Value) (w : World) (h0 : off = 0) (hm1 : m = 1) (hH : Holds id w blk off cs) (hz : cs.size = cap * 3) (h1 : ∀ t, t < n * 3 → (cs[t]!).oneCell' = true)
    (hvl:vs.length=3) (hvs:∀ j v,vs[j]? = some v→w.cell? ⟨vb,voff + j,none⟩=some v) (h1v:∀ v ∈ vs,v.oneCell'=true) (hvb:vb≠blk) (hsa:w.shape? vb=some (tA,kA)) (hkA:kA≠0) (tB:TypeId) (hsb:w.shape? blk=some (tB,cap * 3)) (hfb:∀ o,w.frozen? ⟨blk,o,none⟩=false)
    (hm:cap≤9223372036854775807) (hi:i < n) (hroom:n + m≤cap) :
    Calls Tryz.prog 200 #[.slice (some ⟨blk,off,none⟩) n cap,.int .i64 i,.slice (some ⟨vb,voff,none⟩) m vc] w fun e w'=>e = .returned (.slice (some ⟨blk,off,none⟩) (n + m) cap)∧∃ (q:Nat) (F:Array Value),F.size=cs.size∧zuG 3 n i cs vs F∧w'=putRow id (Sort.ahead w q) blk 0 F:=by
  have mixed:Tryz.prog.follows Departure.mixedOrders=true:=rfl
  have hz1:¬ ((m:Int)=0):=by omega
  have hz2:¬ ((i:Int)=(n:Int)):=by omega
  have hsz:(Tryz.prog.info? 106).map (·.size)=some 3:=by kernel_rfl
  have hov:∀ lb cb,(callFunc 235 #[.slice (some ⟨vb,voff,none⟩) m vc,.slice (some ⟨blk,off + (i + m) * 3,none⟩) lb cb]).run Tryz.prog w = .ok (.value (.bool false)) w:=fun lb cb=>by
    rw [run_callFunc_extern Tryz.func235 (by kernel_rfl) (by kernel_rfl) (by kernel_rfl) (e:=Extern.SlicesOverlaps.overlaps #[60,60] #[4]) (by kernel_rfl),
      zgV w 60 4 106 rfl 3 (fun _=>by kernel_rfl) ⟨vb,voff,none⟩ ⟨blk,off + (i + m) * 3,none⟩ m vc lb cb hvb tA tB kA (cap * 3) hsa hsb (by omega) hkA (hfb _) (hfb _)]
    rfl
  have hw1:IntKind.i64.wrap ((i:Int) + (m:Int))=(i:Int) + (m:Int):=by rw [ybU]; omega
  have hb1:(0:Int)≤(i:Int) + (m:Int):=by omega
  have hin:i≤n:=by omega
  have htn:((i:Int) + (m:Int)).toNat=i + m:=by omega
  have hb2:¬ (cap=i + m):=by omega
  have hb3:(i:Int)≤(n:Int) + (m:Int):=by omega
  have hb4:¬ (cap=i):=by omega
  have hcz:n * 3≤cs.size:=by rw [hz]; exact yaj _ (by omega)
  have hcz1:(n + m) * 3≤cs.size:=by rw [hz]; exact yaj _ hroom
  obtain ⟨news,hnews⟩:∃ news,news=seg cs (i * 3) ((n - i) * 3):=⟨_,rfl⟩
  have hnl:news.length=(n - i) * 3:=by rw [hnews,zaP]
  have hcp1:∀ ty dc sc,(Builtin.copy_ #[60,60] ty #[.slice (some ⟨blk,off + (i + m) * 3,none⟩) (n + m - (i + m)) dc,.slice (some ⟨blk,off + i * 3,none⟩) (n + m - i) sc]).run Tryz.prog w.drew = .ok (goInt ((n - i:Nat):Int)) (w.drew.setCells blk (off + (i + m) * 3) news):=fun ty dc sc =>
    zbi w.drew _ _ ty 106 3 blk (off + (i + m) * 3) (n + m - (i + m)) dc ⟨blk,off + i * 3,none⟩ (n + m - i) sc (n - i) news rfl hsz (by simp only [Nat.min_def]; split <;> omega) hnl
      (fun j v hj=>by
        rw [hnews] at hj
        obtain ⟨ht,rfl⟩:=ze1 hj
        rw [Addr.add_lit,ybc]; exact (hH _ (by omega)).1)
      (fun j hj=>by rw [hnl] at hj; rw [ybc]; show (w.cell? _).isSome=true; rw [(hH _ (by omega)).1]; rfl) (fun j hj=>by exact hfb _)
      (by rw [hnews]; exact zrV h1 (by omega))
  obtain ⟨W1,hW1⟩:∃ W1,W1=w.drew.setCells blk (off + (i + m) * 3) news:=⟨_,rfl⟩
  have hput:W1=putRow id (Sort.ahead w 1) blk off (setMany cs ((i + m) * 3) news):=by
    rw [hW1,← setCells_putRow _ _ _ _ _ _ (by omega),putRow_self id (Sort.ahead w 1) blk off cs (holds_ahead id w 1 blk off cs hH)]
    rfl
  have hH1:Holds id W1 blk off (setMany cs ((i + m) * 3) news):=by rw [hput]; exact holds_putRow id _ blk off cs _ (holds_ahead id w 1 blk off cs hH) (by simp)
  have hcp2:∀ (W:World),W=W1→∀ ty dc,(Builtin.copy_ #[60,60] ty #[.slice (some ⟨blk,off + i * 3,none⟩) (n + m - i) dc,.slice (some ⟨vb,voff,none⟩) m vc]).run Tryz.prog W = .ok (goInt m) (W.setCells blk (off + i * 3) vs):=fun W hWc ty dc=>by
    subst hWc
    refine zbi W _ _ ty 106 3 blk (off + i * 3) (n + m - i) dc ⟨vb,voff,none⟩ m vc m vs rfl hsz (by simp only [Nat.min_def]; split <;> omega) (by omega)
      (fun j v hj=>by
        rw [Addr.add_lit,hW1,World.cell?_setCells_out blk _ _ _ _ (fun h _=>absurd h hvb)]
        exact hvs j v hj)
      (fun j hj=>by rw [ybc,(hH1 _ (by rw [size_setMany]; omega)).1]; rfl) (fun j hj=>by rw [ybc]; exact (hH1 _ (by rw [size_setMany]; omega)).2) h1v
  have fin:Aside (∃ (q:Nat) (F:Array Value),F.size=cs.size∧zuG 3 n i cs vs F∧W1.setCells blk (off + i * 3) vs=putRow id (Sort.ahead w q) blk 0 F):=by
    subst h0 hm1
    refine ⟨1,_,?_,zyi hcz1 (by omega) hvl,?_⟩
    · simp
    · rw [hput,setCells_putRow _ _ _ _ _ _ (by rw [size_setMany]; omega),hnews]
  rw [← hW1] at hcp1
  clear hkA hput hH hH1 hnews hnl hz hcz hcz1 h1 hvs h1v hsa hsb hfb hvl h0 hm1 hvb
  go_enter Tryz.func200,Tryz.ntmps200
  go_wp2_with (simp only [hov])
  go_region_law_o (refine step_copy_runI rfl _ _ 60 60 rfl _ _ (by simp [Act.eval,Act.put]) (by simp [Act.eval,Act.put]) (hcp1 _ _ _) ?_)
  go_wp2_with (at_builtin; refine wpList_copy_runI _ rfl _ _ 60 60 rfl _ _ rfl rfl (hcp2 _ rfl _ _) ?_)
  go_ret
  exact ⟨rfl,by rw [← hW1]; exact fin.out⟩
set_option maxRecDepth 1000000 in
theorem zkk (blk off cap n m vb voff vc : Nat) (cs : Array Value) (vs : List Value) (w : World) (h0 : off = 0) (hm1 : m = 1) (hH : Holds id w blk off cs) (hz : cs.size = cap * 3)
    (hvl:vs.length=3) (hvs:∀ j v,vs[j]? = some v→w.cell? ⟨vb,voff + j,none⟩=some v) (h1v:∀ v ∈ vs,v.oneCell'=true)
    (hm:cap≤9223372036854775807) (hroom:n + m≤cap) :
    Calls Tryz.prog 200 #[.slice (some ⟨blk,off,none⟩) n cap,.int .i64 n,.slice (some ⟨vb,voff,none⟩) m vc] w fun e w'=>e = .returned (.slice (some ⟨blk,off,none⟩) (n + m) cap)∧∃ (q:Nat) (F:Array Value),F.size=cs.size∧zuG 3 n n cs vs F∧w'=putRow id (Sort.ahead w q) blk 0 F:=by
  have mixed:Tryz.prog.follows Departure.mixedOrders=true:=rfl
  have hz1:¬ ((m:Int)=0):=by omega
  have hcz1:(n + m) * 3≤cs.size:=by rw [hz]; exact yaj _ hroom
  obtain ⟨i0,hi0,hz0,hzs,hzb⟩:=info_parts (P:=Tryz.prog) (e:=106) (z := .agg #[.int .i64 0,.int .i64 0,.bool false]) (size:=3) (bytes:=24) (by kernel_rfl)
  have s1:Hid (∀ j u,vs[j]? = some u→w.cell? (Addr.add ⟨vb,voff,none⟩ j)=some u):=fun j u hj=>by rw [Addr.add_lit]; exact hvs j u hj
  have s2:Hid (∀ u ∈ vs,u.oneCell'=true):=h1v
  have s3:Hid (∀ j,j < vs.length→(w.cell? ⟨blk,off + n * 3 + j,none⟩).isSome=true∧w.frozen? ⟨blk,off + n * 3 + j,none⟩=false):=fun j hj=>by
    rw [ybc]; exact ⟨by rw [(hH _ (by omega)).1]; rfl,(hH _ (by omega)).2⟩
  have s5:Hid (vs.length=m * 3):=by show vs.length=m * 3; omega
  have s6:Hid (∀ j u,(seg cs 0 (n * 3))[j]? = some u→w.cell? ⟨blk,off + j,none⟩=some u):=fun j u hj=>by
    obtain ⟨ht,rfl⟩:=ze1 hj
    rw [yaF]; exact (hH _ (by omega)).1
  have fin:Aside (∃ (q:Nat) (F:Array Value),F.size=cs.size∧zuG 3 n n cs vs F∧w.setCells blk (off + n * 3) vs=putRow id (Sort.ahead w q) blk 0 F):=by
    subst h0 hm1
    refine ⟨0,setMany cs (n * 3) vs,by simp,fun t ht=>?_,?_⟩
    · rw [get_setMany _ _ _ t (by omega),hvl]
      by_cases h1:t < n * 3
      · rw [if_neg (by omega),if_pos h1]
      · rw [if_pos (by omega),if_neg h1,if_pos (by omega)]
    · rw [← setCells_putRow _ _ _ _ _ _ (by omega),putRow_self id (Sort.ahead w 0) blk 0 cs (holds_ahead id w 0 blk 0 cs hH)]
      rfl
  have hml:n + m≤maxLen:=by unfold maxLen; omega
  clear hH hz hcz1 hvs h1v hvl h0 hm1
  go_enter Tryz.func200,Tryz.ntmps200
  go_wp2_with (at_builtin; refine zex _ rfl _ _ 60 rfl 106 i0 3 rfl hi0 hzs blk off n cap rfl ⟨vb,voff,none⟩ m vc vs rfl s5.out s1.out s2.out hroom s3.out ?_)
  go_ret
  exact ⟨rfl,fin.out⟩
set_option maxRecDepth 1000000 in
theorem zfs (ao : Option Addr) (cap n m vb voff vc : Nat) (olds vs : List Value) (w : World) (hm1 : m = 1) (hnone : ao = none → n = 0 ∧ cap = 0) (hlo : olds.length = n * 3) (holds : ∀ b, ao = some b → ∀ j u, olds[j]? = some u → w.cell? (b.add j) = some u)
    (hvl:vs.length=3) (hvs:∀ j v,vs[j]? = some v→w.cell? ⟨vb,voff + j,none⟩=some v) (h1v:∀ v ∈ vs,v.oneCell'=true)
    (hnc:n≤cap) (hfull:cap < n + m) (hbig:(n + m) * 24≤140737488355328) :
    Calls Tryz.prog 200 #[.slice ao n cap,.int .i64 n,.slice (some ⟨vb,voff,none⟩) m vc] w fun e w'=>∃ v',e = .returned v'∧w'.ownsRow w.heap.size 106 3 v' (n + m) (olds ++ vs)∧w.grownBy w' none:=by
  have mixed:Tryz.prog.follows Departure.mixedOrders=true:=rfl
  have hz1:¬ ((m:Int)=0):=by omega
  obtain ⟨i0,hi0,hz0,hzs,hzb⟩:=info_parts (P:=Tryz.prog) (e:=106) (z := .agg #[.int .i64 0,.int .i64 0,.bool false]) (size:=3) (bytes:=24) (by kernel_rfl)
  have s1:Hid (∀ j u,vs[j]? = some u→w.cell? (Addr.add ⟨vb,voff,none⟩ j)=some u):=fun j u hj=>by rw [Addr.add_lit]; exact hvs j u hj
  have s2:Hid (∀ u ∈ vs,u.oneCell'=true):=h1v
  have s5:Hid (vs.length=m * 3):=by show vs.length=m * 3; omega
  have s6:Hid (∀ b,ao=some b→∀ j u,olds[j]? = some u→w.cell? (b.add j)=some u):=holds
  have s7:Hid (ao=none→n=0∧cap=0):=hnone
  have hml:n + m≤maxLen:=by unfold maxLen; omega
  clear hvs h1v hvl hm1 holds hnone
  go_enter Tryz.func200,Tryz.ntmps200
  go_wp2_with (at_builtin; refine wpList_append_grows _ rfl _ _ 60 rfl 106 i0 (.agg #[.int .i64 0,.int .i64 0,.bool false]) 3 24 rfl hi0 hz0 hzs hzb rfl (by omega) ao n cap olds rfl s7.out hlo s6.out ⟨vb,voff,none⟩ m vc vs rfl s5.out s1.out s2.out hfull hml hbig (fun v' w' r1 r2=>?_))
  all_goals
    go_ret
    exact ⟨_,rfl,by assumption,by assumption⟩
end Go.Proofs.YtkcahmbcpkjpiaaGreatDoor
namespace Go.Proofs.YtkcahmbcpkjpiaaGreatDoor
open Go.RowKit Go.Lib Go.Sort
open Go.Shelf
theorem zrW {k n i : Nat} {cs ROW : Array Value} {vs : List Value} (hz : (n + 1) * k ≤ ROW.size) (hi : i ≤ n) (hv : vs.length = k) (hrow : ∀ t, t < i * k → ROW[t]! = cs[t]!) :
    zuG k n i cs vs (setMany (setMany ROW (i * k) vs) ((i + 1) * k) (seg cs (i * k) ((n - i) * k))):=by
  intro t ht
  obtain ⟨m,rfl⟩:∃ m,n=i + m:=⟨n - i,by omega⟩
  have e1:(i + m + 1) * k=i * k + m * k + k:=by rw [yaI,yaI,ybw]
  have e2:(i + 1) * k=i * k + k:=by rw [yaI,ybw]
  have e3:i + m - i=m:=by omega
  rw [e1] at hz ht
  rw [e2,e3,get_setMany _ _ _ t (by simp; omega),zaP]
  by_cases h1:t < i * k
  · rw [if_neg (by omega),if_pos h1,get_setMany _ _ _ t (by omega),if_neg (by omega),hrow t h1]
  · by_cases h2:t < i * k + k
    · rw [if_neg (by omega),if_neg h1,if_pos h2,get_setMany _ _ _ t (by omega),hv,if_pos (by omega)]
    · rw [if_pos (by omega),if_neg h1,if_neg h2,zkj (by omega),show i * k + (t - (i * k + k))=t - k by omega]
set_option maxRecDepth 1000000 in
theorem zrX (blk off cap n i m vb voff vc : Nat) (cs : Array Value) (vs : List Value) (w : World) (h0 : off = 0) (hm1 : m = 1) (hH : Holds id w blk off cs) (hz : cs.size = cap * 3) (h1 : ∀ t, t < n * 3 → (cs[t]!).oneCell' = true)
    (hvl:vs.length=3) (hvs:∀ j v,vs[j]? = some v→w.cell? ⟨vb,voff + j,none⟩=some v) (h1v:∀ v ∈ vs,v.oneCell'=true)
    (hi:i < n) (hnc:n≤cap) (hroom:cap < n + m) (hbig:(n + m) * 24≤140737488355328) :
    Calls Tryz.prog 200 #[.slice (some ⟨blk,off,none⟩) n cap,.int .i64 i,.slice (some ⟨vb,voff,none⟩) m vc] w fun e w'=>∃ (q G:Nat) (ROW F:Array Value),e = .returned (.slice (some ⟨w.heap.size,0,none⟩) (n + m) G)∧n + m≤G∧G≤maxLen∧ROW.size=G * 3∧F.size=ROW.size∧zuG 3 n i cs vs F∧w'=putRow id (Sort.ahead (w.alloc (.cells ROW 106)) q) w.heap.size 0 F:=by
  have mixed:Tryz.prog.follows Departure.mixedOrders=true:=rfl
  have hz1:¬ ((m:Int)=0):=by omega
  have hz2:¬ ((i:Int)=(n:Int)):=by omega
  have hz3:(cap:Int) < (n:Int) + (m:Int):=by omega
  have hsz:(Tryz.prog.info? 106).map (·.size)=some 3:=by kernel_rfl
  obtain ⟨i0,hi0,hz0,hzs,hzb⟩:=info_parts (P:=Tryz.prog) (e:=106) (z := .agg #[.int .i64 0,.int .i64 0,.bool false]) (size:=3) (bytes:=24) (by kernel_rfl)
  have hcz:n * 3≤cs.size:=by rw [hz]; exact yaj _ hnc
  have hbw:blk < w.heap.size:=block_lt_of_cell (hH 0 (by omega)).1
  have hvw:vb < w.heap.size:=block_lt_of_cell (hvs 0 _ (yac (by omega)))
  have hkk:(n:Int) + (m:Int) - (i:Int)=((n + m - i:Nat):Int):=by omega
  have hik:i + (n + m - i)=n + m:=by omega
  have hold:(Builtin.firstCells i0.size i (.slice (some ⟨blk,off,none⟩) i cap)).run Tryz.prog w.drew = .ok (seg cs 0 (i * 3)).toArray w.drew:=by
    rw [hzs]
    exact run_firstCells_some w.drew 3 i ⟨blk,off,none⟩ i cap (seg cs 0 (i * 3)) (zaP _ _ _) (fun j v hj=>by
      obtain ⟨ht,rfl⟩:=ze1 hj
      rw [Addr.add_lit,yaF]
      exact (hH _ (by omega)).1)
  obtain ⟨G,hG⟩:∃ G,G=grownCap w (n + m) cap 106:=⟨_,rfl⟩
  obtain ⟨ROW,hROW⟩:∃ ROW:Array Value,ROW=(seg cs 0 (i * 3)).toArray ++ Builtin.zeroCells (Value.cells (.agg #[.int .i64 0,.int .i64 0,.bool false])) (n + m - i) ++ Builtin.zeroCells (Value.cells (.agg #[.int .i64 0,.int .i64 0,.bool false])) (G - (n + m)):=⟨_,rfl⟩
  have hrz : ∀ ty, (Builtin.append_ #[60, 3] ty #[.slice (some ⟨blk, off, none⟩) i cap, .int .i64 ((n : Int) + (m : Int) - (i : Int))]).run Tryz.prog w =
      .ok (.slice (some ⟨w.heap.size,0,none⟩) (n + m) G) (w.drew.alloc (.cells ROW 106)):=fun ty=>by
    have h:=Lib.run_append_grow_zeros w 60 3 ty 106 i0 _ .i64 .i64 rfl rfl hi0 hz0 (some ⟨blk,off,none⟩) i cap (seg cs 0 (i * 3)) hold (n + m - i) (by omega) (by omega) (by omega) (by omega) (by rw [hzb]; omega) (by rw [hzb,hik]; exact growslice_fits hroom hbig)
    rw [hik,← hG,← hROW] at h
    rw [hkk]
    exact h
  have hGn:n + m≤G:=by rw [hG]; exact grownCap_ge w _ _ _
  have hGm:G≤maxLen:=by rw [hG]; exact grownCap_le_maxLen w (n + m) cap 106 (by unfold maxLen; omega)
  have hG63:G≤9223372036854775807:=by have:=hGm; unfold maxLen at this; omega
  have hRs:ROW.size=G * 3:=by
    rw [hROW]
    simp [Builtin.zeroCells,Value.cells,zaP]
    omega
  have hRow:∀ t,t < i * 3→ROW[t]! = cs[t]! := fun t ht=>by
    rw [getElem!_pos ROW t (by omega)]
    simp only [hROW]
    rw [Array.getElem_append_left (by simp [zaP]; omega),Array.getElem_append_left (by simp [zaP]; omega)]
    have:=zkj (cs:=cs) (s:=0) ht
    rw [getElem!_pos _ t (by rw [zaP]; exact ht),yaF] at this
    simpa using this
  obtain ⟨W1,hW1⟩:∃ W1,W1=w.drew.alloc (.cells ROW 106):=⟨_,rfl⟩
  have hN:Holds id W1 w.heap.size 0 ROW:=fun j hj=>by
    rw [yaF,hW1]
    refine ⟨?_,World.frozen?_alloc_at (w:=w.drew) ROW _ w.heap.size j rfl⟩
    rw [World.cell?_alloc_at (w:=w.drew) ROW _ w.heap.size j rfl,ya4 hj,getElem!_pos ROW j hj]; rfl
  have hOb:∀ j v,w.cell? ⟨blk,j,none⟩=some v→W1.cell? ⟨blk,j,none⟩=some v:=fun j v h=>by rw [hW1,World.cell?_alloc_past (w:=w.drew) _ blk j hbw]; exact h
  have hOv:∀ j v,w.cell? ⟨vb,j,none⟩=some v→W1.cell? ⟨vb,j,none⟩=some v:=fun j v h=>by rw [hW1,World.cell?_alloc_past (w:=w.drew) _ vb j hvw]; exact h
  have hRn:(n + m) * 3≤ROW.size:=by rw [hRs]; exact yaj _ hGn
  have hcpA:∀ ty dc,(Builtin.copy_ #[60,60] ty #[.slice (some ⟨w.heap.size,i * 3,none⟩) (n + m - i) dc,.slice (some ⟨vb,voff,none⟩) m vc]).run Tryz.prog W1 = .ok (goInt m) (W1.setCells w.heap.size (i * 3) vs):=fun ty dc =>
    zbi W1 _ _ ty 106 3 w.heap.size (i * 3) (n + m - i) dc ⟨vb,voff,none⟩ m vc m vs rfl hsz (by simp only [Nat.min_def]; split <;> omega) (by omega)
      (fun j v hj=>by rw [Addr.add_lit]; exact hOv _ v (hvs j v hj))
      (fun j hj=>by have:=(hN (i * 3 + j) (by omega)).1; rw [yaF] at this; rw [this]; rfl) (fun j hj=>by have:=(hN (i * 3 + j) (by omega)).2; rwa [yaF] at this) h1v
  obtain ⟨news,hnews⟩:∃ news,news=seg cs (i * 3) ((n - i) * 3):=⟨_,rfl⟩
  have hnl:news.length=(n - i) * 3:=by rw [hnews,zaP]
  obtain ⟨W2,hW2⟩:∃ W2,W2=W1.setCells w.heap.size (i * 3) vs:=⟨_,rfl⟩
  have hself:putRow id W1 w.heap.size 0 ROW=W1:=putRow_self id W1 w.heap.size 0 ROW hN
  have hput:W2=putRow id W1 w.heap.size 0 (setMany ROW (i * 3) vs):=by
    rw [← setCells_putRow _ _ _ _ _ _ (by omega),hself,hW2,yaF]
  have hN2:Holds id W2 w.heap.size 0 (setMany ROW (i * 3) vs):=by rw [hput]; exact holds_putRow id _ _ _ ROW _ hN (by simp)
  have hbN:blk≠w.heap.size:=by omega
  have hcpB:∀ ty dc sc,(Builtin.copy_ #[60,60] ty #[.slice (some ⟨w.heap.size,(i + m) * 3,none⟩) (n + m - (i + m)) dc,.slice (some ⟨blk,off + i * 3,none⟩) (n - i) sc]).run Tryz.prog W2.drew = .ok (goInt ((n - i:Nat):Int)) (W2.drew.setCells w.heap.size ((i + m) * 3) news):=fun ty dc sc =>
    zbi W2.drew _ _ ty 106 3 w.heap.size ((i + m) * 3) (n + m - (i + m)) dc ⟨blk,off + i * 3,none⟩ (n - i) sc (n - i) news rfl hsz (by simp only [Nat.min_def]; split <;> omega) hnl
      (fun j v hj=>by
        rw [hnews] at hj
        obtain ⟨ht,rfl⟩:=ze1 hj
        rw [Addr.add_lit,ybc]
        show W2.cell? _=_
        rw [hW2,World.cell?_setCells_out _ _ _ _ _ (fun h _=>absurd h hbN)]
        exact hOb _ _ (hH _ (by omega)).1)
      (fun j hj=>by have:=(hN2 ((i + m) * 3 + j) (by rw [size_setMany]; omega)).1; rw [yaF] at this; show (W2.cell? _).isSome=true; rw [this]; rfl)
      (fun j hj=>by have:=(hN2 ((i + m) * 3 + j) (by rw [size_setMany]; omega)).2; rw [yaF] at this; exact this) (by rw [hnews]; exact zrV h1 (by omega))
  have fin:Aside (∃ (q:Nat) (F:Array Value),F.size=ROW.size∧zuG 3 n i cs vs F∧W2.drew.setCells w.heap.size ((i + m) * 3) news=putRow id (Sort.ahead (w.alloc (.cells ROW 106)) q) w.heap.size 0 F):=by
    subst h0 hm1
    refine ⟨2,_,?_,zrW hRn (by omega) hvl hRow,?_⟩
    · simp
    · have e:W2.drew=putRow id (Sort.ahead (w.alloc (.cells ROW 106)) 2) w.heap.size 0 (setMany ROW (i * 3) vs):=by rw [hput,hW1]; rfl
      rw [← setCells_putRow _ _ _ _ _ _ (by rw [size_setMany,zaP]; omega),← e,hnews,yaF]
  rw [← hW1] at hrz
  rw [← hW2] at hcpA
  have B:Aside (ROW.size=G * 3∧G≤maxLen):=⟨hRs,hGm⟩
  have hGi:¬ (G=i):=by omega
  have hGim:¬ (G=i + m):=by omega
  have hci:¬ (cap=i):=by omega
  have hw1:IntKind.i64.wrap ((i:Int) + (m:Int))=(i:Int) + (m:Int):=by rw [ybU]; omega
  have hb1:(0:Int)≤(i:Int) + (m:Int):=by omega
  have hin:i≤n:=by omega
  have htn:((i:Int) + (m:Int)).toNat=i + m:=by omega
  have hb3:(i:Int)≤(n:Int):=by omega
  clear hself hput hN2 hW1 hW2 hnews hnl hOb hOv hN hRow hRn hRs hROW hG hold hH hz hcz h1 hvs h1v hvl h0 hm1 hkk hik hGm hbig hzb hzs hz0 hi0
  go_enter Tryz.func200,Tryz.ntmps200
  go_wp2_with (first
    | (at_builtin; refine Lib.wpList_append_run _ rfl _ _ _ _ rfl _ _ rfl rfl _ _ (hrz _) ?_)
    | (at_builtin; refine wpList_copy_runI _ rfl _ _ 60 60 rfl _ _ rfl rfl (hcpA _ _) ?_))
  go_region_law_o (refine step_copy_runI rfl _ _ 60 60 rfl (.slice (some ⟨w.heap.size,(i + m) * 3,none⟩) (n + m - (i + m)) (G - (i + m))) (.slice (some ⟨blk,off + i * 3,none⟩) (n - i) (cap - i)) (by simp [Act.eval,Act.put]) (by simp [Act.eval,Act.put]) (hcpB _ _ _) ?_)
  go_wp2
  go_ret
  obtain ⟨q,F,f1,f2,f3⟩:=fin.out
  exact ⟨q,G,ROW,F,rfl,hGn,B.out.2,B.out.1,f1,f2,f3⟩
end Go.Proofs.YtkcahmbcpkjpiaaGreatDoor
namespace Go.Proofs.YtkcahmbcpkjpiaaGreatDoor
open Go.RowKit Go.Lib Go.Sort
open Go.Shelf
theorem zkl {S : Nat → Nat → Prop} {w : World} {rows : List (List PV)} {row0 : List PV} {cs cur' : Array Value} {vs : List Value} {sz n i : Nat} (hn : rows.length = n) (hi : i ≤ n) (hz : ∀ row ∈ rows, row.length = sz) (hz0 : row0.length = sz)
    (hget:∀ t y,t < (n + 1) * sz→cur'[t]? = some y→y=if t < i * sz then cs[t]! else if t < i * sz + sz then vs[t - i * sz]! else cs[t - sz]!)
    (hrow:∀ (k:Nat) row (j:Nat) p,rows[k]? = some row→row[j]? = some p→∃ y,cs[k * sz + j]? = some y∧y.oneCell'=true∧RepP S w p y)
    (hnew:∀ (j:Nat) p,row0[j]? = some p→∃ y,vs[j]? = some y∧y.oneCell'=true∧RepP S w p y) :
    ∀ (k:Nat) row (j:Nat) p u,(rows.insertIdx i row0)[k]? = some row→row[j]? = some p→cur'[k * sz + j]? = some u→u.oneCell'=true∧RepP S w p u:=by
  intro k row j p u a b c
  have hk:k < n + 1:=by
    have:=(yab.1 a).1
    rw [List.length_insertIdx,if_pos (by omega)] at this; omega
  have hrl:row.length=sz:=by
    rw [List.getElem?_insertIdx] at a
    split at a
    · exact hz _ (yaf a)
    · split at a
      · split at a
        · cases a; exact hz0
        · cases a
      · exact hz _ (yaf a)
  have hj:j < sz:=by rw [← hrl]; exact (yab.1 b).1
  have hle:(k + 1) * sz≤(n + 1) * sz:=yaj _ (by omega)
  rw [yaI,ybw] at hle
  have hu:=hget _ _ (by omega) c
  rw [List.getElem?_insertIdx] at a
  by_cases h1:k < i
  · rw [if_pos h1] at a
    have:(k + 1) * sz≤i * sz:=yaj _ (by omega)
    rw [yaI,ybw] at this
    rw [if_pos (by omega)] at hu
    obtain ⟨y,y1,y2,y3⟩:=hrow k row j p a b
    obtain ⟨y4,y5⟩:=yak.1 y1
    rw [getElem!_pos cs _ y4,y5] at hu
    subst hu
    exact ⟨y2,y3⟩
  · rw [if_neg h1] at a
    have hik:i * sz≤k * sz:=yaj _ (by omega)
    by_cases h2:k=i
    · subst h2
      rw [if_pos rfl,if_pos (by omega)] at a
      cases a
      rw [if_neg (by omega),if_pos (by omega),show k * sz + j - k * sz=j by omega] at hu
      obtain ⟨y,y1,y2,y3⟩:=hnew j p b
      obtain ⟨y4,y5⟩:=yab.1 y1
      rw [getElem!_pos vs _ y4,y5] at hu
      subst hu
      exact ⟨y2,y3⟩
    · rw [if_neg h2] at a
      have h3:(i + 1) * sz≤k * sz:=yaj _ (by omega)
      rw [yaI,ybw] at h3
      rw [if_neg (by omega),if_neg (by omega)] at hu
      obtain ⟨y,y1,y2,y3⟩:=hrow (k - 1) row j p a b
      obtain ⟨k',rfl⟩:∃ k',k=k' + 1:=⟨k - 1,by omega⟩
      rw [ybX] at y1
      rw [show (k' + 1) * sz + j - sz=k' * sz + j by rw [yaI,ybw]; omega] at hu
      obtain ⟨y4,y5⟩:=yak.1 y1
      rw [getElem!_pos cs _ y4,y5] at hu
      subst hu
      exact ⟨y2,y3⟩
theorem RepV.list_one {S : Nat → Nat → Prop} {w : World} {C : Conc} {row : List PV} {v : Value} (h : RepV S w C (.list [row]) v) (h0 : 0 < row.length) :
    ∃ (b o c:Nat) (x:Nat→Value),v = .slice (some ⟨b,o,none⟩) 1 c∧∀ (j:Nat) p,row[j]? = some p→S b (o + j)∧w.cell? ⟨b,o + j,none⟩=some (x j)∧RepP S w p (x j):=by
  cases h.list_inv with
  | list _ a c sz x hc hm hsz hz hl hr =>
    obtain ⟨b,o,ha,-,-⟩:=hl 0 row 0 row[0] rfl (yac h0)
    refine ⟨b,o,c,x 0,by rw [ha]; rfl,fun j p hp=>?_⟩
    obtain ⟨b',o',ha',h1,h2⟩:=hl 0 row j p rfl hp
    rw [ha] at ha'
    cases ha'
    rw [Nat.zero_mul,ybh] at h1 h2
    exact ⟨h1,h2,hr 0 row j p rfl hp⟩
theorem zpV (rows : List (List PV)) (row0 : List PV) (v i : Nat) (hi : i ≤ rows.length) (hr0 : row0.length = 3) (hbig : (rows.length + 1) * 24 ≤ 140737488355328) :
    zg Tryz.prog 200 [.arr 0 v,.int .i64 i,.list [row0]] [.arr v true false 106 3 rows] (.arr 0 (v + 1)) [.arr (v + 1) true false 106 3 (rows.insertIdx i row0)]:=by
  intro x vs hx h0 hp
  obtain ⟨a,b,c,rfl,p1,p2,p3⟩:=zjs hp.1
  have ha:=hp.2 0 _ _ rfl p1
  obtain rfl:=(hp.2 1 _ _ rfl p2).int_inv
  obtain ⟨vb,vo,vc,xv,rfl,hxv⟩:=(hp.2 2 _ _ rfl p3).list_one (by omega)
  obtain ⟨e1,e2,e3⟩:=h0.row (id:=0) rfl ha
  have hlen:(rows.insertIdx i row0).length=rows.length + 1:=by rw [List.length_insertIdx,if_pos hi]
  have hrl:∀ row ∈ rows.insertIdx i row0,row.length=3:=fun row hr=>by
    rcases (List.mem_insertIdx hi).1 hr with rfl | hr
    · exact hr0
    · exact e2 row hr
  obtain ⟨ws,hws⟩:∃ ws:List Value,ws=(List.range 3).map xv:=⟨_,rfl⟩
  have hwl:ws.length=3:=by rw [hws]; simp
  have hwg:∀ j u,ws[j]? = some u→∃ p,row0[j]? = some p∧u=xv j:=fun j u hu=>by
    have hj:j < 3:=by rw [← hwl]; exact (yab.1 hu).1
    rw [hws,yav,ya0 hj] at hu
    exact ⟨_,yac (by omega),(ybe hu).symm⟩
  have hwc:∀ j u,ws[j]? = some u→x.w0.cell? ⟨vb,vo + j,none⟩=some u:=fun j u hu=>by
    obtain ⟨p,hp,rfl⟩:=hwg j u hu
    exact (hxv j p hp).2.1
  have hw1:∀ u ∈ ws,u.oneCell'=true:=fun u hu=>by
    obtain ⟨j,hj,rfl⟩:=yaq hu
    obtain ⟨p,hp,e⟩:=hwg j _ (yac hj)
    rw [e]; exact (hxv j p hp).2.2.one
  have hnew:∀ (j:Nat) p,row0[j]? = some p→∃ y,ws[j]? = some y∧y.oneCell'=true∧RepP (zu x x.C0 _ x.w0) x.w0 p y:=fun j p hp=>by
    have hj:j < 3:=by rw [← hr0]; exact (yab.1 hp).1
    refine ⟨xv j,by rw [hws,yav,ya0 hj]; rfl,(hxv j p hp).2.2.one,(hxv j p hp).2.2⟩
  rcases e3 with ⟨rfl,hnil⟩ | ⟨g,cap,cur,rfl,hc,hcap,hm,hz,hrow⟩
  · subst hnil
    obtain rfl:i=0:=by simpa using hi
    refine (zfs none 0 0 1 vb vo vc [] ws x.w0 rfl (fun _=>⟨rfl,rfl⟩) rfl (fun b h=>by cases h) hwl hwc hw1 (by omega) (by omega) (by omega)).mono ?_
    rintro e w' ⟨v',rfl,hown,hgr⟩
    obtain ⟨o1,⟨-,o2⟩ | ⟨g',cap',cur',rfl,o3,o4,o5,o6,o7,o8⟩⟩:=hown
    · simp at o2
    · obtain ⟨C',k1,k2,k3⟩:=h0.rerow (id:=0) (v':=v + 1) (g':=g') (cap':=cap') (rows' := [row0]) (cur':=cur') rfl
        ⟨hgr.size,hgr.os,hgr.tape,hgr.output,fun b hb _=>hgr.block b hb (by simp)⟩ (.inr ⟨o3,fun b hb h=>h.same (hgr.block b (h0.blk_lt (id:=0) rfl hb) (by simp))⟩) (.inr (by omega)) o4 o5 o6 o7 (fun row hr=>by simp at hr; subst hr; exact hr0)
        (zkl (rows := []) (row0:=row0) (cs:=#[]) (vs:=ws) (n:=0) (i:=0) rfl (by omega) (fun row hr=>by simp at hr) hr0 (fun t y ht hy=>by
          rw [if_neg (by omega),if_pos (by omega),Nat.zero_mul,Nat.sub_zero]
          have:=congrArg (fun l=>l[t]?) o8
          simp only [yas] at this
          rw [yaK,if_pos (by omega),yaV,hy] at this
          obtain ⟨h1,h2⟩:=yab.1 this.symm
          rw [getElem!_pos ws t h1,h2]) (fun k row j p h=>by simp at h) hnew)
      exact ⟨_,C',rfl,k1,k3⟩
  · have hH:=zlI hc
    have hown:(x.C0.sv 0).ownBlock=some g:=by rw [← e1]; rfl
    have hcs:rows.length * 3≤cur.size:=by rw [hz]; exact yaj _ hcap
    have hcap63:cap≤9223372036854775807:=by simp [maxLen] at hm; omega
    have hone:∀ t,t < rows.length * 3→(cur[t]!).oneCell'=true:=fun t ht=>by
      have hk:t / 3 < rows.length:=Nat.div_lt_of_lt_mul (by omega)
      have hj:t % 3 < (rows[t / 3]'hk).length:=by rw [e2 _ (yaw hk)]; exact Nat.mod_lt _ (by omega)
      obtain ⟨y,y1,y2,-⟩:=hrow (t / 3) _ (t % 3) _ (yac hk) (yac hj)
      rw [show t / 3 * 3 + t % 3=t by omega] at y1
      obtain ⟨y4,y5⟩:=yak.1 y1
      rw [getElem!_pos cur _ y4,y5]; exact y2
    have hcell0:=hwc 0 _ (yac (by omega))
    have hvb:vb≠g:=fun e=>by
      have:=((hxv 0 _ (yac (by omega))).1.2.2 0 _ rfl) (by rw [hown,e])
      exact absurd this.1 (by decide)
    have hfb:∀ o,x.w0.frozen? ⟨g,o,none⟩=false:=fun o=>by simp [World.frozen?,hc]
    have hsb:x.w0.shape? g=some (106,cap * 3):=by simp [World.shape?,hc,hz]
    obtain ⟨tA,kA,hsa,hkA⟩:∃ tA kA,x.w0.shape? vb=some (tA,kA)∧kA≠0:=by
      unfold World.cell? at hcell0
      unfold World.shape?
      split at hcell0
      · rename_i cc ee ff hh
        refine ⟨ee,cc.size,by rw [hh],fun e=>?_⟩
        simp at hcell0
        obtain ⟨h1,-⟩:=yak.1 hcell0
        omega
      · cases hcell0
    -- in place
    have inplace : ∀ (q : Nat) (F : Array Value), F.size = cur.size → zuG 3 rows.length i cur ws F → rows.length + 1 ≤ cap →
        ∃ C',HR x C' [.arr (v + 1) true false 106 3 (rows.insertIdx i row0)] (putRow id (Sort.ahead x.w0 q) g 0 F)∧RepV (zu x C' [.arr (v + 1) true false 106 3 (rows.insertIdx i row0)] (putRow id (Sort.ahead x.w0 q) g 0 F)) (putRow id (Sort.ahead x.w0 q) g 0 F) C' (.arr 0 (v + 1)) (.slice (some ⟨g,0,none⟩) (rows.length + 1) cap):=fun q F hFs hF hr=>by
      obtain ⟨cur',c1,c2,c3,c4⟩:=zeh x.w0 g q F hc
      have hcs1:(rows.length + 1) * 3≤cur.size:=by rw [hz]; exact yaj _ hr
      obtain ⟨C',k1,k2,k3⟩:=h0.rerow (id:=0) (v':=v + 1) (g':=g) (cap':=cap) (rows':=rows.insertIdx i row0) (cur':=cur') rfl
        ⟨c4.size,c4.os,c4.tape,c4.output,fun b hb hne=>c4.blk b hb fun e=>hne (by rw [hown,e])⟩ (.inl hown) (.inr (by omega)) c1 (by rw [hlen]; omega) hm (by rw [c2,hz]) hrl
        (zkl rfl hi e2 hr0 (fun t y ht hy=>(c3 t y (by omega) hy).trans (hF t ht)) hrow hnew)
      rw [hlen] at k3
      exact ⟨C',k1,k3⟩
    by_cases hroom:rows.length + 1≤cap
    · by_cases hin:i=rows.length
      · subst hin
        refine Calls.mono (zkk g 0 cap rows.length 1 vb vo vc cur ws x.w0 rfl rfl hH hz hwl hwc hw1 hcap63 hroom) ?_
        rintro e w' ⟨rfl,q,F,f1,f2,rfl⟩
        obtain ⟨C',k1,k3⟩:=inplace q F f1 f2 hroom
        exact ⟨_,C',rfl,k1,k3⟩
      · refine Calls.mono (zpU g 0 cap rows.length i 1 vb vo vc tA kA cur ws x.w0 rfl rfl hH hz hone hwl hwc hw1 hvb hsa hkA _ hsb hfb hcap63 (by omega) hroom) ?_
        rintro e w' ⟨rfl,q,F,f1,f2,rfl⟩
        obtain ⟨C',k1,k3⟩:=inplace q F f1 f2 hroom
        exact ⟨_,C',rfl,k1,k3⟩
    · by_cases hin:i=rows.length
      · subst hin
        refine Calls.mono (zfs (some ⟨g,0,none⟩) cap rows.length 1 vb vo vc (seg cur 0 (rows.length * 3)) ws x.w0 rfl (fun h=>by cases h) (zaP _ _ _) (fun b hb j u hu=>by
          cases hb
          obtain ⟨ht,rfl⟩:=ze1 hu
          rw [Addr.add_lit]
          have:=(hH j (by omega)).1
          simp only [yaF] at this ⊢
          exact this) hwl hwc hw1 hcap (by omega) hbig) ?_
        rintro e w' ⟨v',rfl,how,hgr⟩
        obtain ⟨o1,⟨-,o2⟩ | ⟨g',cap',cur',rfl,o3,o4,o5,o6,o7,o8⟩⟩:=how
        · omega
        · obtain ⟨C',k1,k2,k3⟩:=h0.rerow (id:=0) (v':=v + 1) (g':=g') (cap':=cap') (rows':=rows.insertIdx rows.length row0) (cur':=cur') rfl
            ⟨hgr.size,hgr.os,hgr.tape,hgr.output,fun b hb _=>hgr.block b hb (by simp)⟩ (.inr ⟨o3,fun b hb h=>h.same (hgr.block b (h0.blk_lt (id:=0) rfl hb) (by simp))⟩) (.inr (by omega)) o4 (by rw [hlen]; exact o5) o6 o7 hrl
            (zkl rfl hi e2 hr0 (cs:=cur) (vs:=ws) (fun t y ht hy=>by
              have:=congrArg (fun l=>l[t]?) o8
              rw [yaK,if_pos (by omega),yaV,hy] at this
              by_cases h1:t < rows.length * 3
              · rw [if_pos h1]
                rw [yaC (by rw [zaP]; exact h1)] at this
                obtain ⟨-,h2⟩:=ze1 this.symm
                rw [h2,yaF]
              · rw [if_neg h1,if_pos (by omega)]
                rw [yaL (by rw [zaP]; omega),zaP] at this
                obtain ⟨h3,h2⟩:=yab.1 this.symm
                rw [getElem!_pos ws _ h3,h2]) hrow hnew)
          rw [hlen] at k3
          exact ⟨_,C',rfl,k1,k3⟩
      · refine Calls.mono (zrX g 0 cap rows.length i 1 vb vo vc cur ws x.w0 rfl rfl hH hz hone hwl hwc hw1 (by omega) hcap (by omega) hbig) ?_
        rintro e w' ⟨q,G,ROW,F,rfl,f1,f2,f3,f4,f5,rfl⟩
        have hcA:(x.w0.alloc (.cells ROW 106)).heap[x.w0.heap.size]? = some (.cells ROW 106 (0,0)):=heap_alloc_new _ _
        obtain ⟨cur',c1,c2,c3,c4⟩:=zeh (x.w0.alloc (.cells ROW 106)) x.w0.heap.size q F hcA
        have hg1:=World.grownBy_alloc x.w0 (.cells ROW 106) none
        have hFs:(rows.length + 1) * 3≤F.size:=by rw [f4,f3]; exact yaj _ f1
        obtain ⟨C',k1,k2,k3⟩:=h0.rerow (id:=0) (v':=v + 1) (g':=x.w0.heap.size) (cap':=G) (rows':=rows.insertIdx i row0) (cur':=cur') rfl
          ⟨yaP hg1.size c4.size,c4.os.trans hg1.os,c4.tape.trans hg1.tape,c4.output.trans hg1.output,fun b hb _=>(c4.blk b (yam hb hg1.size) (by omega)).trans (hg1.block b hb (by simp))⟩ (.inr ⟨yag _,fun b hb h=>h.same ((c4.blk b (yam (h0.blk_lt (id:=0) rfl hb) hg1.size) (by have:=h0.blk_lt (id:=0) rfl hb; omega)).trans (hg1.block b (h0.blk_lt (id:=0) rfl hb) (by simp)))⟩) (.inr (by omega)) c1 (by rw [hlen]; exact f1) f2 (by rw [c2,f3]) hrl
          (zkl rfl hi e2 hr0 (fun t y ht hy=>(c3 t y (by omega) hy).trans (f5 t ht)) hrow hnew)
        rw [hlen] at k3
        exact ⟨_,C',rfl,k1,k3⟩
end Go.Proofs.YtkcahmbcpkjpiaaGreatDoor
namespace Go.Proofs.YtkcahmbcpkjpiaaGreatDoor
open Go.RowKit
open Tryz
theorem zkm (l:List Entry) (h:zrM l) (hl:l.length≤1000000000000000):zg prog 134 [.list (l.map cE)] [] (.agg [.int .i64 (zax l 0),.int .i64 (zax l 1)]) []:=by
 refine zg.of_walk func134 ntmps134 zv7.1 zv7.2 (by simp) fun x hx=>?_
 simp only [go_sem,zCQ,zCR]
 refine zy [0,2,3,4] 2 (fun n st=>∃ k:Nat,k + n=l.length ∧
  st=⟨mkE .top [(0,.list (l.map cE)),(2,.ptr 0 0),(3,.ptr 1 0),(4,.int .i64 k)],[.box [.int .i64 0,.int .i64 0],.box [.int .i64 (zax (l.take k) 0),.int .i64 (zax (l.take k) 1)]]⟩) l.length (by simp [hx]) (by simp) ?_ ?_
 ·
  refine ⟨0,by omega,?_⟩
  simp [zh,go_sem,ze,zf,pos,yaa,zax]
 ·
  rintro n st ⟨k,hk,rfl⟩
  by_cases hlt:k < l.length
  ·
   have hg:l[k]? = some (nth l k):=zk _ _ hlt
   have wk:=zM (k:=k) (by omega)
   have hle:∀ r,zax (l.take k) r≤1000000000000000:=fun r=>by have:=zhD (l.take k) r; rw [yaz] at this; omega
   have w0:=zM (k:=zax (l.take k) 0) (by have:=hle 0; omega)
   have w1:=zM (k:=zax (l.take k) 1) (by have:=hle 1; omega)
   have c0:=zcq l k 0 hlt
   have c1:=zcq l k 1 hlt
   rcases h (nth l k) (by rw [zv _ _ hlt]; exact yaw hlt) with hr | hr
   ·
    rw [hr] at c0 c1
    simp only [go_sem,hlt,hg,cE,hr,w0,w1,wk,Int.reduceLE,Int.reduceLT,Int.reduceToNat,yao,yaX,yaD,yaO]
    refine ⟨by simp,n - 1,by omega,k + 1,by omega,?_⟩
    simp [zh,go_sem,ze,zf,pos,yaa,c0,c1]
   ·
    rw [hr] at c0 c1
    simp only [go_sem,hlt,hg,cE,hr,w0,w1,wk,Int.reduceLE,Int.reduceLT,Int.reduceToNat,yao,yaX,yaD,yaO]
    refine ⟨by simp,n - 1,by omega,k + 1,by omega,?_⟩
    simp [zh,go_sem,ze,zf,pos,yaa,c0,c1]
  ·
   have:l.take k=l:=yan (by omega)
   simp only [go_sem,hlt]
   refine zd hx ?_
   simp [go_sem,zCQ,zCR,this]
theorem ZT (l:List Entry) (y:Id) (hl:l.length≤9223372036854775806):zg prog 96 [.list (l.map cE),.agg (cId y)] [] (.int .i64 (zG l y)) []:=by
 refine zg.of_walk func96 ntmps96 zAr.1 zAr.2 (by simp) fun x hx=>?_
 simp only [go_sem,L96,R96,cId]
 refine zy [0,3,5] 1 (fun n st=>∃ k:Nat,k + n=l.length∧zaC (fun e=>decide (e.id=y)) (l.drop k) k=zG l y ∧
  st=⟨mkE .top [(0,.list (l.map cE)),(3,.ptr 0 0),(5,.int .i64 k)],[.box (cId y)]⟩) l.length (by simp [hx]) (by simp) ?_ ?_
 ·
  refine ⟨0,by omega,by simp [zG],?_⟩
  simp [zh,go_sem,ze,zf,pos,yaa,cId]
 ·
  rintro n st ⟨k,hk,hi,rfl⟩
  by_cases hlt:k < l.length
  ·
   have hg:l[k]? = some (nth l k):=zk _ _ hlt
   have wk:=zM (k:=k) (by omega)
   rw [zaS _ l k hlt] at hi
   by_cases he:(nth l k).id=y
   ·
    simp only [go_sem,hlt,hg,cE,cId,zgT,he]
    refine zd hx ?_
    simp [he] at hi
    simp [go_sem,L96,R96,hi]
   ·
    simp only [go_sem,hlt,hg,cE,cId,zgT,he,wk]
    refine ⟨by simp,n - 1,by omega,k + 1,by omega,by simpa [he] using hi,?_⟩
    simp [zh,go_sem,ze,zf,pos,yaa,cId]
  ·
   have:l.drop k = []:=ya2 (by omega)
   rw [this] at hi
   simp only [go_sem,hlt]
   refine zd hx ?_
   simp [go_sem,L96,R96,← hi,zaC]
theorem ziM (l:List Entry) (hm:l.length≤9223372036854775806):zg prog 94 [.list (l.map cE)] [] (.int .i64 (zJ l)) []:=by
 refine zg.of_walk func94 ntmps94 zAp.1 zAp.2 (by simp) fun x hx=>?_
 by_cases h40:40 < l.length
 ·
  have d40:decide ((40:Int) < (l.length:Nat))=true:=by simp; omega
  simp only [go_sem,L94,R94,d40]
  refine zd hx ?_
  simp [go_sem,L94,R94,zJ,h40]
 have d40:decide ((40:Int) < (l.length:Nat))=false:=by simp; omega
 have hcl:zJ l=zP (ZZ l) l.length:=by simp [zJ,h40]
 simp only [go_sem,L94,R94,d40,hcl]
 refine zy [0,3] 0 (fun n st=>∃ k:Nat,k + n=l.length∧zP (ZZ l) k=0 ∧
  st=⟨mkE .top [(0,.list (l.map cE)),(3,.int .i64 k)],[]⟩) l.length (by simp [hx]) (by simp) ?_ ?_
 ·
  refine ⟨0,by omega,rfl,?_⟩
  simp [zh,go_sem,ze,zf,pos]
 ·
  rintro n st ⟨k,hk,hz,rfl⟩
  by_cases hlt:k < l.length
  ·
   have hg:l[k]? = some (nth l k):=zk _ _ hlt
   have wk:=zM (k:=k) (by omega)
   have hle:k≤l.length:=by omega
   have hrow:(∀ row ∈ List.map cE l,row.length=5)=True:=eq_true (zrL l)
   have htk:List.take k (List.map cE l)=List.map cE (List.take k l):=List.map_take.symm
   have hlk:(l.take k).length≤40:=by rw [yaz]; omega
   have hreg:=zjp hz hle
   have fin:∀ r:Int,ZZ l k=r→r≠0→zP (ZZ l) l.length=r:=fun r h1 h2=>by rw [Zg hz (by rw [h1]; exact h2) hlt,h1]
   simp only [go_sem,hlt,hg,cE]
   refine zc (.pureE (zgU (nth l k)) (by simp [go_sem,cE])) ?_
   by_cases h1:zm (nth l k)=0
   ·
    have hr:=za4 h1
    have hls:=(zV h1).2.2.2.1
    simp only [go_sem,h1,hlt,hg,hle,hrow,htk,yaO,ybK,yaD,ybm,cE]
    refine zc (.pureE (ZT (l.take k) (nth l k).id (by omega)) (by simp [go_sem,cId])) ?_
    by_cases h2:0≤zG (l.take k) (nth l k).id
    ·
     simp only [go_sem,h2]
     refine zd hx ?_
     have:ZZ l k=6:=by simp [ZZ,h1,h2]
     simp [go_sem,L94,R94,fin _ this (by decide)]
    simp only [go_sem,h2,hlt,hg,hle,hrow,htk,yaO,ybK,yaD,ybm,cE]
    refine zc (.pureE (zkm (l.take k) hreg (by omega)) (by simp [go_sem])) ?_
    have hw:∀ r,IntKind.i64.wrap ((zax (l.take k) r:Int) + 1)=(zax (l.take k) r:Int) + 1:=fun r=>by have:=zhD (l.take k) r; rw [IntWalk.i64_in _ (by omega)]
    by_cases h3:(zax (l.take k) (nth l k).id.r:Int) + 1=(nth l k).id.n
    ·
     have h3e:ZZ l k=if zbg (l.take k) (nth l k)=false then 5 else 0:=by simp [ZZ,h1,h2,h3]
     have hrb:zbg (l.take k) (nth l k) = !((nth l k).ls.any fun x=>decide (zG (l.take k) x < 0)):=by simp [zbg,h3]
     have looped:∀ j,(nth l k).ls.any (fun x=>decide (zG (l.take k) x < 0))=false∨j≤(nth l k).ls.length→True:=fun _ _=>trivial
     rcases hr with hr | hr
     all_goals
      have h3':=h3
      rw [hr] at h3'
      have dc:=decide_eq_true h3'
      simp only [go_sem,hr,hw,dc,hlt,hg,hle,hrow,htk,ybK,ybm,cE,Int.reduceLE,Int.reduceLT,Int.reduceToNat,yao,yaX,yaD,yaO]
      refine zy [0,3,5] 0 (fun n st=>∃ j:Nat,j + n=(nth l k).ls.length∧((nth l k).ls.take j).any (fun x=>decide (zG (l.take k) x < 0))=false ∧
       st=⟨mkE .top [(0,.list (l.map cE)),(3,.int .i64 k),(5,.int .i64 j)],[]⟩) (nth l k).ls.length (by simp [hx]) (by simp) ?_ ?_
      ·
       refine ⟨0,by omega,by simp,?_⟩
       simp [zh,go_sem,ze,zf,pos]
      ·
       rintro n2 st ⟨j,hj,ha,rfl⟩
       by_cases hlj:j < (nth l k).ls.length
       ·
        have hgj:(nth l k).ls[j]? = some (nth (nth l k).ls j):=zk _ _ hlj
        have wj:=zM (k:=j) (by omega)
        simp only [go_sem,hlt,hg,hlj,hgj,hle,hrow,htk,ybK,ybm,yaD,yaO,cE,cId]
        refine zc (.pureE (ZT (l.take k) (nth (nth l k).ls j) (by omega)) (by simp [go_sem,cId])) ?_
        have hsucc:((nth l k).ls.take (j + 1)).any (fun x=>decide (zG (l.take k) x < 0))=decide (zG (l.take k) (nth (nth l k).ls j) < 0):=by
         rw [yaE hlj,List.any_append,ha,zv _ _ hlj]; simp
        by_cases h5:zG (l.take k) (nth (nth l k).ls j) < 0
        ·
         simp only [go_sem,h5]
         refine zd hx ?_
         have hall:(nth l k).ls.any (fun x=>decide (zG (l.take k) x < 0))=true:=by
          rw [ybn]
          exact ⟨nth (nth l k).ls j,by rw [zv _ _ hlj]; exact yaw hlj,by simp [h5]⟩
         have:ZZ l k=5:=by rw [h3e,hrb,hall]; rfl
         simp [go_sem,L94,R94,fin _ this (by decide)]
        ·
         simp only [go_sem,h5,wj]
         refine ⟨by simp,n2 - 1,by omega,j + 1,by omega,by rw [hsucc]; simp [h5],?_⟩
         simp [zh,go_sem,ze,zf,pos]
       ·
        have htl:(nth l k).ls.take j=(nth l k).ls:=yan (by omega)
        rw [htl] at ha
        simp only [go_sem,hlt,hg,hlj,cE,wk]
        refine ⟨by simp,n - 1,by omega,k + 1,by omega,Zv hz (by rw [h3e,hrb,ha]; rfl),?_⟩
        simp [zh,go_sem,ze,zf,pos]
    ·
     rcases hr with hr | hr
     all_goals
      have h3':=h3
      rw [hr] at h3'
      have dc:=decide_eq_false h3'
      simp only [go_sem,hr,hw,dc,hlt,hg,cE,Int.reduceLE,Int.reduceLT,Int.reduceToNat,yao,yaX,yaD,yaO]
      refine zd hx ?_
      have:ZZ l k=4:=by simp [ZZ,h1,h2,h3]
      simp [go_sem,L94,R94,fin _ this (by decide)]
   ·
    simp only [go_sem,h1]
    refine zd hx ?_
    have:ZZ l k=zm (nth l k):=by simp [ZZ,h1]
    simp [go_sem,L94,R94,fin _ this h1]
  ·
   have hke:k=l.length:=by omega
   subst hke
   simp only [go_sem,ybO,hz]
   refine zd hx ?_
   simp [go_sem,L94,R94,hz]
end Go.Proofs.YtkcahmbcpkjpiaaGreatDoor
