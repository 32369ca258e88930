/- Joined texts of this claim: U16 U22 U14 U17 C1 C2 C3 C4 C5 C6 K1 K2 K3 K4 K6 K7 K8 K9 K10 K11 K12 K13 K14 K15 U19 U18 F1 Sw. -/
import Derived.Test.YtkcahmbcpkjpiaaGreatDoorKF
import Derived.Test.YtkcahmbcpkjpiaaGreatDoorKE
import Derived.Test.YtkcahmbcpkjpiaaGreatDoorKB
import Derived.Shelf.SlSortCmp.WholeK
import Derived.Shelf.SlLaysF0
import Derived.Shelf.Lays
import Derived.Test.YtkcahmbcpkjpiaaGreatDoorProg
import Derived.KernelRfl
set_option linter.unusedSimpArgs false
set_option linter.unusedVariables false
set_option linter.unusedSectionVars false
set_option maxHeartbeats 8000000
set_option maxRecDepth 100000
namespace Go.Proofs.YtkcahmbcpkjpiaaGreatDoor
open Go.RowKit
open Tryz
def zA1:PV→PV→Bool
 | .int k _,.int k' _=>k == k'
 | .str _,.str _=>true
 | _,_=>false
section
variable {P:Program} {x:Cx} {nt:Nat} {st:St}
theorem znt {op:Op} {n:Nat} {X V:LOpd} (hl:Z1 P op=some (.store n X V)):∃ t A B,op = .store t A B∧zaO P t=some n∧zaK A=some X∧zaK B=some V:=by
 cases op <;> simp only [Z1,reduceCtorEq] at hl
 case store t A B =>
  split at hl <;> try (cases hl; done)
  rename_i h1 h2 h3
  cases hl
  exact ⟨t,A,B,rfl,h1,h2,h3⟩
 all_goals (repeat' (split at hl))
 all_goals first | (simp only [reduceCtorEq] at *; done) | (cases hl; done) | (obtain ⟨_,e⟩:=zE hl; cases e; done)
theorem zyv {S:Nat→Nat→Prop} {w:World} {C:Conc} {p:PV} {cs:List PV} {v:Value} (h:RepV S w C (.rptr (p :: cs)) v):∃ b o x0,v = .pointer (some ⟨b,o,none⟩)∧S b o∧w.cell? ⟨b,o,none⟩=some x0∧RepP S w p x0:=by
 cases h with
 | pure h =>
  cases h with
  | rptr cells b o x hl h=>exact ⟨b,o,x 0,rfl,(hl 0 p rfl).1,(hl 0 p rfl).2,h 0 p rfl⟩
theorem zA2 {S S':Nat→Nat→Prop} {w:World} {C:Conc} {p q:PV} {x0 v:Value} (hk:zA1 p q=true) (hp:RepP S w p x0) (hv:RepV S' w C q v):kin x0 v∧v.cells.toList = [v]∧v.oneCell'=true:=by
 cases p <;> cases q <;> simp only [zA1,yap,beq_iff_eq] at hk
 ·
  subst hk
  rw [hv.int_inv]
  cases hp
  exact ⟨⟨_,rfl⟩,rfl,rfl⟩
 ·
  rw [hv.str_inv]
  cases hp
  exact ⟨⟨_,rfl⟩,rfl,rfl⟩
theorem zqd (t : TypeId) (b o : Nat) (v : Value) {w : World} (hn : zaO P t = some 1) (hv : v.cells.toList = [v]) (h1 : v.oneCell' = true) (hc : (w.cell? ⟨b, o, none⟩).isSome = true) (hf : w.frozen? ⟨b, o, none⟩ = false) :
    ((do Instr.storeAt t (.pointer (some ⟨b,o,none⟩)) v; pure Next.skip:Sem Next)).run P w = .ok .skip (w.setCell ⟨b,o,none⟩ v):=by
  have hl:v.cells.toList.length=1:=by rw [hv]; rfl
  have hst := run_storeCells_cells (P := P) b o v.cells.toList 0 w (fun j hj => by
      obtain rfl:j=0:=by omega
      exact hc) (fun j hj=>by
      obtain rfl:j=0:=by omega
      exact hf)
    (fun u hu=>by rw [hv] at hu; simp at hu; subst hu; exact h1)
  simp only [ybh] at hst
  have hs:v.cells.size=v.cells.toList.length:=by simp
  simp only [Instr.storeAt,Instr.sureAddr,storeVar,yal,yay,Result.andThen_ok,Z5 hn,hs,hl,ne_eq,not_true_eq_false,if_false,hst]
  rw [hv]
  rfl
theorem zuP {pre : List LOper} {d : Option Nat} {so : Bool} {X V : LOpd} {Q : AE → St → Prop} (hS0 : ∀ b o, ¬ x.S0 b o)
    (h:Zq P pre (fun st1=>(∃ p cs,X.ev st1 = .rptr (p :: cs)∧zA1 p (V.ev st1)=true)∧(∀ (id:Nat) v sto ipu T sz rows,st1.heap[id]? = some (.arr v sto ipu T sz rows)→sto=true)∧∀ st2,zop st1 st2→Q .normal (st2.put d .undef st2.heap)) st) :
    W P x nt (.reg none (pre ++ [⟨d,.store 1 X V,none,so⟩])) Q st:=by
  intro c hc a w hrel
  cases c <;> simp only [zq,reduceCtorEq] at hc
  case region id rops draw =>
    split at hc <;> try (cases hc; done)
    rename_i l0 hl
    split at hc
    · rename_i hd
      subst hd
      split at hc
      · unfold Za at hc
        split at hc <;> cases hc
      · unfold Zl at hc
        split at hc <;> cases hc
    · rename_i hd
      cases hc
      obtain rfl:draw=false:=by simpa using hd
      refine wp_region_list ?_
      obtain ⟨l1,l2,e,g1,g2⟩:=zdp pre hl
      rw [e]
      refine Zq.wp_app (fun st1 a w hk hr=>?_) l1 _ st a w g1 h hrel
      obtain ⟨⟨p,cs,hX,hkin⟩,hst,hq⟩:=hk
      cases l2 with
      | nil=>simp [zF] at g2
      | cons o l2 =>
        simp only [zF] at g2
        split at g2 <;> try (cases g2; done)
        rename_i lo r h1 h2
        simp only [yae,yb6] at g2
        obtain ⟨rfl,rfl⟩:=g2
        cases l2 with
        | cons y l2 =>
          simp only [zF] at h2
          split at h2 <;> cases h2
        | nil =>
        unfold Zc at h1
        split at h1 <;> try (cases h1; done)
        rename_i lop hop
        split at h1 <;> try (cases h1; done)
        rename_i hd
        have hd':∀ t,o.dst=some t→t < nt:=by
          intro t e
          rw [e] at hd
          simpa [zmR] using hd
        split at h1
        · rename_i hg
          cases h1
          unfold wpList
          rw [if_pos (by simp [Region.wanted,hg])]
          refine .inl ?_
          obtain ⟨⟨C,hr1,he⟩,hdf,hsz⟩:=hr
          obtain ⟨t,A,B,ho,hn,hA,hB⟩:=znt hop
          have hrX:=zau (st:=st1) he hA
          have hrV:=zau (st:=st1) he hB
          rw [hX] at hrX
          obtain ⟨b,off,x0,eX,hS1,hc1,hp0⟩:=zyv hrX
          obtain ⟨hk1,hk2,hk3⟩:=zA2 hkin hp0 hrV
          have hu:∀ b o,zu x C st1.heap w b o→Unf w b:=fun b o hs=>by
            rcases hs.1 with q | q
            · exact (hS0 b o q).elim
            · exact q.2
          have hex:(execOp a.eval o).run P w = .ok .skip (w.setCell ⟨b,off,none⟩ (a.eval B)):=by
            have:=zqd (P:=P) t b off (a.eval B) hn hk2 hk3 (by rw [hc1]; rfl) (hu _ _ hS1 _)
            simpa only [execOp,ho,eX] using this
          unfold Oper.wp
          rw [hex]
          have hs:=Soil.set (R:=zu x C st1.heap w) hc1 hk1 hS1
          obtain ⟨st2,k1,⟨⟨C2,hr2,he2⟩,hdf2,hsz2⟩⟩:=Rel.soil hr1 he hdf hsz hs (fun b o h=>h) hst hS0 (fun b o h=>hr1.old_apart hS0 h)
          exact ⟨_,hq st2 k1,zbc hsz2 hdf2 hr2 he2 (fun _ _ h=>h) .undef hd'⟩
        · rename_i j want hg
          split at h1 <;> try (cases h1; done)
          split at h1 <;> cases h1
  all_goals (repeat' (split at hc)) <;> first | (cases hc; done) | (unfold Zl at hc; split at hc <;> cases hc; done) | (unfold Za at hc; split at hc <;> cases hc; done) | (obtain ⟨_,e⟩:=zE hc; cases e; done)
def zyw (X V:LOpd) (live:List Nat) [K:BxK] (st1:St):Prop :=
 (∃ p cs,X.ev st1 = .rptr (p :: cs)∧zA1 p (V.ev st1)=true)∧zcV st1.heap=true∧ziT live st1.env fun E=>zhY st1.heap fun H=>K.k ⟨mkE .top E,H⟩
theorem zyx {ops : List LOper} {a : LC} {l l0 : List LC} {Q Q0 : AE → St → Prop} {st : St} {d : Option Nat} {so : Bool} {X V : LOpd} (live : List Nat) (hS0 : ∀ b o, ¬ x.S0 b o)
    (ho:ops.getLast? = some ⟨d,.store 1 X V,none,so⟩) (hd:∀ t,d=some t→t ∉ live) (h0:∀ st,WL P x nt (a :: l) Q st→WL P x nt l0 Q0 st)
    (h:Zq P ops.dropLast (@zyw X V live ⟨WL P x nt (a :: l) Q⟩) st):WL P x nt (.reg none ops :: l0) Q0 st:=by
  refine zfC ?_
  rw [zd2 ho]
  refine zuP hS0 (Zq.mono ?_ _ _ h)
  rintro st1 ⟨h1,h2,h3⟩
  exact ⟨h1,zkw h2,fun st2 hs=>h0 _ (zl2 live hd hs h3)⟩
theorem zek {ops : List LOper} {a : LC} {l : List LC} {Q Q' : AE → St → Prop} {st : St} {i : Nat} {d : Option Nat} {so : Bool} {X V : LOpd} (live : List Nat) (hS0 : ∀ b o, ¬ x.S0 b o)
    (ho:ops.getLast? = some ⟨d,.store 1 X V,none,so⟩) (hd:∀ t,d=some t→t ∉ live)
    (h:Zq P ops.dropLast (@zyw X V live ⟨WL P x nt (a :: l) Q⟩) st):WL P x nt [.reg none ops] (zdB i (@thenS ⟨WL P x nt (a :: l) Q⟩ Q')) st:=zyx live hS0 ho hd (fun _ h=>h) h
end
theorem zuQ {X V:LOpd} {live:List Nat} {K:BxK} {st1:St}:@zyw X V live K st1=((∃ p cs,X.ev st1 = .rptr (p :: cs)∧zA1 p (V.ev st1)=true)∧zcV st1.heap=true∧ziT live st1.env fun E=>zhY st1.heap fun H=>K.k ⟨mkE .top E,H⟩):=id rfl
attribute [go_sem] zuQ
theorem ziU {S : Nat → Nat → Prop} {w : World} {v : Value} (l : List Id) (hu : ∀ b o, S b o → Unf w b) (hv : RepP S w (.list (l.map cId)) v) :
    Calls prog 49 #[v] w fun e w'=>e = .returned (.tuple #[])∧Soil S w w':=by
  obtain ⟨a,c,rfl,hc,hm,-⟩:=zoG hv
  have hm2:c≤9223372036854775807:=by unfold maxLen at hm; omega
  clear hm
  have HV:=Lib.hid hv; clear hv
  have HU:=Lib.hid hu; clear hu
  go_enter func49,ntmps49
  go_wp2
  go_loopw [2] (fun i wr=>∃ k:Nat,k≤l.length∧i = .int .i64 k∧Soil S w wr) (fun i _=>l.length - (intOf i).toNat)
  case atStart=>exact ⟨0,by omega,rfl,Soil.refl _ _⟩
  case round =>
    obtain ⟨k,hk,rfl,hs⟩:=hrel
    by_cases hlt:k < l.length
    · obtain ⟨l2,hl2,hv2⟩:=zoH hs HV.out
      obtain ⟨a',c',e1,-,-,hat⟩:=zoG hv2
      simp only [Value.slice.injEq] at e1
      obtain ⟨rfl,-,rfl⟩:=e1
      obtain ⟨b2,o2,rfl,hS,hcell⟩:=hat k l2[k] (yac (by omega))
      have hf:wr.frozen? ⟨b2,o2 + k * 2 + 1,none⟩=false:=(hs.frz b2).2 (HU.out _ _ hS) _
      have HT:=Lib.hid (hs.trans (Soil.set hcell ⟨-7,rfl⟩ hS)); clear hs hv2 hat hS
      go_wp2
      go_roundw
      case rel=>exact ⟨k + 1,by omega,by go_num,HT.out⟩
      case measure=>simp [intOf]; omega
    · have hk3:k=l.length:=by omega
      subst hk3
      go_wp2
      go_end0
      exact ⟨rfl,hs⟩
theorem zbm:zlw prog 49 fun rows=>∃ l:List Id,rows=l.map cId:=by
 rintro S w v rows ⟨l,rfl⟩ hu hv
 exact ziU l hu hv
theorem zst {α β:Type} {f:α→β} {G:α→Prop}:∀ {rs:List β},(∀ r ∈ rs,∃ y,r=f y∧G y)→∃ l:List α,rs=l.map f∧∀ y ∈ l,G y
 | [],_=>⟨[],rfl,by simp⟩
 | r :: rs,h=>by
  obtain ⟨y,rfl,hy⟩:=h r (by simp)
  obtain ⟨l,rfl,hl⟩:=zst (rs:=rs) fun q hq=>h q (by simp [hq])
  exact ⟨y :: l,rfl,by simpa using ⟨hy,hl⟩⟩
theorem zuR {α : Type} {f : α → List PV} {P : α → α → Prop} {R : PV → PV → Prop} {l : List α} {rows : List (List PV)} (hl : rows.length = (l.map f).length)
    (hr:∀ (k:Nat) (r r':List PV),(l.map f)[k]? = some r→rows[k]? = some r'→r'.length=r.length∧∀ (j:Nat) (p p':PV),r[j]? = some p→r'[j]? = some p'→R p p')
    (hf:∀ y r,r.length=(f y).length→(∀ (j:Nat) (p p':PV),(f y)[j]? = some p→r[j]? = some p'→R p p')→∃ y',r=f y'∧P y y') :
    ∃ l':List α,l'.length=l.length∧rows=l'.map f∧∀ y' ∈ l',∃ y ∈ l,P y y':=by
  obtain ⟨l',e,h⟩:=zst (f:=f) (G:=fun y'=>∃ y ∈ l,P y y') (rs:=rows) fun r hr'=>by
    obtain ⟨k,hk,e⟩:=yaq hr'
    have hk':k < l.length:=by rw [hl] at hk; simpa using hk
    have g1:(l.map f)[k]? = some (f l[k]):=by simp [hk']
    have g2:rows[k]? = some r:=by rw [yac hk,e]
    obtain ⟨a,b⟩:=hr k _ _ g1 g2
    obtain ⟨y',e1,e2⟩:=hf _ _ a b
    exact ⟨y',e1,_,yaw hk',e2⟩
  refine ⟨l',?_,e,h⟩
  rw [e] at hl
  simpa using hl
theorem zxa {α : Type} {f : α → List PV} {P : α → α → Prop} {l : List α} {q : PV} (h : Bl (.list (l.map f)) q)
    (hf:∀ y r,r.length=(f y).length→(∀ (j:Nat) (p p':PV),(f y)[j]? = some p→r[j]? = some p'→Bl p p')→∃ y',r=f y'∧P y y') :
    ∃ l':List α,l'.length=l.length∧q = .list (l'.map f)∧∀ y' ∈ l',∃ y ∈ l,P y y':=by
  obtain ⟨rows',rfl,hl,hr,h⟩:=znd h
  obtain ⟨l',h1,h2,h3⟩:=zuR (R:=Bl) hl (fun k r r' a b=>⟨hr k r r' a b,fun j p p' c d=>h k r r' j p p' a b c d⟩) hf
  exact ⟨l',h1,by rw [h2],h3⟩
theorem zEd {α:Type} {r:List α} (h:r.length=3):∃ a b c,r = [a,b,c]:=by
 match r,h with
 | [a,b,c],_=>exact ⟨a,b,c,rfl⟩
theorem len2 {α:Type} {r:List α} (h:r.length=2):∃ a b,r = [a,b]:=by
 match r,h with
 | [a,b],_=>exact ⟨a,b,rfl⟩
theorem zDQ {α:Type} {r:List α} (h:r.length=1):∃ a,r = [a]:=by
 match r,h with
 | [a],_=>exact ⟨a,rfl⟩
abbrev Wd:=List Si × List (List Entry)
def zl5:AObj→Bool
 | .arr _ _ false _ _ rows=>rows.all fun r=>r.all zaw
 | .gone=>true
 | _=>false
def zfD:PV→Bool
 | .arr .. | .ptr .. => true
 | .tup vs=>vs.isEmpty
 | p=>zaw p
theorem zuS {S S':Nat→Nat→Prop} {w:World} {C:Conc} {r:PV} {v:Value} (hb:zfD r=true) (h:RepV S w C r v):RepV S' w C r v:=by
 cases h with
 | pure h=>cases h <;> first | (simp [zfD,zaw] at hb; done) | exact .pure (.bool _) | exact .pure (.int _ _) | exact .pure (.str _) | exact .pure .nilp
 | any=>simp [zfD,zaw] at hb
 | undef=>simp [zfD,zaw] at hb
 | vlist=>simp [zfD,zaw] at hb
 | agg=>simp [zfD,zaw] at hb
 | tup cs vs hl h =>
  have:cs = []:=by simpa [zfD] using hb
  subst this
  exact .tup [] vs hl fun j p x h=>by simp at h
 | clo=>simp [zfD,zaw] at hb
 | clob=>simp [zfD,zaw] at hb
 | ptr id off hi=>exact .ptr id off hi
 | aptr=>simp [zfD,zaw] at hb
 | aptrOld=>simp [zfD,zaw] at hb
 | arr id hi h1=>exact .arr id hi h1
 | arrOld id ver hi hv h1=>exact .arrOld id ver hi hv h1
 | oll=>simp [zfD,zaw] at hb
 | olp=>simp [zfD,zaw] at hb
theorem zmJ.monoS {S S':Nat→Nat→Prop} {w:World} {C:Conc} {id:Nat} {ob:AObj} (hS:∀ b o,S b o→S' b o) (h:zmJ S w C id ob):zmJ S' w C id ob:=by
 have hV:∀ p v,RepV S w C p v→RepV S' w C p v:=fun p v h=>h.mono hS (fun _ _ _=>rfl) (yag _) (fun _ _=>rfl) (fun _ _ => .inl ⟨rfl,rfl⟩) fun b o h=>⟨h,rfl⟩
 cases ob with
 | box cs =>
  obtain ⟨a,T,e1,e2,e3⟩:=h
  exact ⟨a,T,e1,e2,fun j p v h1 h2=>⟨(e3 j p v h1 h2).1,hV _ _ (e3 j p v h1 h2).2⟩⟩
 | arr v st ipu T sz rows =>
  obtain ⟨e1,e2,e3,xs,e4,e5⟩:=h
  refine ⟨e1,e2,e3,xs,e4,fun k row j p v a b c=>⟨(e5 k row j p v a b c).1,?_⟩⟩
  have:=(e5 k row j p v a b c).2
  cases ipu with
  | true=>simp only [if_true] at this ⊢; exact hV _ _ this
  | false=>simp only [yap,if_false] at this ⊢; exact this.mono hS fun _ _ _=>rfl
 | gone=>trivial
theorem zg.freshH {P:Program} {f:Nat} {args args':List PV} {Hs Hs':List AObj} {r:PV} (h:zg P f args Hs r Hs') (he:args'.map unO=args) (hf:Hs'.all zl5=true) (hb:zfD r=true):zg P f args' Hs r Hs':=by
 intro x vs hx hr hp
 subst hx
 have hS:∀ b o,zu x x.C0 x.H0 x.w0 b o→zu ⟨x.w0,fun b o=>zu x x.C0 x.H0 x.w0 b o∨x.C0.old b o,x.C0,x.H0⟩ x.C0 x.H0 x.w0 b o:=fun b o h=>⟨.inl (.inl h),h.2.1,h.2.2⟩
 have ho:∀ b o,x.C0.old b o→zu ⟨x.w0,fun b o=>zu x x.C0 x.H0 x.w0 b o∨x.C0.old b o,x.C0,x.H0⟩ x.C0 x.H0 x.w0 b o:=fun b o h =>
  ⟨.inl (.inr h),(hr.old b o h).1,fun id ob hid=>AObj.free_of_not ((hr.old b o h).2.1 id ob hid) o⟩
 have h1:HR ⟨x.w0,fun b o=>zu x x.C0 x.H0 x.w0 b o∨x.C0.old b o,x.C0,x.H0⟩ x.C0 x.H0 x.w0 :=
  ⟨hr.n,fun id ob hid=>(hr.obj id ob hid).monoS hS,hr.apart,fun id ob b hid hb => .inr ⟨id,ob,hid,hb⟩,fun b o h=>⟨by
   rcases h with h | h
   ·
    exact h.2.1
   ·
    exact (hr.old b o h).1,by
   rcases h with h | h
   ·
    exact h.2.2
   ·
    exact (ho b o h).2.2,rfl⟩,yag _,rfl,rfl,rfl,fun _ _ _=>rfl,yag _,fun _ _=>rfl,fun _ _ => .inl ⟨rfl,rfl⟩,fun b o h=>⟨(hr.old b o h).1,(hr.old b o h).2.1,h,(hr.old b o h).1,(hr.old b o h).2.1⟩,fun _ _ h=>h,fun _ _ h=>h⟩
 refine (h (Cx.mk x.w0 (fun b o=>zu x x.C0 x.H0 x.w0 b o∨x.C0.old b o) x.C0 x.H0) vs rfl h1 ⟨by rw [← he]; simpa using hp.1,fun j p u hj hu=>?_⟩).mono fun e w' ⟨v,C1,he,hc,hv⟩=>⟨v,C1,he,?_,zuS hb hv⟩
 ·
  subst he
  obtain ⟨q,hq,rfl⟩:=zO hj
  exact zka hS ho (hp.2 j q u hq hu)
 ·
  refine ⟨hc.n,fun id ob hid=>?_,hc.apart,hc.mine,fun b o h=>?_,hc.size,hc.os,hc.tape,hc.output,hc.frame,hc.len,hc.ids,hc.vers,hc.old,hc.old0,hc.unf⟩
  ·
   have hfl:=yar.1 hf ob (yaf hid)
   have hob:=hc.obj id ob hid
   cases ob with
   | box cs=>simp [zl5] at hfl
   | gone=>trivial
   | arr v st ipu T sz rows =>
    cases ipu with
    | true=>simp [zl5] at hfl
    | false =>
     obtain ⟨e1,e2,e3,xs,e4,e5⟩:=hob
     refine ⟨e1,e2,e3,xs,e4,fun k row j p v a b c=>⟨(e5 k row j p v a b c).1,?_⟩⟩
     have:=(e5 k row j p v a b c).2
     simp only [yap,if_false] at this ⊢
     exact zzH (yar.1 (yar.1 hfl row (yaf a)) p (yaf b)) this
  ·
   obtain ⟨a,b,-⟩:=hr.s0 _ _ h
   exact hc.s0 _ _ (.inl ⟨.inl h,a,b⟩)
/-! ### pieces of code,whatever is asked behind them -/
def zyy (K:Act→World→Prop) (R:Exit→Act→World→Prop):Exit→Act→World→Prop
 | .normal,a,w=>K a w
 | e,a,w=>R e a w
def CL (P:Program) (nt:Nat):List LC→(Exit→Act→World→Prop)→Act→World→Prop
 | [],R,a,w=>R .normal a w
 | lc :: l,R,a,w=>∀ c,zq P nt c=some lc→c.wp P (zyy (CL P nt l R) R) a w
section
variable {P:Program} {x:Cx} {nt:Nat}
theorem znu:∀ {l:List LC} {R R':Exit→Act→World→Prop} {a:Act} {w:World},(∀ e a w,R e a w→R' e a w)→CL P nt l R a w→CL P nt l R' a w
 | [],_,_,_,_,h,g=>h _ _ _ g
 | _ :: l,_,_,_,_,h,g=>fun c hc=>wp_mono (g c hc) fun e a' w' q=>by
  cases e <;> first | exact znu (l:=l) h q | exact h _ _ _ q
theorem zxb:∀ {l1 l2:List LC} {R:Exit→Act→World→Prop} {a:Act} {w:World},CL P nt l1 (zyy (CL P nt l2 R) R) a w→CL P nt (l1 ++ l2) R a w
 | [],_,_,_,_,g=>g
 | _ :: l1,_,_,_,_,g=>fun c hc=>wp_mono (g c hc) fun e a' w' q=>by
  cases e <;> first | exact zxb (l1:=l1) q | exact q
theorem zoQ:∀ {l1 l2:List LC} {R:Exit→Act→World→Prop} {a:Act} {w:World},CL P nt (l1 ++ l2) R a w→CL P nt l1 (zyy (CL P nt l2 R) R) a w
 | [],_,_,_,_,g=>g
 | _ :: l1,_,_,_,_,g=>fun c hc=>wp_mono (g c hc) fun e a' w' q=>by
  cases e <;> first | exact zoQ (l1:=l1) q | exact q
theorem zA3 {lc:LC} {R:Exit→Act→World→Prop} {a:Act} {w:World} (h:CL P nt [lc] R a w) {c:Code} (hc:zq P nt c=some lc):c.wp P R a w:=wp_mono (h c hc) fun e a' w' q=>by cases e <;> exact q
theorem zyz:∀ {lc:LC} {c:Code} {R:Exit→Act→World→Prop} {a:Act} {w:World},zq P nt c=some lc→CL P nt lc.flat R a w→c.wp P R a w:=by
 intro lc
 induction lc with
 | seq la lb iha ihb =>
  intro c R a w hc h
  cases c <;> simp only [zq,reduceCtorEq] at hc
  case seq c1 c2 =>
   split at hc <;> try (cases hc; done)
   rename_i h1 h2
   cases hc
   refine wp_seq (wp_mono (iha h1 (zoQ h)) fun e a' w' q=>?_)
   cases e <;> first | exact ihb h2 q | exact q
  all_goals (repeat' (split at hc)) <;> first | (cases hc; done) | (unfold Zl at hc; split at hc <;> cases hc; done) | (unfold Za at hc; split at hc <;> cases hc; done) | (obtain ⟨_,e⟩:=zE hc; cases e; done)
 | _=>intro c R a w hc h; exact zA3 h hc
theorem zyA:∀ {l:List LC} {Q:AE→St→Prop} {st:St} {a:Act} {w:World},WL P x nt l Q st→Rel x nt st a w→CL P nt l (zbV x nt Q) a w
 | [],_,st,_,_,h,hrel=>⟨st,h,hrel⟩
 | _ :: l,_,_,_,_,h,hrel=>fun c hc=>wp_mono (h c hc _ _ hrel) fun e a' w' q=>by
  cases e with
  | normal=>obtain ⟨st',g1,g2⟩:=q; exact zyA (l:=l) g1 g2
  | exit id=>exact q
  | ret=>exact q
  | goto l=>exact q.elim
  | panic ch=>exact q.elim
  | outgrown=>exact q.elim
theorem zg.of_two {f : Nat} {fn : Func} {lc : LC} {lrs : List LRes} {args' : List PV} {rows : List (List PV)} {nt : Nat} (hf : P.funcs[f]? = some fn) (hnt : fn.ntmps = nt) (hlc : (fn.body.bind (zq P nt)) = some lc) (hres : ZC P fn.results.toList = some lrs)
    (hargs:args'.length≤nt) (k:Nat) (E:List (Nat × PV)) (h1:∀ x:Cx,x.H0 = []→WL P x nt (lc.flat.take k) (fun e st=>e = .normal∧za3 x nt st ⟨mkE .top E,[]⟩) ⟨mkE .undef (zmL 0 (args'.map unO)),[]⟩)
    (h2:∀ x:Cx,x.H0 = []→WL P x nt (lc.flat.drop k) (zli x nt lrs (.list rows) []) ⟨mkE .top (E.map fun p=>(p.1,zgS p.2)),[]⟩):zg P f args' [] (.list rows) []:=by
  intro x vs hx hr hp
  have hn:∀ C b o,zk5 C [] b o:=fun C b o i ob hi=>by simp at hi
  have g1:HR ⟨x.w0,fun b o=>zu x x.C0 [] x.w0 b o∨x.C0.old b o,x.C0,[]⟩ x.C0 [] x.w0 :=
    ⟨hr.n,fun i ob h=>by simp at h,fun i i' ob ob' b h=>by simp at h,fun i ob b h=>by simp at h,fun b o h=>⟨by
      rcases h with h | h
      · exact h.2.1
      · exact (hr.old b o h).1,hn _ b o,rfl⟩,yag _,rfl,rfl,rfl,fun _ _ _=>rfl,yag _,fun _ _=>rfl,fun _ _ => .inl ⟨rfl,rfl⟩,fun b o h=>⟨(hr.old b o h).1,fun i ob hi=>by simp at hi,h,(hr.old b o h).1,fun i ob hi=>by simp at hi⟩,fun _ _ h=>h,fun _ _ h=>h⟩
  have hp1:zmK (zu ⟨x.w0,fun b o=>zu x x.C0 [] x.w0 b o∨x.C0.old b o,x.C0,[]⟩ x.C0 [] x.w0) x.w0 x.C0 (args'.map unO) vs.toList:=by
    refine ⟨by simpa using hp.1,fun j p u hj hu=>?_⟩
    obtain ⟨q,hq,rfl⟩:=zO hj
    exact zka (fun b o h=>⟨.inl (.inl h),h.2.1,hn _ b o⟩) (fun b o h=>⟨.inl (.inr h),(hr.old b o h).1,hn _ b o⟩) (hp.2 j q u hq hu)
  obtain ⟨c,hb,hlc⟩:=ybo.1 hlc
  refine calls_of_wp hf hb ?_
  have hrel:=zkb (fn:=fn) hnt (by simpa using hargs) g1 hp1
  have hcl:CL P nt lc.flat (fun e a w=>(e = .normal∨e = .ret)∧a.defers = []∧∃ v,(results fn a.tmps).run P w = .ok v w∧∃ v1 C',Ending.returned v = .returned v1∧HR x C' [] w∧RepV (zu x C' [] w) w C' (.list rows) v1) { tmps:=vs ++ Array.replicate (fn.ntmps - vs.size) Go.undef,defers := [] } x.w0:=by
    rw [← ybG k lc.flat]
    refine zxb (znu ?_ (zyA (h1 _ rfl) hrel))
    intro e a w q
    cases e with
    | normal =>
      obtain ⟨st,⟨-,hw⟩,hrl⟩:=q
      obtain ⟨⟨C,hr1,he⟩,hdf,hsz⟩:=hw a w hrl
      have hr2:=hr1.rootR (fun id ob h=>by simp at h)
      have hrel2:Rel (ZY ⟨x.w0,fun b o=>zu x x.C0 [] x.w0 b o∨x.C0.old b o,x.C0,[]⟩ C [] w) nt ⟨mkE .top (E.map fun p=>(p.1,zgS p.2)),[]⟩ a w:=by
        have e0:=zl3 E []
        refine ⟨⟨_,hr2,fun t=>?_⟩,hdf,hsz⟩
        have:=zfr (S':=zu (ZY ⟨x.w0,fun b o=>zu x x.C0 [] x.w0 b o∨x.C0.old b o,x.C0,[]⟩ C [] w) (ZY ⟨x.w0,fun b o=>zu x x.C0 [] x.w0 b o∨x.C0.old b o,x.C0,[]⟩ C [] w).C0 [] w) (O:=fun b o=>C.old b o∨zu ⟨x.w0,fun b o=>zu x x.C0 [] x.w0 b o∨x.C0.old b o,x.C0,[]⟩ C [] w b o) (fun b o h => .inr h) (fun b o h => .inl h) (he t)
        have e1:zgS (mkE .top E t)=mkE .top (E.map fun p=>(p.1,zgS p.2)) t:=congrArg (fun s=>s.env t) e0
        dsimp only at this
        rw [e1] at this
        exact this
      refine znu ?_ (zyA (h2 _ rfl) hrel2)
      intro e2 a2 w2 q2
      have fin : ∀ st2, (∃ st' keep, za3 (ZY ⟨x.w0, fun b o => zu x x.C0 [] x.w0 b o ∨ x.C0.old b o, x.C0, []⟩ C [] w) nt st2 st' ∧ zzk (ZY ⟨x.w0, fun b o => zu x x.C0 [] x.w0 b o ∨ x.C0.old b o, x.C0, []⟩ C [] w) lrs keep (.list rows) [] st') →
          Rel (ZY ⟨x.w0,fun b o=>zu x x.C0 [] x.w0 b o∨x.C0.old b o,x.C0,[]⟩ C [] w) nt st2 a2 w2→a2.defers = []∧∃ v,(results fn a2.tmps).run P w2 = .ok v w2∧∃ v1 C',Ending.returned v = .returned v1∧HR x C' [] w2∧RepV (zu x C' [] w2) w2 C' (.list rows) v1:=by
        intro st2 ⟨st',keep,hwk,ps,k1,k2,k3,k4,k5,k6⟩ hrl2
        obtain ⟨⟨C2,hr3,he3⟩,hdf2,hsz2⟩:=hwk a2 w2 hrl2
        obtain ⟨us,m1,m2⟩:=zay hr3 he3 hres k1
        have hk:keep = []:=by
          have h0:=congrArg List.length k6
          simp only [ze,yaS,yah,yaR] at h0
          exact yaH (by omega)
        subst hk
        refine ⟨hdf2,if h:us.toArray.size=1 then us.toArray[0] else .tuple us.toArray,?_,if h:us.toArray.size=1 then us.toArray[0] else .tuple us.toArray,x.C0,rfl,?_⟩
        · have hm:(fn.results.mapM (zbW a2.tmps)).run P w2 = .ok us.toArray w2:=by
            rw [ybz]
            simp [m1]
          have hq:results fn a2.tmps=(do let vs ← fn.results.mapM (zbW a2.tmps); pure (if h:vs.size=1 then vs[0] else .tuple vs)):=rfl
          rw [hq,yal,hm,Result.andThen_ok,yay]
        · obtain ⟨q1,q2⟩:=hr3.restrict (ks := []) (by simp) (by simp) (by simp [ZY])
          have hv:=zcE (nl:=true) q2 (zc1 m2)
          have k5':PV.list rows=zdA true (pos []) (zt true st'.heap) (zeV ps):=k5
          rw [← k5'] at hv
          obtain ⟨n1,-,-⟩:=hr.grow (w':=w2) ⟨yaP hr1.size hr3.size,hr3.os.trans hr1.os,hr3.tape.trans hr1.tape,hr3.output.trans hr1.output,fun b hb _=>by
            refine (hr3.frame b (yam hb hr1.size) fun i ob h=>by simp [ZY] at h).trans (hr1.frame b hb fun i ob h=>by simp at h)⟩
          refine ⟨n1,.pure (hv.list_inv.mono (fun b o h=>?_) fun _ _ _=>rfl)⟩
          rcases h.1 with z | ⟨z | ⟨i,ob0,z,-⟩,hu⟩
          · exact z.elim
          · exact ⟨.inr ⟨.inl (yaP hr1.size z),hu⟩,h.2.1,hn _ b o⟩
          · simp [ZY] at z
      cases e2 with
      | normal=>obtain ⟨st2,z1,z2⟩:=q2; exact ⟨.inl rfl,fin st2 z1 z2⟩
      | ret=>obtain ⟨st2,z1,z2⟩:=q2; exact ⟨.inr rfl,fin st2 z1 z2⟩
      | exit id=>obtain ⟨st2,z1,z2⟩:=q2; exact z1.elim
      | goto l=>exact q2.elim
      | panic ch=>exact q2.elim
      | outgrown=>exact q2.elim
    | exit id=>obtain ⟨st,⟨z,-⟩,-⟩:=q; cases z
    | ret=>obtain ⟨st,⟨z,-⟩,-⟩:=q; cases z
    | goto l=>exact q.elim
    | panic ch=>exact q.elim
    | outgrown=>exact q.elim
  refine wp_mono (zyz (by rw [hnt] at *; exact hlc) hcl) fun e a w hq=>?_
  obtain ⟨rfl | rfl,h3⟩:=hq <;> exact h3
end
structure Cell where
 th:Bool
 ju:Bool
 tx:ByteArray
theorem Cell.eq_iff (a b:Cell):a=b↔a.th=b.th∧a.ju=b.ju∧a.tx=b.tx:=by cases a; cases b; simp
instance:DecidableEq Cell:=fun a b=>decidable_of_iff (a.th=b.th∧a.ju=b.ju∧a.tx=b.tx) (Cell.eq_iff a b).symm
def zC:Cell:=⟨false,false,⟨#[]⟩⟩
instance:Inhabited Cell:=⟨zC⟩
structure Chain where
 ep:Int
 se:Bool
 cut:Int
 cs:List Cell
def zCh:Chain:=⟨0,false,0,[]⟩
def cC (c:Cell):List PV := [.bool c.th,.bool c.ju,.str c.tx]
def cCh (c:Chain):List PV := [.int .i64 c.ep,.bool c.se,.int .i64 c.cut,.list (c.cs.map cC)]
def zbU (c:Cell):Int:=if (c.th && c.ju)=true then 4 else if (!c.th && !decide (c.tx=⟨#[]⟩))=true then 1 else if 12 < c.tx.size then 2 else 0
def zhZ (l:List Cell):Bool:=decide (0 < l.length) && (!(nth l (l.length - 1)).th && !(nth l (l.length - 1)).ju)
def zK (c:Chain):Int :=
 if ZI c.ep 0 99=false then 3 else if ZI c.cut 0 30=false then 3 else if 30 < c.cut + c.cs.length then 2
 else if zP (fun k=>zbU (nth c.cs k)) c.cs.length≠0 then zP (fun k=>zbU (nth c.cs k)) c.cs.length
 else if zhZ c.cs=true then 4 else 0
theorem zap (n a b:Int):zg prog 118 [.int .i64 n,.int .i64 a,.int .i64 b] [] (.bool (ZI n a b)) []:=by
 refine zg.of_walk func118 ntmps118 zvZ.1 zvZ.2 (by simp) fun x hx=>?_
 by_cases h:a≤n
 all_goals
  simp only [go_sem,zCM,zCN,h,decide_true,decide_false]
  refine zd hx ?_
  simp only [go_sem,zCM,zCN,ZI,h,decide_false,true_and,false_and]
theorem zqe (c:Cell):zg prog 158 [.agg (cC c)] [] (.int .i64 (zbU c)) []:=by
  refine zg.of_walk func158 ntmps158 zwi.1 zwi.2 (by simp) fun x hx=>?_
  obtain ⟨th,ju,tx⟩:=c
  by_cases he:tx=⟨#[]⟩
  · subst he
    have hz:decide ((12:Int) < (((#[]:Array UInt8).size:Nat):Int))=false:=rfl
    cases th <;> cases ju <;>
      (simp only [go_sem,zxV,zxW,cC,hz]
       refine zd hx ?_
       simp [go_sem,zxV,zxW,zbU,ByteArray.size])
  · by_cases h12:12 < tx.size
    · have h12':decide ((12:Int) < (tx.size:Nat))=true:=by simp; omega
      cases th <;> cases ju <;>
        (simp only [go_sem,zxV,zxW,cC,he,h12',decide_false]
         refine zd hx ?_
         simp [go_sem,zxV,zxW,zbU,he,h12])
    · have h12':decide ((12:Int) < (tx.size:Nat))=false:=by simp; omega
      cases th <;> cases ju <;>
        (simp only [go_sem,zxV,zxW,cC,he,h12',decide_false]
         refine zd hx ?_
         simp [go_sem,zxV,zxW,zbU,he,h12])
theorem ziV {n:Int} (h1 : -1000000000000000≤n) (h2:n≤1000000000000000):IntKind.i64.wrap n=n:=IntWalk.i64_in _ (by omega)
theorem Zw (c:Chain) (hb:c.cs.length≤140737488355328):zg prog 90 [.agg (cCh c)] [] (.int .i64 (zK c)) []:=by
 refine zg.of_walk func90 ntmps90 zAl.1 zAl.2 (by simp) fun x hx=>?_
 simp only [go_sem,L90,R90,cCh]
 refine zc (.pure (zap _ _ _)) ?_
 cases h1:ZI c.ep 0 99
 ·
  simp only [go_sem]
  refine zd hx ?_
  simp [go_sem,L90,R90,zK,h1]
 simp only [go_sem]
 refine zc (.pure (zap _ _ _)) ?_
 cases h2:ZI c.cut 0 30
 ·
  simp only [go_sem]
  refine zd hx ?_
  simp [go_sem,L90,R90,zK,h1,h2]
 have hcut:=zY.1 h2
 have hw:IntKind.i64.wrap (c.cut + (c.cs.length:Nat))=c.cut + (c.cs.length:Nat):=ziV (by omega) (by omega)
 by_cases h3:30 < c.cut + (c.cs.length:Nat)
 ·
  simp only [go_sem,hw,h3]
  refine zd hx ?_
  simp [go_sem,L90,R90,zK,h1,h2,h3]
 have hc:zK c=if zP (fun k=>zbU (nth c.cs k)) c.cs.length≠0 then zP (fun k=>zbU (nth c.cs k)) c.cs.length else if zhZ c.cs=true then 4 else 0:=by simp [zK,h1,h2,h3]
 simp only [go_sem,hw,h3]
 refine zy [1,27,28,29] 1 (fun n st=>∃ k:Nat,k + n=c.cs.length∧zP (fun k=>zbU (nth c.cs k)) k=0 ∧
  st=⟨mkE .top [(1,.ptr 0 0),(27,.list (c.cs.map cC)),(28,.int .i64 c.cs.length),(29,.int .i64 k)],[.box (cCh c)]⟩) c.cs.length (by simp [hx]) (by simp) ?_ ?_
 ·
  refine ⟨0,by omega,rfl,?_⟩
  simp [zh,go_sem,ze,zf,pos,yaa,cCh]
 ·
  rintro n st ⟨k,hk,hz,rfl⟩
  simp only [go_sem,cCh]
  by_cases hlt:k < c.cs.length
  ·
   have hg:c.cs[k]? = some (nth c.cs k):=zk _ _ hlt
   have w1:=zM (k:=k) (by omega)
   simp only [go_sem,hlt,hg,cC]
   refine zc (.pure (zqe (nth c.cs k))) ?_
   by_cases h5:zbU (nth c.cs k)=0
   ·
    simp only [go_sem,h5,w1]
    refine ⟨by simp,n - 1,by omega,k + 1,by omega,Zv hz h5,?_⟩
    simp [zh,go_sem,ze,zf,pos,yaa,cCh]
   ·
    simp only [go_sem,h5]
    refine zd hx ?_
    have:=Zg (f:=fun k=>zbU (nth c.cs k)) hz h5 hlt
    simp [go_sem,L90,R90,hc,this,h5]
  ·
   have hke:k=c.cs.length:=by omega
   subst hke
   have w0:0 < c.cs.length→IntKind.i64.wrap ((c.cs.length:Nat) - 1:Int)=((c.cs.length - 1:Nat):Int):=fun h=>by rw [ziV (by omega) (by omega)]; omega
   by_cases h0:0 < c.cs.length
   ·
    have hg:c.cs[c.cs.length - 1]? = some (nth c.cs (c.cs.length - 1)):=zk _ _ (by omega)
    have w0:=w0 h0
    have hl1:c.cs.length - 1 < c.cs.length:=by omega
    have d0:decide ((0:Int) < (c.cs.length:Nat))=true:=by simp; omega
    cases ht:(nth c.cs (c.cs.length - 1)).th <;> cases hj:(nth c.cs (c.cs.length - 1)).ju <;> simp only [go_sem,ybO,d0,w0,hg,hl1,cC,ht,hj] <;>
     (refine zd hx ?_; simp [go_sem,L90,R90,hc,hz,zhZ,h0,ht,hj])
   ·
    have hn:c.cs = []:=by
     cases hh:c.cs with
     | nil=>rfl
     | cons a l=>rw [hh] at h0; simp at h0
    have d0:decide ((0:Int) < (c.cs.length:Nat))=false:=by rw [hn]; rfl
    simp only [go_sem,ybO,d0]
    refine zd hx ?_
    simp [go_sem,L90,R90,hc,hn,zhZ,zP]
def cellAt (c:Chain) (at':Int):Cell:=if at' < c.cut then zC else if c.cut + c.cs.length≤at' then zC else nth c.cs (at' - c.cut).toNat
theorem zdE (l:List Cell) (hb:l.length≤1000000):zg prog 195 [.list (l.map cC)] [] (.arr 0 1) [.arr 1 true false 104 3 (l.map cC)]:=by
 refine zg.of_walk func195 ntmps195 zwK.1 zwK.2 (by simp) fun x hx=>?_
 simp only [go_sem,zB4,zB5]
 refine zc6 rfl fun b hb'=>?_
 cases b
 ·
  simp only [go_sem]
  rw [Zf rfl rfl (by simp [cC]) (by simp; omega)]
  simp only [go_sem]
  refine zI [0] (by simp) (by simp [hx]) (by simp [hx]) ?_ ?_
  ·
   simp [go_sem,zB4,zB5,hx,pos]
  ·
   simp [ze,zf,hx]
 ·
  simp only [go_sem]
  refine zN (ZR 2 1 104 3 true false rfl (by omega)) ?_
  have:l = []:=by simpa using hb' rfl
  subst this
  rw [zc4]
  refine zI [0] (by simp) (by simp [hx]) (by simp [hx]) ?_ ?_
  ·
   simp [go_sem,zB4,zB5,hx,pos]
  ·
   simp [ze,zf,hx]
theorem zfE (c:Chain) (hb:c.cs.length≤1000000):zg prog 119 [.agg (cCh c)] [] (.ptr 0 0) [.box [.int .i64 c.ep,.bool c.se,.int .i64 c.cut,.arr 1 1],.arr 1 true false 104 3 (c.cs.map cC)]:=by
 refine zg.of_walk func119 ntmps119 zox.1 zox.2 (by simp) fun x hx=>?_
 simp only [go_sem,zAH,zAI,cCh]
 refine zc (.heapE [] (r' := .arr 1 1) (H' := [.box (cCh c),.arr 1 true false 104 3 (c.cs.map cC)]) (zdE c.cs hb) (by simp) (by simp) rfl rfl rfl rfl) ?_
 simp only [go_sem,cCh]
 refine zI [2,1] (by simp) (by simp [hx]) (by simp [hx]) ?_ ?_
 ·
  simp [go_sem,zAH,zAI,hx,pos]
 ·
  simp [ze,zf,hx,pos,go_sem]
def zjE (l:List Cell) (n:Nat):List Cell:=l ++ List.replicate (n - l.length) zC
theorem zoR (c : Chain) (v n : Nat) (h0 : 0 ≤ c.cut) (h1 : c.cut + n ≤ 30) (hl : c.cs.length ≤ 30) (hn : 0 < n) : zg prog 194 [.ptr 0 0, .int .i64 (c.cut + n - 1)] [.box [.int .i64 c.ep, .bool c.se, .int .i64 c.cut, .arr 1 v], .arr v true false 104 3 (c.cs.map cC)]
    (.aptr 1 (v + (n - c.cs.length)) 3 (n - 1) 0) [.box [.int .i64 c.ep,.bool c.se,.int .i64 c.cut,.arr 1 (v + (n - c.cs.length))],.arr (v + (n - c.cs.length)) true false 104 3 ((zjE c.cs n).map cC)]:=by
  refine zg.of_walk func194 ntmps194 zwJ.1 zwJ.2 (by simp) fun x hx=>?_
  simp only [go_sem,zDy,zDz]
  refine zy [0,1] 2 (fun m st=>∃ k:Nat,k + m=n - c.cs.length ∧ 
    st=⟨mkE .top [(0,.ptr 0 0),(1,.int .i64 (c.cut + n - 1))],[.box [.int .i64 c.ep,.bool c.se,.int .i64 c.cut,.arr 1 (v + k)],.arr (v + k) true false 104 3 ((c.cs ++ List.replicate k zC).map cC)]⟩) (n - c.cs.length) (by simp [hx]) (by simp) ?_ ?_
  · refine ⟨0,by omega,?_⟩
    simp [zh,go_sem,ze,zf,pos,yaa]
  · rintro m st ⟨k,hk,rfl⟩
    have hw:IntKind.i64.wrap (c.cut + ((c.cs ++ List.replicate k zC).length:Nat))=c.cut + ((c.cs.length + k:Nat):Int):=by rw [ziV (by simp; omega) (by simp; omega)]; simp
    by_cases hlt:c.cs.length + k < n
    · have d1:decide (c.cut + ((c.cs.length + k:Nat):Int)≤c.cut + n - 1)=true:=by simp; omega
      simp only [go_sem,hw,d1]
      rw [Zf rfl rfl (by simp) (by simp; omega)]
      simp only [go_sem]
      refine ⟨by simp,m - 1,by omega,k + 1,by omega,?_⟩
      simp [zh,go_sem,ze,zf,pos,yaa,ybc,List.replicate_succ',zC,cC]
    · have d1:decide (c.cut + ((c.cs.length + k:Nat):Int)≤c.cut + n - 1)=false:=by simp; omega
      have hk':k=n - c.cs.length:=by omega
      have w2:IntKind.i64.wrap (c.cut + (n:Int) - 1 - c.cut)=((n - 1:Nat):Int):=by rw [ziV (by omega) (by omega)]; omega
      have d2:((n - 1:Nat):Int) < ((c.cs ++ List.replicate k zC).length:Nat):=by simp; omega
      simp only [go_sem,hw,d1,w2]
      rw [if_pos (by simp; omega)]
      simp only [go_sem]
      refine zI [] (by simp) (by simp) (by simp [hx]) ?_ ?_
      · simp [go_sem,zDy,zDz,hx,pos,yaa,hk']
      · simp [ze,zf,hx,pos,go_sem,yaa,hk',zjE]
def ZF (d:Chain × Int):PV := .tup [.agg (cCh d.1),.int .i64 d.2]
def ziW (c:Cell):Bool := !c.th && !c.ju
def zsu (c:Cell):Bool := !c.th
theorem zh0 (c:Cell):zg prog 117 [.agg (cC c)] [] (.bool (ziW c)) []:=by
 refine zg.of_walk func117 ntmps117 zvY.1 zvY.2 (by simp) fun x hx=>?_
 obtain ⟨th,ju,tx⟩:=c
 cases th <;> cases ju <;> simp only [go_sem,zCK,zCL,cC] <;> (refine zd hx ?_; simp [go_sem,zCK,zCL,ziW])
theorem znv (c:Cell):zg prog 157 [.agg (cC c)] [] (.bool (zsu c)) []:=by
 refine zg.of_walk func157 ntmps157 zwh.1 zwh.2 (by simp) fun x hx=>?_
 obtain ⟨th,ju,tx⟩:=c
 cases th <;> cases ju <;> simp only [go_sem,zCY,zCZ,cC] <;> (refine zd hx ?_; simp [go_sem,zCY,zCZ,zsu])
def ZK (c:Chain) (ep a:Int) (x:Cell):Int :=
 if zK c≠0 then zK c else if ZI a 0 29=false then 3 else if 12 < x.tx.size then 2 else if ep≠c.ep∨c.se=true then 4 else if a < c.cut then 6 else 0
def zaN (c:Chain) (ep a:Int) (x:Cell) (fr:Cell→Bool):Chain × Int :=
 if ZK c ep a x≠0 then (zCh,ZK c ep a x)
 else if fr (nth (zjE c.cs ((a - c.cut).toNat + 1)) (a - c.cut).toNat)=true then ({ c with cs:=(zjE c.cs ((a - c.cut).toNat + 1)).set (a - c.cut).toNat x },0) else (zCh,6)
theorem zak {c:Chain} (h:zK c=0):0≤c.ep∧c.ep≤99∧0≤c.cut∧c.cut≤30∧c.cut + c.cs.length≤30∧zP (fun k=>zbU (nth c.cs k)) c.cs.length=0∧zhZ c.cs=false:=by
 unfold zK at h
 split at h <;> try (cases h; done)
 rename_i h1
 split at h <;> try (cases h; done)
 rename_i h2
 split at h <;> try (cases h; done)
 rename_i h3
 split at h
 ·
  rename_i h4; exact (h4 h).elim
 rename_i h4
 split at h <;> try (cases h; done)
 rename_i h5
 have e1:=zY.1 (by simpa using h1)
 have e2:=zY.1 (by simpa using h2)
 exact ⟨e1.1,e1.2,e2.1,e2.2,by omega,by simpa using h4,by simpa using h5⟩
theorem zl6 (c : Chain) (ep a : Int) (x0 : Cell) (g : Nat) (fr : Cell → Bool) (hg : ZU prog g = true) (hfr : ∀ c, zg prog g [.agg (cC c)] [] (.bool (fr c)) []) (hb : c.cs.length ≤ 140737488355328) :
    zg prog 116 [.agg (cCh c),.int .i64 ep,.int .i64 a,.agg (cC x0),.clo g []] [] (ZF (zaN c ep a x0 fr)) []:=by
  refine zg.of_walk func116 ntmps116 zow.1 zow.2 (by simp) fun x hx=>?_
  simp only [go_sem,zkc,zkd,cCh,cC]
  refine zc (.pure (Zw c hb)) ?_
  have bad:ZK c ep a x0≠0→zaN c ep a x0 fr=(zCh,ZK c ep a x0):=fun h=>by simp [zaN,h]
  by_cases h1:zK c=0
  · simp only [go_sem,h1]
    refine zc (.pure (zap _ _ _)) ?_
    cases h2:ZI a 0 29
    · simp only [go_sem]
      refine zN (zX 2 3 0 104 3 true false rfl rfl (by omega)) ?_
      refine zd hx ?_
      have he:ZK c ep a x0=3:=by simp [ZK,h1,h2]
      rw [bad (by rw [he]; decide),he]
      simp [go_sem,zkc,zkd,ZF,zCh,cCh,zt,pos]
    by_cases h3:12 < x0.tx.size
    · have h3':decide ((12:Int) < (x0.tx.size:Nat))=true:=by simp; omega
      simp only [go_sem,h3']
      refine zN (zX 2 3 0 104 3 true false rfl rfl (by omega)) ?_
      refine zd hx ?_
      have he:ZK c ep a x0=2:=by simp [ZK,h1,h2,h3]
      rw [bad (by rw [he]; decide),he]
      simp [go_sem,zkc,zkd,ZF,zCh,cCh,zt,pos]
    have h3':decide ((12:Int) < (x0.tx.size:Nat))=false:=by simp; omega
    by_cases h4:ep=c.ep
    · cases h5:c.se
      · by_cases h6:a < c.cut
        · simp only [go_sem,h3',h4,h5,h6]
          refine zN (zX 2 3 0 104 3 true false rfl rfl (by omega)) ?_
          refine zd hx ?_
          have he:ZK c ep a x0=6:=by simp [ZK,h1,h2,h3,h4,h5,h6]
          rw [← h4,bad (by rw [he]; decide),he]
          simp [go_sem,zkc,zkd,ZF,zCh,cCh,zt,pos]
        · have h0:ZK c ep a x0=0:=by simp [ZK,h1,h2,h3,h4,h5,h6]
          obtain ⟨-,-,b1,b2,b3,-,-⟩:=zak h1
          have b4:=zY.1 h2
          obtain ⟨k,hk⟩:=yb4 (show 0≤a - c.cut by omega)
          have ha:a=c.cut + ((k + 1:Nat):Int) - 1:=by omega
          simp only [go_sem,h3',h4,h5,h6]
          refine zc (.heapE [] (r' := .ptr 3 0) (H' := [.box (cCh c),.box (cC x0),.box [.int .i64 0,.bool false,.int .i64 0,.nilsl],.box [.int .i64 c.ep,.bool c.se,.int .i64 c.cut,.arr 4 1],.arr 1 true false 104 3 (c.cs.map cC)])
            (zfE c (by omega)) (by simp) (by simp) (by simp [go_sem,cCh,h5]) rfl rfl (by simp [ZN,zS,zT,ZV,Zh,zf,pos,go_sem,yaa,cCh,cC,h5])) ?_
          simp only [go_sem,ha]
          refine zc (.heapE [3,4] (r' := .aptr 4 (1 + (k + 1 - c.cs.length)) 3 k 0) (H' := [.box (cCh c),.box (cC x0),.box [.int .i64 0,.bool false,.int .i64 0,.nilsl],.box [.int .i64 c.ep,.bool c.se,.int .i64 c.cut,.arr 4 (1 + (k + 1 - c.cs.length))],.arr (1 + (k + 1 - c.cs.length)) true false 104 3 ((zjE c.cs (k + 1)).map cC)])
            (zoR c 1 (k + 1) (by omega) (by omega) (by omega) (by omega)) (by simp) (by simp) (by simp [go_sem,pos]) (by simp [ze,zf,go_sem,pos]) (by simp [go_sem,ZV,Zh]) (by simp [ZN,zS,zT,ZV,Zh,zf,pos,go_sem,yaa,cCh,cC,h5])) ?_
          have hpl:k < (zjE c.cs (k + 1)).length:=by simp [zjE]; omega
          have hget:(zjE c.cs (k + 1))[k]? = some (nth (zjE c.cs (k + 1)) k):=zk _ _ hpl
          simp only [go_sem,hget,cC]
          refine Zm rfl hg (.pure (hfr (nth (zjE c.cs (k + 1)) k))) ?_
          have hgt:(a - c.cut).toNat=k:=by omega
          cases hfc:fr (nth (zjE c.cs (k + 1)) k)
          · simp only [go_sem]
            refine zN (zX 2 3 0 104 3 true false rfl rfl (by omega)) ?_
            refine zd hx ?_
            have he:zaN c ep a x0 fr=(zCh,6):=by simp only [zaN,h0,hgt,hfc]; simp
            rw [← ha,← h4,he]
            simp [go_sem,zkc,zkd,ZF,zCh,cCh,zt,pos]
          · simp only [go_sem,hget,cC,frz,or_true]
            refine zd hx ?_
            have he:zaN c ep a x0 fr=({ c with cs:=(zjE c.cs (k + 1)).set k x0 },0):=by simp only [zaN,h0,hgt,hfc]; simp
            rw [← ha,← h4,he]
            simp [go_sem,zkc,zkd,ZF,cCh,zt,pos,cC,ycb,h4]
      · simp only [go_sem,h3',h4,h5]
        refine zN (zX 2 3 0 104 3 true false rfl rfl (by omega)) ?_
        refine zd hx ?_
        have he:ZK c ep a x0=4:=by simp [ZK,h1,h2,h3,h5]
        rw [← h4,bad (by rw [he]; decide),he]
        simp [go_sem,zkc,zkd,ZF,zCh,cCh,zt,pos]
    · have h4':¬ ep=c.ep:=h4
      simp only [go_sem,h3',h4']
      refine zN (zX 2 3 0 104 3 true false rfl rfl (by omega)) ?_
      refine zd hx ?_
      have he:ZK c ep a x0=4:=by simp [ZK,h1,h2,h3,h4]
      rw [bad (by rw [he]; decide),he]
      simp [go_sem,zkc,zkd,ZF,zCh,cCh,zt,pos]
  · simp only [go_sem,h1]
    refine zN (zX 2 3 0 104 3 true false rfl rfl (by omega)) ?_
    refine zd hx ?_
    have he:ZK c ep a x0=zK c:=by simp [ZK,h1]
    rw [bad (by rw [he]; exact h1),he]
    simp [go_sem,zkc,zkd,ZF,zCh,cCh,zt,pos]
theorem ze6 (c : Chain) (ep a : Int) (t : ByteArray) (hb : c.cs.length ≤ 140737488355328) :
    zg prog 38 [.agg (cCh c),.int .i64 ep,.int .i64 a,.str t] [] (ZF (zaN c ep a ⟨true,false,t⟩ ziW)) []:=by
  refine zg.of_walk func38 ntmps38 zur.1 zur.2 (by simp) fun x hx=>?_
  simp only [go_sem,L38,R38,cCh]
  refine zc (.pure (zl6 c ep a ⟨true,false,t⟩ _ ziW (by kernel_rfl) zh0 hb)) ?_
  simp only [go_sem,ZF,cCh]
  refine zd hx ?_
  simp [go_sem,L38,R38]
theorem zqf (c : Chain) (ep a : Int) (hb : c.cs.length ≤ 140737488355328) :
    zg prog 85 [.agg (cCh c),.int .i64 ep,.int .i64 a] [] (ZF (zaN c ep a ⟨false,true,⟨#[]⟩⟩ zsu)) []:=by
  refine zg.of_walk func85 ntmps85 zAg.1 zAg.2 (by simp) fun x hx=>?_
  simp only [go_sem,L85,R85,cCh]
  refine zc (.pure (zl6 c ep a ⟨false,true,⟨#[]⟩⟩ _ zsu (by kernel_rfl) znv hb)) ?_
  simp only [go_sem,ZF,cCh]
  refine zd hx ?_
  simp [go_sem,L85,R85]
def zdu (c:Chain) (a:Int):ByteArray × Int :=
 if zK c≠0 then (⟨#[]⟩,zK c) else if ZI a 0 29=false then (⟨#[]⟩,3) else if a < c.cut then (⟨#[]⟩,4)
 else if (cellAt c a).ju=true then (⟨#[]⟩,7) else if (cellAt c a).th=false then (⟨#[]⟩,5) else ((cellAt c a).tx,0)
def zh1 (c:Chain):Int × Int:=if zK c≠0 then (0,zK c) else (c.cut + c.cs.length,0)
def zh2 (c:Chain) (ep:Int):Chain × Int:=if zK c≠0 then (zCh,zK c) else if ep≠c.ep then (zCh,4) else ({ c with se:=true },0)
def zgj (c:Chain):Chain × Int:=if zK c≠0 then (zCh,zK c) else if c.se=false then (zCh,4) else if c.ep=99 then (zCh,2) else ({ c with se:=false,ep:=c.ep + 1 },0)
def znw (c:Chain) (tt:Int):Chain:=if c.cut < tt then { c with cut:=tt,cs:=c.cs.drop (tt - c.cut).toNat } else c
def zbn (c:Chain) (tt:Int):Chain × Int:=if zK c≠0 then (zCh,zK c) else if ZI tt 0 30=false then (zCh,3) else (znw c tt,0)
theorem zjF (c:Chain) (a:Int) (hb:c.cs.length≤140737488355328):zg prog 86 [.agg (cCh c),.int .i64 a] [] (.tup [.str (zdu c a).1,.int .i64 (zdu c a).2]) []:=by
 refine zg.of_walk func86 ntmps86 zAh.1 zAh.2 (by simp) fun x hx=>?_
 simp only [go_sem,L86,R86,cCh]
 refine zc (.pure (Zw c hb)) ?_
 by_cases h1:zK c=0
 ·
  obtain ⟨-,-,b1,b2,b3,-,-⟩:=zak h1
  simp only [go_sem,h1]
  refine zc (.pure (zap _ _ _)) ?_
  cases h2:ZI a 0 29
  ·
   simp only [go_sem]
   refine zd hx ?_
   simp [go_sem,L86,R86,zdu,h1,h2]
  have b4:=zY.1 h2
  have hw:IntKind.i64.wrap (c.cut + (c.cs.length:Nat))=c.cut + (c.cs.length:Nat):=ziV (by omega) (by omega)
  by_cases h3:a < c.cut
  ·
   simp only [go_sem,h3]
   refine zd hx ?_
   simp [go_sem,L86,R86,zdu,h1,h2,h3]
  by_cases h4:c.cut + (c.cs.length:Nat)≤a
  ·
   simp only [go_sem,h3,hw,h4]
   refine zd hx ?_
   simp [go_sem,L86,R86,zdu,h1,h2,h3,cellAt,h4,zC]
  obtain ⟨k,hk⟩:=yb4 (show 0≤a - c.cut by omega)
  have hw2:IntKind.i64.wrap (a - c.cut)=(k:Int):=by rw [ziV (by omega) (by omega)]; exact hk
  have hlt:k < c.cs.length:=by omega
  have hg:c.cs[k]? = some (nth c.cs k):=zk _ _ hlt
  have hcell:cellAt c a=nth c.cs k:=by simp only [cellAt,h3,h4,if_false,hk,yaB]
  cases hj:(nth c.cs k).ju <;> cases ht:(nth c.cs k).th <;> simp only [go_sem,h3,hw,h4,hw2,hlt,hg,cC,hj,ht] <;>
   (refine zd hx ?_; simp [go_sem,L86,R86,zdu,h1,h2,h3,hcell,hj,ht])
 ·
  simp only [go_sem,h1]
  refine zd hx ?_
  simp [go_sem,L86,R86,zdu,h1]
theorem zqg (c:Chain) (hb:c.cs.length≤140737488355328):zg prog 89 [.agg (cCh c)] [] (.tup [.int .i64 (zh1 c).1,.int .i64 (zh1 c).2]) []:=by
 refine zg.of_walk func89 ntmps89 zAk.1 zAk.2 (by simp) fun x hx=>?_
 simp only [go_sem,L89,R89,cCh]
 refine zc (.pure (Zw c hb)) ?_
 by_cases h1:zK c=0
 ·
  obtain ⟨-,-,b1,b2,b3,-,-⟩:=zak h1
  have hw:IntKind.i64.wrap (c.cut + (c.cs.length:Nat))=c.cut + (c.cs.length:Nat):=ziV (by omega) (by omega)
  simp only [go_sem,h1,hw]
  refine zd hx ?_
  simp [go_sem,L89,R89,zh1,h1]
 ·
  simp only [go_sem,h1]
  refine zd hx ?_
  simp [go_sem,L89,R89,zh1,h1]
theorem zqh (c:Chain) (ep:Int) (hb:c.cs.length≤140737488355328):zg prog 87 [.agg (cCh c),.int .i64 ep] [] (ZF (zh2 c ep)) []:=by
 refine zg.of_walk func87 ntmps87 zAi.1 zAi.2 (by simp) fun x hx=>?_
 simp only [go_sem,L87,R87,cCh]
 refine zc (.pure (Zw c hb)) ?_
 by_cases h1:zK c=0
 ·
  obtain ⟨-,-,b1,b2,b3,-,-⟩:=zak h1
  by_cases h2:ep=c.ep
  ·
   simp only [go_sem,h1,h2]
   refine zc (.heapE [] (r' := .ptr 2 0) (H' := [.box (cCh c),.box [.int .i64 0,.bool false,.int .i64 0,.nilsl],.box [.int .i64 c.ep,.bool c.se,.int .i64 c.cut,.arr 3 1],.arr 1 true false 104 3 (c.cs.map cC)])
    (zfE c (by omega)) (by simp) (by simp) (by simp [go_sem,cCh]) rfl rfl (by simp [ZN,zS,zT,ZV,Zh,zf,pos,go_sem,yaa,cCh])) ?_
   simp only [go_sem]
   refine zd hx ?_
   simp [go_sem,L87,R87,ZF,cCh,zt,pos,zh2,h1,h2]
  ·
   simp only [go_sem,h1,h2]
   refine zN (zX 1 3 0 104 3 true false rfl rfl (by omega)) ?_
   refine zd hx ?_
   simp [go_sem,L87,R87,ZF,zCh,cCh,zt,pos,zh2,h1,h2]
 ·
  simp only [go_sem,h1]
  refine zN (zX 1 3 0 104 3 true false rfl rfl (by omega)) ?_
  refine zd hx ?_
  simp [go_sem,L87,R87,ZF,zCh,cCh,zt,pos,zh2,h1]
theorem zqi (c:Chain) (hb:c.cs.length≤140737488355328):zg prog 88 [.agg (cCh c)] [] (ZF (zgj c)) []:=by
 refine zg.of_walk func88 ntmps88 zAj.1 zAj.2 (by simp) fun x hx=>?_
 simp only [go_sem,L88,R88,cCh]
 refine zc (.pure (Zw c hb)) ?_
 by_cases h1:zK c=0
 ·
  obtain ⟨b5,b6,b1,b2,b3,-,-⟩:=zak h1
  cases h2:c.se
  ·
   simp only [go_sem,h1]
   refine zN (zX 1 3 0 104 3 true false rfl rfl (by omega)) ?_
   refine zd hx ?_
   simp [go_sem,L88,R88,ZF,zCh,cCh,zt,pos,zgj,h1,h2]
  by_cases h3:c.ep=99
  ·
   simp only [go_sem,h1,h3]
   refine zN (zX 1 3 0 104 3 true false rfl rfl (by omega)) ?_
   refine zd hx ?_
   simp [go_sem,L88,R88,ZF,zCh,cCh,zt,pos,zgj,h1,h2,h3]
  ·
   have hw:IntKind.i64.wrap (c.ep + 1)=c.ep + 1:=ziV (by omega) (by omega)
   simp only [go_sem,h1,h3]
   refine zc (.heapE [] (r' := .ptr 2 0) (H' := [.box (cCh c),.box [.int .i64 0,.bool false,.int .i64 0,.nilsl],.box [.int .i64 c.ep,.bool c.se,.int .i64 c.cut,.arr 3 1],.arr 1 true false 104 3 (c.cs.map cC)])
    (zfE c (by omega)) (by simp) (by simp) (by simp [go_sem,cCh,h2]) rfl rfl (by simp [ZN,zS,zT,ZV,Zh,zf,pos,go_sem,yaa,cCh,h2])) ?_
   simp only [go_sem,hw]
   refine zd hx ?_
   simp [go_sem,L88,R88,ZF,cCh,zt,pos,zgj,h1,h2,h3]
 ·
  simp only [go_sem,h1]
  refine zN (zX 1 3 0 104 3 true false rfl rfl (by omega)) ?_
  refine zd hx ?_
  simp [go_sem,L88,R88,ZF,zCh,cCh,zt,pos,zgj,h1]
theorem zqj (c:Chain) (tt:Int) (hb:c.cs.length≤140737488355328):zg prog 39 [.agg (cCh c),.int .i64 tt] [] (ZF (zbn c tt)) []:=by
 refine zg.of_walk func39 ntmps39 zus.1 zus.2 (by simp) fun x hx=>?_
 simp only [go_sem,L39,R39,cCh]
 refine zc (.pure (Zw c hb)) ?_
 by_cases h1:zK c=0
 ·
  obtain ⟨b5,b6,b1,b2,b3,-,-⟩:=zak h1
  simp only [go_sem,h1]
  refine zc (.pure (zap _ _ _)) ?_
  cases h2:ZI tt 0 30
  ·
   simp only [go_sem]
   refine zN (zX 1 3 0 104 3 true false rfl rfl (by omega)) ?_
   refine zd hx ?_
   simp [go_sem,L39,R39,ZF,zCh,cCh,zt,pos,zbn,h1,h2]
  have b4:=zY.1 h2
  simp only [go_sem]
  refine zc (.heapE [] (r' := .ptr 2 0) (H' := [.box (cCh c),.box [.int .i64 0,.bool false,.int .i64 0,.nilsl],.box [.int .i64 c.ep,.bool c.se,.int .i64 c.cut,.arr 3 1],.arr 1 false false 104 3 (c.cs.map cC)])
   ((zfE c (by omega)).shut (id:=1) rfl) (by simp) (by simp) (by simp [go_sem,cCh]) rfl rfl (by simp [ZN,zS,zT,ZV,Zh,zf,pos,go_sem,yaa,cCh])) ?_
  by_cases h3:c.cut < tt
  ·
   have hw:IntKind.i64.wrap (tt - c.cut)=tt - c.cut:=ziV (by omega) (by omega)
   by_cases h4:(c.cs.length:Int) < tt - c.cut
   ·
    have hd:c.cs.drop (tt - c.cut).toNat = []:=ya2 (by omega)
    simp only [go_sem,h3,hw,h4,Int.sub_self]
    refine zd hx ?_
    simp [go_sem,L39,R39,ZF,cCh,zt,pos,zbn,h1,h2,znw,h3,hd]
   ·
    have hc1:(0≤tt - c.cut∧tt - c.cut≤(c.cs.length:Int)):=by omega
    have hmin:((c.cs.length:Int) < tt - c.cut)=False:=by simp; omega
    simp only [go_sem,h3,hw,hmin,hc1.1,hc1.2]
    refine zd hx ?_
    have hk:((c.cs.length:Int) - (tt - c.cut)).toNat=c.cs.length - (tt - c.cut).toNat:=by omega
    have ht:(c.cs.drop (tt - c.cut).toNat).take (c.cs.length - (tt - c.cut).toNat)=c.cs.drop (tt - c.cut).toNat:=yan (by simp)
    simp [go_sem,L39,R39,ZF,cCh,zt,pos,zbn,h1,h2,znw,h3,hk,← List.map_drop,← List.map_take,ht]
  ·
   simp only [go_sem,h3]
   refine zd hx ?_
   simp [go_sem,L39,R39,ZF,cCh,zt,pos,zbn,h1,h2,znw,h3]
 ·
  simp only [go_sem,h1]
  refine zN (zX 1 3 0 104 3 true false rfl rfl (by omega)) ?_
  refine zd hx ?_
  simp [go_sem,L39,R39,ZF,zCh,cCh,zt,pos,zbn,h1]
theorem Chain.eq_iff (a b:Chain):a=b↔a.ep=b.ep∧a.se=b.se∧a.cut=b.cut∧a.cs=b.cs:=by cases a; cases b; simp
instance:DecidableEq Chain:=fun a b=>decidable_of_iff (a.ep=b.ep∧a.se=b.se∧a.cut=b.cut∧a.cs=b.cs) (Chain.eq_iff a b).symm
theorem zsv {α:Type} [Inhabited α] {x y:List α} (hl:x.length=y.length) (h:∀ k,k < x.length→nth x k=nth y k):x=y:=by
 refine ycf hl fun k h1 h2=>?_
 have:=h k h1
 rwa [zv _ _ h1,zv _ _ h2] at this
theorem zyB (a b:Cell):(decide (a.th=b.th) && (decide (a.ju=b.ju) && decide (a.tx=b.tx)))=decide (a=b):=by
 rw [ybJ]; simp [Cell.eq_iff]
theorem zh3 (a b:Chain) (ha:a.cs.length≤140737488355328):zg prog 47 [.agg (cCh a),.agg (cCh b)] [] (.bool (decide (a=b))) []:=by
 refine zg.of_walk func47 ntmps47 zzY.1 zzY.2 (by simp) fun x hx=>?_
 by_cases h1:a.ep=b.ep
 ·
  by_cases h2:a.se=b.se
  ·
   by_cases h3:a.cut=b.cut
   ·
    by_cases h4:a.cs.length=b.cs.length
    ·
     have hl':((a.cs.length:Int)=(b.cs.length:Int))=True:=by simp [h4]
     simp only [go_sem,L47,R47,cCh,h1,h2,h3,hl']
     refine zy [2,3,5] 2 (fun n st=>∃ k:Nat,k + n=a.cs.length∧(∀ j,j < k→nth a.cs j=nth b.cs j) ∧
      st=⟨mkE .top [(2,.ptr 0 0),(3,.ptr 1 0),(5,.int .i64 k)],[.box (cCh a),.box (cCh b)]⟩) a.cs.length (by simp [hx]) (by simp) ?_ ?_
     ·
      refine ⟨0,by omega,fun j h=>by omega,?_⟩
      simp [zh,go_sem,ze,zf,pos,yaa,cCh,h1,h2,h3]
     ·
      rintro n st ⟨k,hk,hz,rfl⟩
      simp only [go_sem,cCh]
      by_cases hlt:k < a.cs.length
      ·
       have hg:a.cs[k]? = some (nth a.cs k):=zk _ _ hlt
       have hlt2:k < b.cs.length:=by omega
       have hg2:b.cs[k]? = some (nth b.cs k):=zk _ _ hlt2
       have hw:=zM (k:=k) (by omega)
       by_cases he:nth a.cs k=nth b.cs k
       ·
        simp only [go_sem,hlt,hlt2,hg,hg2,cC,he,hw]
        refine ⟨by simp,n - 1,by omega,k + 1,by omega,fun j hj=>?_,?_⟩
        ·
         by_cases e:j=k
         ·
          rw [e]; exact he
         ·
          exact hz j (by omega)
        ·
         simp [zh,go_sem,ze,zf,pos,yaa,cCh]
       ·
        simp only [go_sem,hlt,hlt2,hg,hg2,cC,zyB,he]
        refine zd hx ?_
        have:¬ a=b:=fun e=>he (by rw [e])
        simp [go_sem,L47,R47,this]
      ·
       simp only [go_sem,hlt,decide_false]
       refine zd hx ?_
       have:a=b:=(Chain.eq_iff a b).2 ⟨h1,h2,h3,zsv h4 fun j hj=>hz j (by omega)⟩
       simp [go_sem,L47,R47,this]
    ·
     have hl':((a.cs.length:Int)=(b.cs.length:Int))=False:=by simp; omega
     simp only [go_sem,L47,R47,cCh,h1,h2,h3,hl']
     refine zd hx ?_
     have:¬ a=b:=fun e=>h4 (by rw [e])
     simp [go_sem,L47,R47,this]
   ·
    simp only [go_sem,L47,R47,cCh,h1,h2,h3]
    refine zd hx ?_
    have:¬ a=b:=fun e=>h3 (by rw [e])
    simp [go_sem,L47,R47,this]
  ·
   have h2':decide (a.se=b.se)=false:=by simp [h2]
   simp only [go_sem,L47,R47,cCh,h1,h2']
   refine zd hx ?_
   have:¬ a=b:=fun e=>h2 (by rw [e])
   simp [go_sem,L47,R47,this]
 ·
  simp only [go_sem,L47,R47,cCh,h1]
  refine zd hx ?_
  have:¬ a=b:=fun e=>h1 (by rw [e])
  simp [go_sem,L47,R47,this]
structure Wt where
 n:Int
 t:Int
 f:Bool
deriving DecidableEq,Inhabited
def cW (w:Wt):List PV := [.int .i64 w.n,.int .i64 w.t,.bool w.f]
theorem zxc (l:List Wt):∀ row ∈ l.map cW,row.length=3:=fun row h=>by
 obtain ⟨w,-,rfl⟩:=yaG.1 h; rfl
def zel (l:List Wt) (n:Int):Nat:=l.countP fun w=>decide (w.n < n)
def zbX (l:List Wt) (n:Int):Bool:=l.any fun w=>decide (w.n=n)
def upW (l:List Wt):Prop:=∀ i j,i < j→j < l.length→(nth l i).n < (nth l j).n
theorem znx {l:List Wt} {n:Int} {i:Nat} (hi:i≤l.length) (h1:∀ k,k < i→(nth l k).n < n) (h2:∀ k,i≤k→k < l.length→¬ (nth l k).n < n):zel l n=i:=by
 unfold zel
 conv=>lhs; rw [← ybG i l]
 rw [List.countP_append]
 have a:(l.take i).countP (fun w=>decide (w.n < n))=(l.take i).length:=by
  rw [List.countP_eq_length]
  intro w hw
  obtain ⟨k,hk,rfl⟩:=yaq hw
  rw [yaz] at hk
  have:=h1 k (by omega)
  rw [zv _ _ (by omega)] at this
  simpa using this
 have b:(l.drop i).countP (fun w=>decide (w.n < n))=0:=by
  rw [List.countP_eq_zero]
  intro w hw
  obtain ⟨k,hk,rfl⟩:=yaq hw
  rw [ybQ] at hk
  have:=h2 (i + k) (by omega) (by omega)
  rw [zv _ _ (by omega)] at this
  simpa using this
 rw [a,b,yaz]; omega
theorem zsw {l:List Wt} {n:Int} (hu:upW l) {i:Nat} (hi:i≤l.length) (h1:∀ k,k < i→(nth l k).n < n) (h2:∀ k,i≤k→k < l.length→¬ (nth l k).n < n):zbX l n=decide (i < l.length∧(nth l i).n=n):=by
 rw [ybJ,decide_eq_true_eq]
 unfold zbX
 rw [ybn]
 constructor
 ·
  rintro ⟨w,hw,hn⟩
  obtain ⟨k,hk,rfl⟩:=yaq hw
  rw [← zv _ _ hk,decide_eq_true_eq] at hn
  by_cases h:k < i
  ·
   have:=h1 k h; omega
  ·
   by_cases e:k=i
   ·
    subst e; exact ⟨hk,hn⟩
   ·
    have a:=hu i k (by omega) hk
    have b:=h2 i (yag _) (by omega)
    omega
 ·
  rintro ⟨a,b⟩
  exact ⟨_,zjB a,by simpa using b⟩
theorem zbx (n a b:Int):zg prog 162 [.int .i64 n,.int .i64 a,.int .i64 b] [] (.bool (ZI n a b)) []:=by
 refine zg.of_walk func162 ntmps162 zwm.1 zwm.2 (by simp) fun x hx=>?_
 by_cases h:a≤n
 all_goals
  simp only [go_sem,zC2,zC3,h,decide_true,decide_false]
  refine zd hx ?_
  simp only [go_sem,zC2,zC3,ZI,h,decide_false,true_and,false_and]
theorem zby (n:Int):zg prog 163 [.int .i64 n] [] (.bool (ZI n 1 20)) []:=by
 refine zg.of_walk func163 ntmps163 zwn.1 zwn.2 (by simp) fun x hx=>?_
 simp only [go_sem,zC4,zC5]
 refine zc (.pure (zbx _ _ _)) ?_
 simp only [go_sem]
 refine zd hx ?_
 simp [go_sem,zC4,zC5]
def ztF (a b:Int):Int:=if a < b then -1 else if b < a then 1 else 0
theorem zh4 (w:Wt) (n:Int):zg prog 233 [.agg (cW w),.int .i64 n] [] (.int .i64 (ztF w.n n)) []:=by
 refine zg.of_walk func233 ntmps233 zwZ.1 zwZ.2 (by simp) fun x hx=>?_
 by_cases h1:w.n < n
 ·
  simp only [go_sem,zx7,zx8,cW,h1]
  refine zd hx ?_
  simp [go_sem,zx7,zx8,ztF,h1]
 ·
  by_cases h2:n < w.n
  ·
   simp only [go_sem,zx7,zx8,cW,h1,h2]
   refine zd hx ?_
   simp [go_sem,zx7,zx8,ztF,h1,h2]
  ·
   simp only [go_sem,zx7,zx8,cW,h1,h2]
   refine zd hx ?_
   simp [go_sem,zx7,zx8,ztF,h1,h2]
theorem zsx (l : List Wt) (n : Int) (hu : upW l) (hl : l.length ≤ 4611686018427387904) :
    zg prog 232 [.list (l.map cW),.int .i64 n,.clo 233 []] [] (.tup [.int .i64 (zel l n),.bool (zbX l n)]) []:=by
  refine zg.of_walk func232 ntmps232 zwY.1 zwY.2 (by simp) fun x hx=>?_
  simp only [go_sem,zCj,zCk]
  refine zy [0,1,2,8,9,10] 0 (fun g st=>∃ i j:Nat,i≤j∧j≤l.length∧j - i=g∧(∀ k,k < i→(nth l k).n < n)∧(∀ k,j≤k→k < l.length→¬ (nth l k).n < n) ∧
    st=⟨mkE .top [(0,.list (l.map cW)),(1,.int .i64 n),(2,.clo 233 []),(8,.int .i64 l.length),(9,.int .i64 i),(10,.int .i64 j)],[]⟩) l.length (by simp [hx]) (by simp) ?_ ?_
  · refine ⟨0,l.length,by omega,by omega,by omega,fun k h=>by omega,fun k h1 h2=>by omega,?_⟩
    simp [zh,go_sem,ze,zf,pos]
  · rintro g st ⟨i,j,hij,hj,hg,hlo,hhi,rfl⟩
    by_cases hlt:i < j
    · have w1:IntKind.i64.wrap ((i:Int) + (j:Int))=((i + j:Nat):Int):=by rw [ybU]; omega
      obtain ⟨h,hh⟩:∃ h,h=(i + j) / 2:=⟨_,rfl⟩
      have hgt:l[h]? = some (nth l h):=zk _ _ (by omega)
      have hhl:h < l.length:=by omega
      have w2:IntKind.u64.wrap ((i + j:Nat):Int)=((i + j:Nat):Int):=by rw [IntKind.wrap_u64]; omega
      have w3:((i + j:Nat):Int).fdiv (2 ^ min (Int.toNat 1) 64)=(h:Int):=by
        show Int.fdiv _ 2=_
        rw [Int.fdiv_eq_ediv_of_nonneg _ (by omega)]; omega
      have w4:IntKind.i64.wrap (h:Int)=(h:Int):=by rw [ybU]; omega
      have w5:=zM (k:=h) (by omega)
      simp only [go_sem,hlt,w1,w2,w3,w4,Int.reduceLE,hgt,hhl,cW]
      refine Zm rfl (by kernel_rfl) (.pureE (zh4 (nth l h) n) (by simp [go_sem,cW])) ?_
      by_cases hc:(nth l h).n < n
      · have e:ztF (nth l h).n n < 0:=by unfold ztF; rw [if_pos hc]; decide
        simp only [go_sem,e,w5]
        refine ⟨by simp,j - (h + 1),by omega,h + 1,j,by omega,hj,rfl,fun k hk=>?_,hhi,?_⟩
        · by_cases ek:k=h
          · rw [ek]; exact hc
          · have:=hu k h (by omega) (by omega); omega
        · simp [zh,go_sem,ze,zf,pos]
      · have e:¬ ztF (nth l h).n n < 0:=by unfold ztF; rw [if_neg hc]; split <;> decide
        simp only [go_sem,e]
        refine ⟨by simp,h - i,by omega,i,h,by omega,by omega,rfl,hlo,fun k h1 h2=>?_,?_⟩
        · by_cases ek:k=h
          · rw [ek]; exact hc
          · have:=hu h k (by omega) h2; omega
        · simp [zh,go_sem,ze,zf,pos]
    · obtain rfl:i=j:=by omega
      have hp:=znx hj hlo hhi
      have hf:=zsw hu hj hlo hhi
      by_cases hil:i < l.length
      · have hgt:l[i]? = some (nth l i):=zk _ _ hil
        simp only [go_sem,hlt,hil,hgt,cW]
        refine Zm rfl (by kernel_rfl) (.pureE (zh4 (nth l i) n) (by simp [go_sem,cW])) ?_
        have hn:=hhi i (yag _) hil
        have e:(ztF (nth l i).n n=0)↔(nth l i).n=n:=by
          unfold ztF
          rw [if_neg hn]
          split
          · simp; omega
          · simp; omega
        simp only [go_sem,e]
        refine zd hx ?_
        simp [go_sem,zCj,zCk,hp,hf,hil]
      · simp only [go_sem,hlt,hil]
        refine zd hx ?_
        simp [go_sem,zCj,zCk,hp,hf,hil]
theorem zd5 (l : List Wt) (n : Int) (hu : upW l) (hl : l.length ≤ 4611686018427387904) :
    zg prog 198 [.list (l.map cW),.int .i64 n] [] (.tup [.int .i64 (zel l n),.bool (zbX l n)]) []:=by
  refine zg.of_walk func198 ntmps198 zwN.1 zwN.2 (by simp) fun x hx=>?_
  simp only [go_sem,zDA,zDB]
  refine zc (.pureE (zsx l n hu hl) (by simp [go_sem])) ?_
  simp only [go_sem]
  refine zd hx ?_
  simp [go_sem,zDA,zDB]
def zoS (a b:Wt):Int:=if a.t=b.t then IntKind.i64.wrap (a.n - b.n) else IntKind.i64.wrap (a.t - b.t)
def zqk (l:List Wt) (at':Int) (k:Nat):Int:=if at' < 0∨zoS (nth l k) (nth l at'.toNat) < 0 then (k:Int) else at'
def zbI (l:List Wt) (k:Nat):Int:=(List.range k).foldl (zqk l) (-1)
def zal (l:List Wt):Int:=zbI l l.length
theorem zh5 (l:List Wt) (k:Nat):zbI l (k + 1)=zqk l (zbI l k) k:=by
 unfold zbI; rw [yaa,ybM]; rfl
theorem zfF (l:List Wt):∀ k,zbI l k < (k:Int) ∧ -1≤zbI l k
 | 0=>by simp [zbI]
 | k + 1=>by
  have:=zfF l k
  rw [zh5]
  unfold zqk
  split <;> omega
theorem zky (a b:Wt):zg prog 224 [.agg (cW a),.agg (cW b)] [] (.int .i64 (zoS a b)) []:=by
 refine zg.of_walk func224 ntmps224 zwU.1 zwU.2 (by simp) fun x hx=>?_
 by_cases h:a.t=b.t
 all_goals
  simp only [go_sem,zDL,zDM,cW,h]
  refine zd hx ?_
  simp [go_sem,zDL,zDM,zoS,h]
theorem zdv (l:List Wt) (hl:l.length≤4611686018427387904):zg prog 165 [.list (l.map cW)] [] (.int .i64 (zal l)) []:=by
 refine zg.of_walk func165 ntmps165 zwp.1 zwp.2 (by simp) fun x hx=>?_
 simp only [go_sem,zC6,zC7]
 refine zy [0,3,6,7] 0 (fun n st=>∃ k:Nat,k + n=l.length ∧
  st=⟨mkE .top [(0,.list (l.map cW)),(3,.int .i64 (zbI l k)),(6,.int .i64 l.length),(7,.int .i64 k)],[]⟩) l.length (by simp [hx]) (by simp) ?_ ?_
 ·
  refine ⟨0,by omega,?_⟩
  simp [zh,go_sem,ze,zf,pos,zbI]
 ·
  rintro n st ⟨k,hk,rfl⟩
  by_cases hlt:k < l.length
  ·
   have hg:l[k]? = some (nth l k):=zk _ _ hlt
   have wk:=zM (k:=k) (by omega)
   have hs:=zh5 l k
   obtain ⟨b1,b2⟩:=zfF l k
   by_cases hn:zbI l k < 0
   ·
    have e:zbI l (k + 1)=(k:Int):=by rw [hs,zqk,if_pos (.inl hn)]
    simp only [go_sem,hlt,hg,cW,hn,wk]
    refine ⟨by simp,n - 1,by omega,k + 1,by omega,?_⟩
    simp [zh,go_sem,ze,zf,pos,e]
   ·
    obtain ⟨m,hm⟩:∃ m:Nat,zbI l k=m:=⟨(zbI l k).toNat,by omega⟩
    rw [hm] at hs hn b1
    have hml:m < l.length:=by omega
    have hgm:l[m]? = some (nth l m):=zk _ _ hml
    have hn':((m:Int) < 0)=False:=eq_false hn
    simp only [go_sem,hlt,hg,hgm,hml,hm,hn',cW]
    refine zc (.pureE (zky (nth l k) (nth l m)) (by simp [go_sem,cW])) ?_
    by_cases ha:zoS (nth l k) (nth l m) < 0
    ·
     have e:zbI l (k + 1)=(k:Int):=by rw [hs,zqk,if_pos (.inr (by rw [yaB]; exact ha))]
     simp only [go_sem,ha,wk]
     refine ⟨by simp,n - 1,by omega,k + 1,by omega,?_⟩
     simp [zh,go_sem,ze,zf,pos,e]
    ·
     have e:zbI l (k + 1)=(m:Int):=by rw [hs,zqk,if_neg (by rw [yaB]; simp [ha])]
     simp only [go_sem,ha,wk]
     refine ⟨by simp,n - 1,by omega,k + 1,by omega,?_⟩
     simp [zh,go_sem,ze,zf,pos,e]
  ·
   have:k=l.length:=by omega
   subst this
   simp only [go_sem,hlt]
   refine zd hx ?_
   simp [go_sem,zC6,zC7,zal]
def cN (n:Int):List PV := [.int .i64 n]
theorem zsy (l:List Int):∀ row ∈ l.map cN,row.length=1:=fun row h=>by
 obtain ⟨w,-,rfl⟩:=yaG.1 h; rfl
theorem zql (l:List Int) (n:Int) (hl:l.length≤9223372036854775806):zg prog 234 [.list (l.map cN),.int .i64 n] [] (.int .i64 (zaC (fun y=>decide (y=n)) l 0)) []:=by
 refine zg.of_walk func234 ntmps234 zw0.1 zw0.2 (by simp) fun x hx=>?_
 simp only [go_sem,zCl,zCm]
 refine zy [0,1,7,8] 0 (fun g st=>∃ k:Nat,k + g=l.length∧zaC (fun y=>decide (y=n)) (l.drop k) k=zaC (fun y=>decide (y=n)) l 0 ∧
  st=⟨mkE .top [(0,.list (l.map cN)),(1,.int .i64 n),(7,.int .i64 l.length),(8,.int .i64 k)],[]⟩) l.length (by simp [hx]) (by simp) ?_ ?_
 ·
  refine ⟨0,by omega,by simp,?_⟩
  simp [zh,go_sem,ze,zf,pos]
 ·
  rintro g st ⟨k,hk,hi,rfl⟩
  by_cases hlt:k < l.length
  ·
   have hg:l[k]? = some (nth l k):=zk _ _ hlt
   have wk:=zM (k:=k) (by omega)
   rw [zaS _ l k hlt] at hi
   by_cases e:nth l k=n
   ·
    rw [if_pos (by simpa using e)] at hi
    simp only [go_sem,hlt,hg,cN,e]
    refine zd hx ?_
    simp [go_sem,zCl,zCm,hi]
   ·
    have e':¬ n=nth l k:=fun h=>e h.symm
    rw [if_neg (by simpa using e)] at hi
    simp only [go_sem,hlt,hg,cN,e',wk]
    refine ⟨by simp,g - 1,by omega,k + 1,by omega,hi,?_⟩
    simp [zh,go_sem,ze,zf,pos]
  ·
   have:l.drop k = []:=ya2 (by omega)
   rw [this] at hi
   simp only [go_sem,hlt]
   refine zd hx ?_
   simp [go_sem,zCl,zCm,← hi,zaC]
theorem zh6 (l:List Int) (n:Int) (hl:l.length≤9223372036854775806):zg prog 199 [.list (l.map cN),.int .i64 n] [] (.bool (l.any fun y=>decide (y=n))) []:=by
 refine zg.of_walk func199 ntmps199 zwO.1 zwO.2 (by simp) fun x hx=>?_
 simp only [go_sem,zDC,zDD]
 refine zc (.pureE (zql l n hl) (by simp [go_sem])) ?_
 simp only [go_sem]
 refine zd hx ?_
 simp [go_sem,zDC,zDD,zcH]
def zgY (ws:List Wt) (ds:List Int):Nat→Int
 | 0=>0
 | k + 1=>if zgY ws ds k≠0 then zgY ws ds k else if ZI (nth ds k) 1 20=false then 3 else if (zbX ws (nth ds k) || (ds.take k).any fun y=>decide (y=nth ds k))=true then 6 else 0
def zdw (ws:List Wt) (ds:List Int):Int:=zgY ws ds ds.length
theorem zuT (ws:List Wt) (ds:List Int) (k:Nat) (h:zgY ws ds k≠0):∀ m,k≤m→zgY ws ds m=zgY ws ds k:=by
  intro m hm
  induction m with
  | zero => obtain rfl : k = 0 := by omega
            rfl
  | succ m ih =>
    by_cases e:k=m + 1
    · rw [e]
    · have:=ih (by omega)
      rw [zgY,if_pos (by rw [this]; exact h),this]
def cSv (c:Int) (ws:List Wt) (ds:List Int):List PV := [.int .i64 c,.list (ws.map cW),.list (ds.map cN)]
theorem zl7 (c:Int) (ws:List Wt) (ds:List Int) (hu:upW ws) (hw:ws.length≤4611686018427387904) (hd:ds.length≤9223372036854775806):zg prog 164 [.agg (cSv c ws ds)] [] (.int .i64 (zdw ws ds)) []:=by
 refine zg.of_walk func164 ntmps164 zwo.1 zwo.2 (by simp) fun x hx=>?_
 simp only [go_sem,zzo,zzp,cSv]
 refine zy [1,8,9,10] 1 (fun n st=>∃ k:Nat,k + n=ds.length∧zgY ws ds k=0 ∧
  st=⟨mkE .top [(1,.ptr 0 0),(8,.list (ds.map cN)),(9,.int .i64 ds.length),(10,.int .i64 k)],[.box (cSv c ws ds)]⟩) ds.length (by simp [hx]) (by simp) ?_ ?_
 ·
  refine ⟨0,by omega,rfl,?_⟩
  simp [zh,go_sem,ze,zf,pos,yaa,cSv]
 ·
  rintro n st ⟨k,hk,h0,rfl⟩
  by_cases hlt:k < ds.length
  ·
   have hg:ds[k]? = some (nth ds k):=zk _ _ hlt
   have wk:=zM (k:=k) (by omega)
   have hs:zgY ws ds (k + 1)=if ZI (nth ds k) 1 20=false then 3 else if (zbX ws (nth ds k) || (ds.take k).any fun y=>decide (y=nth ds k))=true then 6 else 0:=by rw [zgY,if_neg (by simp [h0])]
   have hend:zgY ws ds (k + 1)≠0→zdw ws ds=zgY ws ds (k + 1):=fun h=>zuT ws ds (k + 1) h _ (by omega)
   simp only [go_sem,hlt,hg,cN,cSv]
   refine zc (.pureE (zd5 ws (nth ds k) hu hw) (by simp [go_sem,cSv])) ?_
   simp only [go_sem,cSv]
   refine zc (.pureE (zby (nth ds k)) (by simp [go_sem])) ?_
   cases h1:ZI (nth ds k) 1 20
   ·
    rw [if_pos h1] at hs
    simp only [go_sem,cSv]
    refine zd hx ?_
    simp [go_sem,zzo,zzp,hend (by rw [hs]; decide),hs]
   ·
    rw [if_neg (by simp [h1])] at hs
    cases h2:zbX ws (nth ds k)
    ·
     rw [h2,Bool.false_or] at hs
     have hrow:(∀ row ∈ List.map cN ds,row.length=1)=True:=eq_true (zsy _)
     have htk:List.take k (List.map cN ds)=List.map cN (List.take k ds):=List.map_take.symm
     have hle:k≤ds.length:=by omega
     simp only [go_sem,cSv,hrow,htk,hle,yaO,ybK,yaD]
     refine zc (.pureE (zh6 (ds.take k) (nth ds k) (by simp; omega)) (by simp [go_sem])) ?_
     cases h3:(ds.take k).any fun y=>decide (y=nth ds k)
     ·
      rw [h3,if_neg (by simp)] at hs
      simp only [go_sem,cSv,wk]
      refine ⟨by simp,n - 1,by omega,k + 1,by omega,hs,?_⟩
      simp [zh,go_sem,ze,zf,pos,yaa,cSv]
     ·
      rw [h3,if_pos rfl] at hs
      simp only [go_sem,cSv]
      refine zd hx ?_
      simp [go_sem,zzo,zzp,hend (by rw [hs]; decide),hs]
    ·
     rw [h2,Bool.true_or,if_pos rfl] at hs
     simp only [go_sem,cSv]
     refine zd hx ?_
     simp [go_sem,zzo,zzp,hend (by rw [hs]; decide),hs]
  ·
   have:k=ds.length:=by omega
   subst this
   simp only [go_sem,hlt]
   refine zd hx ?_
   simp [go_sem,zzo,zzp,zdw,h0]
def zb9 (c:Int) (ws:List Wt):Nat→Int
 | 0=>0
 | k + 1=>if zb9 c ws k≠0 then zb9 c ws k else if (ZI (nth ws k).n 1 20 && ZI (nth ws k).t 1 c)=false then 3 else if 0 < k∧(nth ws k).n≤(nth ws (k - 1)).n then 4 else 0
theorem zuU (c:Int) (ws:List Wt) (k:Nat) (h:zb9 c ws k≠0):∀ m,k≤m→zb9 c ws m=zb9 c ws k:=by
  intro m hm
  induction m with
  | zero => obtain rfl : k = 0 := by omega
            rfl
  | succ m ih =>
    by_cases e:k=m + 1
    · rw [e]
    · have:=ih (by omega)
      rw [zb9,if_pos (by rw [this]; exact h),this]
theorem zuV {c:Int} {ws:List Wt} {k:Nat} (h:zb9 c ws (k + 1)=0):zb9 c ws k=0∧ZI (nth ws k).n 1 20=true∧ZI (nth ws k).t 1 c=true∧(0 < k→(nth ws (k - 1)).n < (nth ws k).n):=by
 rw [zb9] at h
 split at h
 ·
  rename_i h0; exact (h0 h).elim
 ·
  rename_i h0
  split at h
  ·
   cases h
  ·
   rename_i h1
   split at h
   ·
    cases h
   ·
    rename_i h2
    simp only [Bool.not_eq_false,yat] at h1
    exact ⟨by simpa using h0,h1.1,h1.2,fun hk=>by omega⟩
theorem zfG {c:Int} {ws:List Wt}:∀ m,zb9 c ws m=0→∀ k,k < m→ZI (nth ws k).n 1 20=true∧ZI (nth ws k).t 1 c=true∧(0 < k→(nth ws (k - 1)).n < (nth ws k).n)
 | 0,_=>fun k h=>by omega
 | m + 1,h=>fun k hk=>by
  obtain ⟨h0,h1⟩:=zuV h
  by_cases e:k=m
  ·
   subst e; exact h1
  ·
   exact zfG m h0 k (by omega)
theorem zl8 {c:Int} {ws:List Wt} (h:zb9 c ws ws.length=0):upW ws:=by
 intro i j hij hj
 have key:∀ d,i + d + 1 < ws.length→(nth ws i).n < (nth ws (i + d + 1)).n:=by
  intro d
  induction d with
  | zero=>intro hd; have:=(zfG _ h (i + 1) hd).2.2 (by omega); simpa using this
  | succ d ih =>
   intro hd
   have a:=ih (by omega)
   have b:=(zfG _ h (i + (d + 1) + 1) hd).2.2 (by omega)
   rw [show i + (d + 1) + 1 - 1=i + d + 1 by omega] at b
   omega
 have:=key (j - i - 1) (by omega)
 rwa [show i + (j - i - 1) + 1=j by omega] at this
def Z9 (c:Int) (ws:List Wt) (ds:List Int):Int :=
 if ZI c 0 999=false then 3 else if 8 < ws.length∨30 < ds.length then 2 else if zb9 c ws ws.length≠0 then zb9 c ws ws.length
 else if zdw ws ds≠0 then zdw ws ds else if 0≤zal ws∧(nth ws (zal ws).toNat).f=true then 4 else 0
theorem zbo (c:Int) (ws:List Wt) (ds:List Int) (hwl:ws.length≤9223372036854775806) (hdl:ds.length≤9223372036854775806):zg prog 92 [.agg (cSv c ws ds)] [] (.int .i64 (Z9 c ws ds)) []:=by
 refine zg.of_walk func92 ntmps92 zAn.1 zAn.2 (by simp) fun x hx=>?_
 simp only [go_sem,L92,R92,cSv]
 refine zc (.pureE (zbx c 0 999) (by simp [go_sem])) ?_
 cases hc:ZI c 0 999
 ·
  simp only [go_sem,cSv]
  refine zd hx ?_
  simp [go_sem,L92,R92,Z9,hc]
 ·
  by_cases hw8:(8:Int) < (ws.length:Int)
  ·
   simp only [go_sem,cSv,hw8]
   refine zd hx ?_
   have:Z9 c ws ds=2:=by rw [Z9,if_neg (by simp [hc]),if_pos (by omega)]
   simp [go_sem,L92,R92,this]
  ·
   by_cases hd30:(30:Int) < (ds.length:Int)
   ·
    simp only [go_sem,cSv,hw8,hd30]
    refine zd hx ?_
    have:Z9 c ws ds=2:=by rw [Z9,if_neg (by simp [hc]),if_pos (by omega)]
    simp [go_sem,L92,R92,this]
   ·
    simp only [go_sem,cSv,hw8,hd30]
    have wrong:zb9 c ws ws.length≠0→Z9 c ws ds=zb9 c ws ws.length:=fun h=>by
     rw [Z9,if_neg (by simp [hc]),if_neg (by omega),if_pos h]
    refine zy [1,24,25,26] 1 (fun n st=>∃ k:Nat,k + n=ws.length∧zb9 c ws k=0 ∧
     st=⟨mkE .top [(1,.ptr 0 0),(24,.list (ws.map cW)),(25,.int .i64 ws.length),(26,.int .i64 k)],[.box (cSv c ws ds)]⟩) ws.length (by simp [hx]) (by simp) ?_ ?_
    ·
     refine ⟨0,by omega,rfl,?_⟩
     simp [zh,go_sem,ze,zf,pos,yaa,cSv]
    ·
     rintro n st ⟨k,hk,h0,rfl⟩
     by_cases hlt:k < ws.length
     ·
      have hg:ws[k]? = some (nth ws k):=zk _ _ hlt
      have wk:=zM (k:=k) (by omega)
      have hs:zb9 c ws (k + 1)=if (ZI (nth ws k).n 1 20 && ZI (nth ws k).t 1 c)=false then 3 else if 0 < k∧(nth ws k).n≤(nth ws (k - 1)).n then 4 else 0:=by rw [zb9,if_neg (by simp [h0])]
      have hend:zb9 c ws (k + 1)≠0→Z9 c ws ds=zb9 c ws (k + 1):=fun h=>by
       have:=zuU c ws (k + 1) h ws.length (by omega)
       rw [wrong (by rw [this]; exact h),this]
      simp only [go_sem,hlt,hg,cW,cSv]
      refine zc (.pureE (zby (nth ws k).n) (by simp [go_sem])) ?_
      cases h1:ZI (nth ws k).n 1 20
      ·
       rw [h1,Bool.false_and,if_pos rfl] at hs
       simp only [go_sem,cW,cSv]
       refine zd hx ?_
       simp [go_sem,L92,R92,hend (by rw [hs]; decide),hs]
      ·
       simp only [go_sem,cW,cSv]
       refine zc (.pureE (zbx (nth ws k).t 1 c) (by simp [go_sem])) ?_
       cases h2:ZI (nth ws k).t 1 c
       ·
        rw [h1,h2,ycg,if_pos rfl] at hs
        simp only [go_sem,cW,cSv]
        refine zd hx ?_
        simp [go_sem,L92,R92,hend (by rw [hs]; decide),hs]
       ·
        rw [h1,h2,ycg,if_neg (by simp)] at hs
        by_cases hk0:k=0
        ·
         subst hk0
         rw [if_neg (by omega)] at hs
         simp only [go_sem,cW,cSv,yao,Int.lt_irrefl]
         have w1:IntKind.i64.wrap 1=1:=by decide +kernel
         refine ⟨by simp,n - 1,by omega,1,by omega,hs,?_⟩
         simp [w1,zh,go_sem,ze,zf,pos,yaa,cSv]
        ·
         have hkp:(0:Int) < (k:Int):=by omega
         obtain ⟨k',rfl⟩:∃ k',k=k' + 1:=⟨k - 1,by omega⟩
         have hwd:IntKind.i64.wrap (((k' + 1:Nat):Int) - 1)=(k':Int):=by rw [ybU]; omega
         have hkl:k' < ws.length:=by omega
         have hg':ws[k']? = some (nth ws k'):=zk _ _ hkl
         rw [ybX] at hs
         by_cases h3:(nth ws (k' + 1)).n≤(nth ws k').n
         ·
          rw [if_pos ⟨by omega,h3⟩] at hs
          simp only [go_sem,cW,cSv,hkp,hwd,hkl,hg',h3]
          refine zd hx ?_
          simp [go_sem,L92,R92,hend (by rw [hs]; decide),hs]
         ·
          rw [if_neg (fun h=>h3 h.2)] at hs
          simp only [go_sem,cW,cSv,hkp,hwd,hkl,hg',h3,wk]
          refine ⟨by simp,n - 1,by omega,k' + 1 + 1,by omega,hs,?_⟩
          simp [zh,go_sem,ze,zf,pos,yaa,cSv]
     ·
      have:k=ws.length:=by omega
      subst this
      have hk0:zb9 c ws ws.length=0:=h0
      have hu:=zl8 hk0
      have base:Z9 c ws ds=if zdw ws ds≠0 then zdw ws ds else if 0≤zal ws∧(nth ws (zal ws).toNat).f=true then 4 else 0:=by
       rw [Z9,if_neg (by simp [hc]),if_neg (by omega),if_neg (by simp [hk0])]
      simp only [go_sem,hlt,cSv]
      refine zc (.pureE (zl7 c ws ds hu (by omega) (by omega)) (by simp [go_sem,cSv])) ?_
      by_cases hd:zdw ws ds=0
      ·
       rw [if_neg (by simp [hd])] at base
       simp only [go_sem,hd,cSv]
       refine zc (.pureE (zdv ws (by omega)) (by simp [go_sem])) ?_
       by_cases hf:0≤zal ws
       ·
        obtain ⟨m,hm⟩:∃ m:Nat,zal ws=m:=⟨(zal ws).toNat,by omega⟩
        have hml:m < ws.length:=by have:=(zfF ws ws.length).1; rw [show zbI ws ws.length=zal ws from rfl,hm] at this; omega
        have hgm:ws[m]? = some (nth ws m):=zk _ _ hml
        rw [hm,yaB] at base
        cases hb:(nth ws m).f
        ·
         simp only [go_sem,hm,hml,hgm,cW,hb]
         refine zd hx ?_
         simp [go_sem,L92,R92,base,hb]
        ·
         simp only [go_sem,hm,hml,hgm,cW,hb]
         refine zd hx ?_
         simp [go_sem,L92,R92,base,hb]
       ·
        rw [if_neg (fun h=>hf h.1)] at base
        simp only [go_sem,hf]
        refine zd hx ?_
        simp [go_sem,L92,R92,base]
      ·
       rw [if_pos hd] at base
       simp only [go_sem,hd,cSv]
       refine zd hx ?_
       simp [go_sem,L92,R92,base]
def inW (l:List Wt):Prop:=∀ k,k < l.length→1≤(nth l k).n∧(nth l k).n≤20∧1≤(nth l k).t∧(nth l k).t≤999
theorem zuW {c:Int} {ws:List Wt} (hc:ZI c 0 999=true) (h:zb9 c ws ws.length=0):inW ws:=fun k hk=>by
 obtain ⟨a,b,-⟩:=zfG _ h k hk
 rw [zY] at hc a b
 omega
theorem zgZ (c:Int) (ws:List Wt) (ds:List Int) (hwl:ws.length≤9223372036854775806) (hdl:ds.length≤9223372036854775806):zg prog 48 [.agg (cSv c ws ds),.agg (cSv c ws ds)] [] (.bool true) []:=by
 refine zg.of_walk func48 ntmps48 zzZ.1 zzZ.2 (by simp) fun x hx=>?_
 simp only [go_sem,L48,R48,cSv]
 refine zy [2,3,5] 2 (fun n st=>∃ k:Nat,k + n=ws.length ∧
  st=⟨mkE .top [(2,.ptr 0 0),(3,.ptr 1 0),(5,.int .i64 k)],[.box (cSv c ws ds),.box (cSv c ws ds)]⟩) ws.length (by simp [hx]) (by simp) ?_ ?_
 ·
  refine ⟨0,by omega,?_⟩
  simp [zh,go_sem,ze,zf,pos,yaa,cSv]
 ·
  rintro n st ⟨k,hk,rfl⟩
  by_cases hlt:k < ws.length
  ·
   have hg:ws[k]? = some (nth ws k):=zk _ _ hlt
   have wk:=zM (k:=k) (by omega)
   simp only [go_sem,hlt,hg,cW,cSv,wk]
   refine ⟨by simp,n - 1,by omega,k + 1,by omega,?_⟩
   simp [zh,go_sem,ze,zf,pos,yaa,cSv]
  ·
   simp only [go_sem,hlt,cSv]
   refine zy [2,3,6] 2 (fun n st=>∃ k:Nat,k + n=ds.length ∧
    st=⟨mkE .top [(2,.ptr 0 0),(3,.ptr 1 0),(6,.int .i64 k)],[.box (cSv c ws ds),.box (cSv c ws ds)]⟩) ds.length (by simp [hx]) (by simp) ?_ ?_
   ·
    refine ⟨0,by omega,?_⟩
    simp [zh,go_sem,ze,zf,pos,yaa,cSv]
   ·
    rintro n st ⟨k,hk,rfl⟩
    by_cases hlt:k < ds.length
    ·
     have hg:ds[k]? = some (nth ds k):=zk _ _ hlt
     have wk:=zM (k:=k) (by omega)
     simp only [go_sem,hlt,hg,cN,cSv,wk]
     refine ⟨by simp,n - 1,by omega,k + 1,by omega,?_⟩
     simp [zh,go_sem,ze,zf,pos,yaa,cSv]
    ·
     simp only [go_sem,hlt,cSv]
     refine zd hx ?_
     simp [go_sem,L48,R48]
theorem zyC {α:Type} [Inhabited α] {l:List α} {k:Nat} {x:α} (h:l[k]? = some x):nth l k=x:=by
 obtain ⟨h1,rfl⟩:=yab.1 h
 exact zv _ _ h1
theorem zny (l:List Wt) (w:Wt) {k:Nat} (h:k≤l.length):(l.insertIdx k w).length=l.length + 1:=by rw [List.length_insertIdx,if_pos h]
def Zp (c:Int) (ws:List Wt) (ds:List Int) (n:Int):Int :=
 if ZI n 1 20=false then 3 else if (zbX ws n || ds.any fun y=>decide (y=n))=true then 6 else if ws.length=8∨c=999 then 2 else 0
theorem zgH (rows:List (List PV)) (hz:∀ row ∈ rows,row.length=3) (hb:rows.length * 24≤140737488355328):zg prog 196 [.list rows] [] (.arr 0 1) [.arr 1 true false 106 3 rows]:=by
 refine zg.of_walk func196 ntmps196 zwL.1 zwL.2 (by simp) fun x hx=>?_
 simp only [go_sem,zB6,zB7]
 refine zc6 rfl fun b hb'=>?_
 cases b
 ·
  simp only [go_sem]
  rw [Zf rfl rfl hz (by simpa using hb)]
  simp only [go_sem]
  refine zI [0] (by simp) (by simp [hx]) (by simp [hx]) ?_ ?_
  ·
   simp [go_sem,zB6,zB7,hx,pos]
  ·
   simp [ze,zf,hx]
 ·
  simp only [go_sem]
  refine zN (ZR 2 1 106 3 true false rfl (by omega)) ?_
  have:rows = []:=hb' rfl
  subst this
  rw [zc4]
  refine zI [0] (by simp) (by simp [hx]) (by simp [hx]) ?_ ?_
  ·
   simp [go_sem,zB6,zB7,hx,pos]
  ·
   simp [ze,zf,hx]
theorem zgI (rows:List (List PV)) (hz:∀ row ∈ rows,row.length=1) (hb:rows.length * 8≤140737488355328):zg prog 197 [.list rows] [] (.arr 0 1) [.arr 1 true false 3 1 rows]:=by
 refine zg.of_walk func197 ntmps197 zwM.1 zwM.2 (by simp) fun x hx=>?_
 simp only [go_sem,zB8,zB9]
 refine zc6 rfl fun b hb'=>?_
 cases b
 ·
  simp only [go_sem]
  rw [Zf rfl rfl hz (by simpa using hb)]
  simp only [go_sem]
  refine zI [0] (by simp) (by simp [hx]) (by simp [hx]) ?_ ?_
  ·
   simp [go_sem,zB8,zB9,hx,pos]
  ·
   simp [ze,zf,hx]
 ·
  simp only [go_sem]
  refine zN (ZR 2 1 3 1 true false rfl (by omega)) ?_
  have:rows = []:=hb' rfl
  subst this
  rw [zc4]
  refine zI [0] (by simp) (by simp [hx]) (by simp [hx]) ?_ ?_
  ·
   simp [go_sem,zB8,zB9,hx,pos]
  ·
   simp [ze,zf,hx]
def hSv (a b:Nat) (c:Int) (ws:List Wt) (ds:List Int):List AObj := [.box [.int .i64 c,.arr 1 a,.arr 2 b],.arr a true false 106 3 (ws.map cW),.arr b true false 3 1 (ds.map cN)]
theorem ze7 (c:Int) (ws:List Wt) (ds:List Int) (hwl:ws.length * 24≤140737488355328) (hdl:ds.length * 8≤140737488355328):zg prog 120 [.agg (cSv c ws ds)] [] (.ptr 0 0) (hSv 1 1 c ws ds):=by
 refine zg.of_walk func120 ntmps120 zoy.1 zoy.2 (by simp) fun x hx=>?_
 simp only [go_sem,zAJ,zAK,cSv]
 refine zc5 (r := .arr 1 1) (zgH (ws.map cW) (zxc _) (by simp; omega)) rfl rfl (by simp [go_sem]) rfl ?_
 simp only [go_sem,cSv]
 refine zc5 (r := .arr 2 1) (zgI (ds.map cN) (zsy _) (by simp; omega)) rfl rfl (by simp [go_sem]) rfl ?_
 simp only [go_sem,cSv]
 repeat refine ⟨rfl,?_⟩
 refine zI [3,1,2] (by simp) (by simp [hx]) (by simp [hx]) ?_ ?_
 ·
  simp [go_sem,zAJ,zAK,hx,pos]
 ·
  simp [ze,zf,hx,pos,go_sem,hSv]
theorem zsz (l:List Wt) (n:Int):zel l n≤l.length:=by unfold zel; exact List.countP_le_length
theorem zjG {α β:Type} (f:α→β) (w:α):∀ (ws:List α) (i:Nat),(ws.map f).insertIdx i (f w)=(ws.insertIdx i w).map f
 | [],0=>rfl
 | [],_ + 1=>rfl
 | _ :: _,0=>rfl
 | y :: ws,i + 1=>by
  simp only [yaA,List.insertIdx_succ_cons]
  rw [zjG f w ws i]
theorem zcv (a b : Nat) (c : Int) (ws : List Wt) (ds : List Int) (n : Int) (hu : upW ws) (hc : ZI c 0 999 = true) (hwl : ws.length ≤ 8) (hdl : ds.length ≤ 30) :
    zg prog 121 [.ptr 0 0,.int .i64 n] (hSv a b c ws ds) (.int .i64 (Zp c ws ds n))
      (if Zp c ws ds n=0 then hSv (a + 1) b (c + 1) (ws.insertIdx (zel ws n) ⟨n,c + 1,false⟩) ds else hSv a b c ws ds):=by
  refine zg.of_walk func121 ntmps121 zv0.1 zv0.2 (by simp) fun x hx=>?_
  rw [zY] at hc
  simp only [go_sem,zBD,zAL,hSv]
  refine zc (.scalarE (zd5 ws n hu (by omega)) rfl (by simp [go_sem,zt,pos])) ?_
  simp only [go_sem]
  refine zc (.pureE (zby n) (by simp [go_sem])) ?_
  have stop:∀ nt e st,st.heap=hSv a b c ws ds→Zp c ws ds n=e→e≠0→st.env 4 = .int .i64 e→zli x nt zAL (.int .i64 (Zp c ws ds n)) (if Zp c ws ds n=0 then hSv (a + 1) b (c + 1) (ws.insertIdx (zel ws n) ⟨n,c + 1,false⟩) ds else hSv a b c ws ds) .ret st:=fun nt e st h1 h2 h3 h4=>by
    rw [h2,if_neg h3]
    refine zI [] (by simp) (by simp) (by simp [hx,h1,hSv]) ?_ ?_
    · simp [go_sem,zBD,zAL,hx,pos,h4]
    · simp [ze,zf,hx,pos,go_sem,hSv,h1,yaa]
  cases h1:ZI n 1 20
  · simp only [go_sem]
    exact stop _ 3 _ rfl (by rw [Zp,if_pos h1]) (by decide) (by simp [go_sem])
  · simp only [go_sem]
    cases h2:zbX ws n
    · simp only [go_sem]
      refine zc (.scalarE (zh6 ds n (by omega)) rfl (by simp [go_sem,zt,pos])) ?_
      cases h3:ds.any fun y=>decide (y=n)
      · have e0:Zp c ws ds n=if ws.length=8∨c=999 then 2 else 0:=by rw [Zp,if_neg (by simp [h1]),if_neg (by simp [h2,h3])]
        by_cases h4:(ws.length:Int)=8
        · have e:Zp c ws ds n=2:=by rw [e0,if_pos (by omega)]
          simp only [go_sem,h4]
          exact stop _ 2 _ rfl e (by decide) (by simp [go_sem])
        · by_cases h5:c=999
          · have e:Zp c ws ds n=2:=by rw [e0,if_pos (.inr h5)]
            subst h5
            simp only [go_sem,h4]
            exact stop _ 2 _ rfl e (by decide) (by simp [go_sem])
          · have e:Zp c ws ds n=0:=by rw [e0,if_neg (by omega)]
            have wc:IntKind.i64.wrap (c + 1)=c + 1:=by rw [ybU]; omega
            simp only [go_sem,h4,h5,wc]
            refine zfo 1 (zpV (ws.map cW) (cW ⟨n,c + 1,false⟩) a (zel ws n) (by simp; exact zsz _ _) rfl (by simp; omega)) rfl rfl rfl rfl (by simp [go_sem]) (by simp [go_sem,pos,cW]) rfl ?_
            simp only [go_sem]
            rw [e,if_pos rfl]
            refine zI [] (by simp) (by simp) (by simp [hx,hSv]) ?_ ?_
            · simp [go_sem,zBD,zAL,hx,pos]
            · simp [ze,zf,hx,pos,go_sem,hSv,yaa,zjG]
      · have e:Zp c ws ds n=6:=by rw [Zp,if_neg (by simp [h1]),if_pos (by simp [h3])]
        simp only [go_sem]
        exact stop _ 6 _ rfl e (by decide) (by simp [go_sem])
    · have e:Zp c ws ds n=6:=by rw [Zp,if_neg (by simp [h1]),if_pos (by simp [h2])]
      simp only [go_sem]
      exact stop _ 6 _ rfl e (by decide) (by simp [go_sem])
theorem zsA {l:List Wt} (hu:upW l) {n:Int} (h:zbX l n=true):zel l n < l.length∧(nth l (zel l n)).n=n:=by
 unfold zbX at h
 obtain ⟨w,hw,hn⟩:=ybn.1 h
 obtain ⟨k,hk,rfl⟩:=yaq hw
 rw [← zv _ _ hk,decide_eq_true_eq] at hn
 have hp:zel l n=k:=znx (by omega) (fun j hj=>by have:=hu j k hj hk; omega) fun j a b=>by
  by_cases e:j=k
  ·
   subst e; omega
  ·
   have:=hu k j (by omega) b; omega
 rw [hp]; exact ⟨hk,hn⟩
def zd6 (ws:List Wt):Bool:=decide (0≤zal ws) && (nth ws (zal ws).toNat).f
def zoT:Nat→List Wt→List Int→List Wt × List Int
 | 0,ws,ds=>(ws,ds)
 | k + 1,ws,ds=>if zd6 ws=true then zoT k (ws.eraseIdx (zal ws).toNat) (ds ++ [(nth ws (zal ws).toNat).n]) else (ws,ds)
def za9 (ws:List Wt) (ds:List Int):List Wt × List Int:=zoT ws.length ws ds
theorem zoU {ws:List Wt} (h:0≤zal ws):(zal ws).toNat < ws.length:=by
 have:=(zfF ws ws.length).1
 rw [show zbI ws ws.length=zal ws from rfl] at this
 omega
theorem zuX {ws:List Wt} (h:zd6 ws=true):0≤zal ws∧(zal ws).toNat < ws.length∧(nth ws (zal ws).toNat).f=true:=by
 simp only [zd6,yat,decide_eq_true_eq] at h
 exact ⟨h.1,zoU h.1,h.2⟩
theorem zqm {ws:List Wt} {ds:List Int} (h:zd6 ws=true):za9 ws ds=za9 (ws.eraseIdx (zal ws).toNat) (ds ++ [(nth ws (zal ws).toNat).n]):=by
 have hl:=(zuX h).2.1
 unfold za9
 rw [ybC,if_pos hl]
 obtain ⟨m,hm⟩:∃ m,ws.length=m + 1:=⟨ws.length - 1,by omega⟩
 rw [hm,zoT,if_pos h,ybX]
theorem zl9 {ws:List Wt} {ds:List Int} (h:zd6 ws=false):za9 ws ds=(ws,ds):=by
 unfold za9
 cases hl:ws.length with
 | zero=>rfl
 | succ m=>rw [zoT,if_neg (by simp [h])]
theorem zsB {ws:List Wt} (hu:upW ws) (i:Nat):upW (ws.eraseIdx i):=by
 intro a b hab hb
 rw [ybC] at hb
 have key:∀ k,k < (ws.eraseIdx i).length→nth (ws.eraseIdx i) k=nth ws (if k < i then k else k + 1):=by
  intro k hk
  rw [zv _ _ hk,List.getElem_eraseIdx]
  rw [ybC] at hk
  split
  ·
   rw [zv]
  ·
   rw [zv]
 have hl:(ws.eraseIdx i).length=if i < ws.length then ws.length - 1 else ws.length:=ybC
 rw [key a (by rw [hl]; split <;> split at hb <;> omega),key b (by rw [hl]; exact hb)]
 refine hu _ _ (by split <;> split <;> omega) ?_
 split at hb <;> split <;> omega
theorem zyD {ws:List Wt} (hu:upW ws) {i:Nat} (hi:i < ws.length) {w:Wt} (hw:w.n=(nth ws i).n):upW (ws.set i w):=by
 intro a b hab hb
 rw [ybD] at hb
 have key:∀ k,k < ws.length→(nth (ws.set i w) k).n=(nth ws k).n:=by
  intro k hk
  rw [zv _ _ (by simpa using hk),List.getElem_set]
  split
  ·
   rename_i e; subst e; exact hw
  ·
   rw [zv _ _ hk]
 rw [key a (by omega),key b hb]
 exact hu a b hab hb
def zfH (ws:List Wt) (n t:Int):List Wt:=ws.set (zel ws n) ⟨(nth ws (zel ws n)).n,t,true⟩
def zdF (ws:List Wt) (n t:Int):Int :=
 if (ZI n 1 20 && ZI t 1 999)=false then 3 else if zbX ws n=false then 5 else if (nth ws (zel ws n)).f=true∨t < (nth ws (zel ws n)).t then 4 else 0
def zaq (ws:List Wt) (ds:List Int) (n t:Int):Int :=
 if zdF ws n t≠0 then zdF ws n t else if 30 < (za9 (zfH ws n t) ds).2.length then 2 else 0
def znz (a b:Int):Int:=if a < b then b else a
def zgk (a b:Nat) (c:Int) (ws:List Wt) (ds:List Int) (n t:Int):List AObj :=
 if zdF ws n t≠0 then hSv a b c ws ds else hSv (a + (ws.length - (za9 (zfH ws n t) ds).1.length)) (b + (ws.length - (za9 (zfH ws n t) ds).1.length)) (znz c t) (za9 (zfH ws n t) ds).1 (za9 (zfH ws n t) ds).2
theorem zfI {α β:Type} (f:α→β):∀ (ws:List α) (i:Nat),(ws.map f).eraseIdx i=(ws.eraseIdx i).map f
 | [],_=>rfl
 | _ :: _,0=>rfl
 | y :: ws,i + 1=>by
  simp only [yaA,List.eraseIdx_cons_succ]
  rw [zfI f ws i]
theorem zcW (a b : Nat) (c : Int) (ws : List Wt) (ds : List Int) (n t : Int) (hu : upW ws) (hwl : ws.length ≤ 9) (hdl : ds.length ≤ 30) :
    zg prog 122 [.ptr 0 0,.int .i64 n,.int .i64 t] (hSv a b c ws ds) (.int .i64 (zaq ws ds n t)) (zgk a b c ws ds n t):=by
  refine zg.of_walk func122 ntmps122 zv2.1 zv2.2 (by simp) fun x hx=>?_
  have stop:∀ nt e st,st.heap=hSv a b c ws ds→zdF ws n t=e→e≠0→st.env 6 = .int .i64 e→zli x nt zv1 (.int .i64 (zaq ws ds n t)) (zgk a b c ws ds n t) .ret st:=fun nt e st h1 h2 h3 h4=>by
    rw [zaq,zgk,if_pos (by rw [h2]; exact h3),if_pos (by rw [h2]; exact h3),h2]
    refine zI [] (by simp) (by simp) (by simp [hx,h1,hSv]) ?_ ?_
    · simp [go_sem,zxS,zv1,hx,pos,h4]
    · simp [ze,zf,hx,pos,go_sem,hSv,h1,yaa]
  simp only [go_sem,zxS,zv1,hSv]
  refine zc (.pureE (zby n) (by simp [go_sem])) ?_
  cases h1:ZI n 1 20
  · simp only [go_sem]
    exact stop _ 3 _ rfl (by rw [zdF,if_pos (by simp [h1])]) (by decide) (by simp [go_sem])
  · simp only [go_sem]
    refine zc (.pureE (zbx t 1 999) (by simp [go_sem])) ?_
    cases h2:ZI t 1 999
    · simp only [go_sem]
      exact stop _ 3 _ rfl (by rw [zdF,if_pos (by simp [h2])]) (by decide) (by simp [go_sem])
    · simp only [go_sem]
      refine zc (.scalarE (zd5 ws n hu (by omega)) rfl (by simp [go_sem,zt,pos])) ?_
      cases h3:zbX ws n
      · simp only [go_sem]
        exact stop _ 5 _ rfl (by rw [zdF,if_neg (by simp [h1,h2]),if_pos h3]) (by decide) (by simp [go_sem])
      · obtain ⟨g1,g2⟩:=zsA hu h3
        have e0:zdF ws n t=if (nth ws (zel ws n)).f=true∨t < (nth ws (zel ws n)).t then 4 else 0:=by rw [zdF,if_neg (by simp [h1,h2]),if_neg (by simp [h3])]
        have hset:zfH ws n t=ws.set (zel ws n) ⟨(nth ws (zel ws n)).n,t,true⟩:=rfl
        have hup:∀ w:Wt,w.n=(nth ws (zel ws n)).n→upW (ws.set (zel ws n) w):=fun w hw=>zyD hu g1 hw
        generalize zel ws n=i at *
        have hg:ws[i]? = some (nth ws i):=zk _ _ g1
        cases h4:(nth ws i).f
        · by_cases h5:t < (nth ws i).t
          · simp only [go_sem,g1,hg,cW,h4,h5]
            exact stop _ 4 _ rfl (by rw [e0,if_pos (.inr h5)]) (by decide) (by simp [go_sem])
          · simp only [go_sem,g1,hg,cW,h4,h5]
            have hs1:(List.map cW ws).set i [PV.int .i64 (nth ws i).n,.int .i64 t,.bool false]=List.map cW (ws.set i ⟨(nth ws i).n,t,false⟩):=by rw [ycb]; rfl
            have hs2:(List.map cW (ws.set i ⟨(nth ws i).n,t,false⟩)).set i [PV.int .i64 (nth ws i).n,.int .i64 t,.bool true]=List.map cW (ws.set i ⟨(nth ws i).n,t,true⟩):=by rw [show ([PV.int .i64 (nth ws i).n,.int .i64 t,.bool true]:List PV)=cW ⟨(nth ws i).n,t,true⟩ from rfl,← ycb,List.set_set]
            have hl3:i < (ws.set i ⟨(nth ws i).n,t,false⟩).length:=by rw [ybD]; exact g1
            have hg3:(ws.set i ⟨(nth ws i).n,t,false⟩)[i]? = some ⟨(nth ws i).n,t,false⟩:=by rw [ya9 g1]
            simp only [go_sem,frz,false_or,or_true,hs1,hl3,hg3,cW,hs2,yaY,ya6]
            repeat refine ⟨rfl,?_⟩
            rw [← hset]
            have hu1:upW (zfH ws n t):=by rw [hset]; exact hup _ rfl
            have hl1:(zfH ws n t).length=ws.length:=by rw [hset,ybD]
            have er:zaq ws ds n t=if 30 < (za9 (zfH ws n t) ds).2.length then 2 else 0:=by rw [zaq,if_neg (by rw [e0,if_neg (by simp [h4,h5])]; simp)]
            have eH:zgk a b c ws ds n t=hSv (a + (ws.length - (za9 (zfH ws n t) ds).1.length)) (b + (ws.length - (za9 (zfH ws n t) ds).1.length)) (znz c t) (za9 (zfH ws n t) ds).1 (za9 (zfH ws n t) ds).2:=by rw [zgk,if_neg (by rw [e0,if_neg (by simp [h4,h5])]; simp)]
            refine zc (.scalarE (zdv (zfH ws n t) (by omega)) rfl (by simp [go_sem,zt,pos])) ?_
            simp only [go_sem]
            refine zy [0,9] 3 (fun m st=>∃ (k:Nat) (us:List Wt) (es:List Int),us.length=m∧m + k=ws.length∧upW us∧es.length=ds.length + k∧za9 us es=za9 (zfH ws n t) ds ∧
              st=⟨mkE .top [(0,.ptr 0 0),(9,.int .i64 (zal us))],hSv (a + k) (b + k) (znz c t) us es⟩) ws.length (by simp [hx,hSv]) (by simp) ?_ ?_
            · refine ⟨0,zfH ws n t,ds,hl1,by omega,hu1,by omega,rfl,?_⟩
              simp [zh,go_sem,ze,zf,zn,zp,pos,yaa,hSv,znz]
            · rintro m st ⟨k,us,es,hm,hmk,hus,hes,hsw,rfl⟩
              by_cases hf:0≤zal us
              · have hfl:=zoU hf
                obtain ⟨q,hq⟩:∃ q:Nat,zal us=q:=⟨(zal us).toNat,by omega⟩
                rw [hq,yaB] at hfl
                have hgq:us[q]? = some (nth us q):=zk _ _ hfl
                cases hfin:(nth us q).f
                · have hr:zd6 us=false:=by simp [zd6,hq,hfin]
                  rw [zl9 hr] at hsw
                  simp only [go_sem,hSv,hq,hfl,hgq,cW,hfin]
                  rw [er,eH,← hsw]
                  have hk1:ws.length - us.length=k:=by omega
                  by_cases h30:(30:Int) < (es.length:Int)
                  · have h30':30 < es.length:=by omega
                    simp only [go_sem,h30]
                    rw [if_pos h30',hk1]
                    refine zI [] (by simp) (by simp) (by simp [hx,hSv]) ?_ ?_
                    · simp [go_sem,zxS,zv1,hx,pos]
                    · simp [ze,zf,hx,pos,go_sem,hSv,yaa]
                  · have h30':¬ 30 < es.length:=by omega
                    simp only [go_sem,h30]
                    rw [if_neg h30',hk1]
                    refine zI [] (by simp) (by simp) (by simp [hx,hSv]) ?_ ?_
                    · simp [go_sem,zxS,zv1,hx,pos]
                    · simp [ze,zf,hx,pos,go_sem,hSv,yaa]
                · have hr:zd6 us=true:=by simp [zd6,hq,hfin]
                  rw [zqm hr,hq,yaB] at hsw
                  simp only [go_sem,hSv,hq,hfl,hgq,cW,hfin]
                  rw [Zf rfl rfl (by simp) (by simp; omega)]
                  simp only [go_sem]
                  repeat refine ⟨rfl,?_⟩
                  have wq:=zM (k:=q) (by omega)
                  simp only [go_sem,wq]
                  refine zfo 1 (zpT (us.map cW) (a + k) 106 q (by simpa using hfl)) rfl rfl rfl rfl (by simp [go_sem]) (by simp [go_sem,pos]) rfl ?_
                  rw [zfI]
                  have hle:(us.eraseIdx q).length=us.length - 1:=by rw [ybC,if_pos hfl]
                  have hce:List.map cN es ++ [[PV.int .i64 (nth us q).n]]=(es ++ [(nth us q).n]).map cN:=by simp [cN]
                  simp only [go_sem,hce]
                  refine zc (.scalarE (zdv (us.eraseIdx q) (by omega)) rfl (by simp [go_sem,zt,pos])) ?_
                  simp only [go_sem]
                  refine ⟨by simp,m - 1,by omega,k + 1,us.eraseIdx q,es ++ [(nth us q).n],by omega,by omega,zsB hus q,by simp; omega,hsw,?_⟩
                  simp [zh,go_sem,ze,zf,zn,zp,pos,yaa,hSv,ybc]
              · have hr:zd6 us=false:=by simp [zd6,hf]
                rw [zl9 hr] at hsw
                simp only [go_sem,hSv,hf]
                rw [er,eH,← hsw]
                have hk1:ws.length - us.length=k:=by omega
                by_cases h30:(30:Int) < (es.length:Int)
                · have h30':30 < es.length:=by omega
                  simp only [go_sem,h30]
                  rw [if_pos h30',hk1]
                  refine zI [] (by simp) (by simp) (by simp [hx,hSv]) ?_ ?_
                  · simp [go_sem,zxS,zv1,hx,pos]
                  · simp [ze,zf,hx,pos,go_sem,hSv,yaa]
                · have h30':¬ 30 < es.length:=by omega
                  simp only [go_sem,h30]
                  rw [if_neg h30',hk1]
                  refine zI [] (by simp) (by simp) (by simp [hx,hSv]) ?_ ?_
                  · simp [go_sem,zxS,zv1,hx,pos]
                  · simp [ze,zf,hx,pos,go_sem,hSv,yaa]
        · simp only [go_sem,g1,hg,cW,h4]
          exact stop _ 4 _ rfl (by rw [e0,if_pos (.inl h4)]) (by decide) (by simp [go_sem])
theorem zfJ {c:Int} {ws:List Wt} {ds:List Int} (h:Z9 c ws ds=0):ZI c 0 999=true∧ws.length≤8∧ds.length≤30∧zb9 c ws ws.length=0∧upW ws∧zdw ws ds=0:=by
 unfold Z9 at h
 split at h
 ·
  cases h
 ·
  rename_i h1
  split at h
  ·
   cases h
  ·
   rename_i h2
   split at h
   ·
    rename_i h3; exact (h3 h).elim
   ·
    rename_i h3
    split at h
    ·
     rename_i h4; exact (h4 h).elim
    ·
     rename_i h4
     have h3':zb9 c ws ws.length=0:=by simpa using h3
     exact ⟨by simpa using h1,by omega,by omega,h3',zl8 h3',by simpa using h4⟩
def zgl (c:Int) (ws:List Wt) (ds:List Int) (n:Int):Int:=if Z9 c ws ds≠0 then Z9 c ws ds else Zp c ws ds n
def zdJ (c:Int) (ws:List Wt) (ds:List Int) (n:Int):Int × List Wt × List Int:=if zgl c ws ds n=0 then (c + 1,ws.insertIdx (zel ws n) ⟨n,c + 1,false⟩,ds) else (0,[],[])
def zaI (s:Int × List Wt × List Int):List PV:=cSv s.1 s.2.1 s.2.2
def zgm (c:Int) (ws:List Wt) (ds:List Int) (n t:Int):Int:=if Z9 c ws ds≠0 then Z9 c ws ds else zaq ws ds n t
def zeB (c:Int) (ws:List Wt) (ds:List Int) (n t:Int):Int × List Wt × List Int:=if zgm c ws ds n t=0 then (znz c t,za9 (zfH ws n t) ds) else (0,[],[])
theorem zg0 (c : Int) (ws : List Wt) (ds : List Int) (n : Int) (hwl : ws.length * 24 ≤ 140737488355328) (hdl : ds.length * 8 ≤ 140737488355328) :
    zg prog 40 [.agg (cSv c ws ds),.int .i64 n] [] (.tup [.agg (zaI (zdJ c ws ds n)),.int .i64 (zdJ c ws ds n).1,.int .i64 (zgl c ws ds n)]) []:=by
  refine zg.of_walk func40 ntmps40 zut.1 zut.2 (by simp) fun x hx=>?_
  simp only [go_sem,L40,R40,cSv]
  refine zc (.pureE (zbo c ws ds (by omega) (by omega)) (by simp [go_sem,cSv])) ?_
  simp only [go_sem,cSv]
  refine zc (.heapE [] (r' := .ptr 2 0) (H' := [.box (cSv c ws ds),.box [.int .i64 0,.nilsl,.nilsl],.box [.int .i64 c,.arr 3 1,.arr 4 1],.arr 1 true false 106 3 (ws.map cW),.arr 1 true false 3 1 (ds.map cN)]) (ze7 c ws ds hwl hdl) (by simp) (by simp) (by simp [go_sem,cSv]) rfl rfl rfl) ?_
  by_cases h0:Z9 c ws ds=0
  · obtain ⟨hc,hw8,hd30,-,hu,-⟩:=zfJ h0
    have e0:zgl c ws ds n=Zp c ws ds n:=by rw [zgl,if_neg (by simp [h0])]
    have hp:=zcv 1 1 c ws ds n hu hc hw8 hd30
    simp only [go_sem,h0,cSv]
    by_cases h1:Zp c ws ds n=0
    · rw [if_pos h1,h1] at hp
      have er:zdJ c ws ds n=(c + 1,ws.insertIdx (zel ws n) ⟨n,c + 1,false⟩,ds):=by rw [zdJ,if_pos (by rw [e0,h1])]
      refine zc (.heapE [2,3,4] (r' := .int .i64 0) (H' := [.box (cSv c ws ds),.box [.int .i64 0,.nilsl,.nilsl],.box [.int .i64 (c + 1),.arr 3 2,.arr 4 1],.arr 2 true false 106 3 ((ws.insertIdx (zel ws n) ⟨n,c + 1,false⟩).map cW),.arr 1 true false 3 1 (ds.map cN)]) hp (by simp) (by simp) (by simp [go_sem,pos]) rfl rfl rfl) ?_
      simp only [go_sem,cSv]
      repeat refine ⟨rfl,?_⟩
      refine zN (ZW 3 rfl) ?_
      refine zd hx ?_
      simp [go_sem,L40,R40,er,e0,h1,zaI,cSv,zt,pos]
    · rw [if_neg h1] at hp
      have er:zdJ c ws ds n=(0,[],[]):=by rw [zdJ,if_neg (by rw [e0]; exact h1)]
      refine zc (.heapE [2,3,4] (r' := .int .i64 (Zp c ws ds n)) (H' := [.box (cSv c ws ds),.box [.int .i64 0,.nilsl,.nilsl],.box [.int .i64 c,.arr 3 1,.arr 4 1],.arr 1 true false 106 3 (ws.map cW),.arr 1 true false 3 1 (ds.map cN)]) hp (by simp) (by simp) (by simp [go_sem,pos]) rfl rfl rfl) ?_
      simp only [go_sem,cSv,h1]
      refine zd hx ?_
      simp [go_sem,L40,R40,er,e0,zaI,cSv,zt,pos]
  · have e0:zgl c ws ds n=Z9 c ws ds:=by rw [zgl,if_pos h0]
    have er:zdJ c ws ds n=(0,[],[]):=by rw [zdJ,if_neg (by rw [e0]; exact h0)]
    simp only [go_sem,h0,cSv]
    refine zd hx ?_
    simp [go_sem,L40,R40,er,e0,zaI,cSv,zt,pos]
theorem zh7 (c : Int) (ws : List Wt) (ds : List Int) (n t : Int) (hwl : ws.length * 24 ≤ 140737488355328) (hdl : ds.length * 8 ≤ 140737488355328) :
    zg prog 41 [.agg (cSv c ws ds),.int .i64 n,.int .i64 t] [] (.tup [.agg (zaI (zeB c ws ds n t)),.int .i64 (zgm c ws ds n t)]) []:=by
  refine zg.of_walk func41 ntmps41 zuu.1 zuu.2 (by simp) fun x hx=>?_
  simp only [go_sem,L41,R41,cSv]
  refine zc (.pureE (zbo c ws ds (by omega) (by omega)) (by simp [go_sem,cSv])) ?_
  simp only [go_sem,cSv]
  refine zc (.heapE [] (r' := .ptr 2 0) (H' := [.box (cSv c ws ds),.box [.int .i64 0,.nilsl,.nilsl],.box [.int .i64 c,.arr 3 1,.arr 4 1],.arr 1 true false 106 3 (ws.map cW),.arr 1 true false 3 1 (ds.map cN)]) (ze7 c ws ds hwl hdl) (by simp) (by simp) (by simp [go_sem,cSv]) rfl rfl rfl) ?_
  by_cases h0:Z9 c ws ds=0
  · obtain ⟨hc,hw8,hd30,-,hu,-⟩:=zfJ h0
    have e0:zgm c ws ds n t=zaq ws ds n t:=by rw [zgm,if_neg (by simp [h0])]
    have hp:=zcW 1 1 c ws ds n t hu (by omega) hd30
    simp only [go_sem,h0,cSv]
    by_cases h1:zaq ws ds n t=0
    · have h2:zdF ws n t=0:=by
        rw [zaq] at h1
        split at h1
        · exact h1
        · rename_i h; simpa using h
      have er:zeB c ws ds n t=(znz c t,za9 (zfH ws n t) ds):=by rw [zeB,if_pos (by rw [e0,h1])]
      rw [zgk,if_neg (by simp [h2]),h1] at hp
      generalize ws.length - (za9 (zfH ws n t) ds).1.length=k at hp
      refine zc (.heapE [2,3,4] (r' := .int .i64 0) (H' := [.box (cSv c ws ds),.box [.int .i64 0,.nilsl,.nilsl],.box [.int .i64 (znz c t),.arr 3 (1 + k),.arr 4 (1 + k)],.arr (1 + k) true false 106 3 ((za9 (zfH ws n t) ds).1.map cW),.arr (1 + k) true false 3 1 ((za9 (zfH ws n t) ds).2.map cN)]) hp (by simp) (by simp) (by simp [go_sem,pos]) rfl rfl rfl) ?_
      simp only [go_sem,cSv]
      repeat refine ⟨rfl,?_⟩
      refine zN (ZW 3 rfl) ?_
      refine zd hx ?_
      simp [go_sem,L41,R41,er,e0,h1,zaI,cSv,zt,pos]
    · have er:zeB c ws ds n t=(0,[],[]):=by rw [zeB,if_neg (by rw [e0]; exact h1)]
      have key:∃ (a' b':Nat) (c':Int) (us:List Wt) (es:List Int),zgk 1 1 c ws ds n t=hSv a' b' c' us es:=by
        rw [zgk]; split
        · exact ⟨_,_,_,_,_,rfl⟩
        · exact ⟨_,_,_,_,_,rfl⟩
      obtain ⟨a',b',c',us,es,hk⟩:=key
      rw [hk] at hp
      refine zc (.heapE [2,3,4] (r' := .int .i64 (zaq ws ds n t)) (H' := [.box (cSv c ws ds),.box [.int .i64 0,.nilsl,.nilsl],.box [.int .i64 c',.arr 3 a',.arr 4 b'],.arr a' true false 106 3 (us.map cW),.arr b' true false 3 1 (es.map cN)]) hp (by simp) (by simp) (by simp [go_sem,pos]) rfl rfl rfl) ?_
      simp only [go_sem,cSv,h1]
      refine zd hx ?_
      simp [go_sem,L41,R41,er,e0,zaI,cSv,zt,pos]
  · have e0:zgm c ws ds n t=Z9 c ws ds:=by rw [zgm,if_pos h0]
    have er:zeB c ws ds n t=(0,[],[]):=by rw [zeB,if_neg (by rw [e0]; exact h0)]
    simp only [go_sem,h0,cSv]
    refine zd hx ?_
    simp [go_sem,L41,R41,er,e0,zaI,cSv,zt,pos]
def zaY (c:Chain):List PV := [.int .i64 c.ep,.bool c.se,.int .i64 c.cut,.oll (c.cs.map cC)]
theorem zdf (c:Chain) (hb:c.cs.length≤140737488355328):zg prog 90 [.agg (zaY c)] [] (.int .i64 (zK c)) []:=(Zw c hb).freshS rfl rfl
theorem zg1 (c:Chain) (hb:c.cs.length≤140737488355328):zg prog 47 [.agg (zaY c),.agg (zaY c)] [] (.bool true) []:=by
 have h:=(zh3 c c hb).freshS (args' := [.agg (zaY c),.agg (zaY c)]) rfl rfl
 simpa using h
theorem zgn (l:List Cell) (hb:l.length≤1000000):zg prog 195 [.oll (l.map cC)] [] (.arr 0 1) [.arr 1 true false 104 3 (l.map cC)] :=
 (zdE l hb).freshH rfl (by simp [zl5,cC,zaw]) rfl
theorem zgJ (c:Chain) (hb:c.cs.length≤1000000):zg prog 119 [.agg (zaY c)] [] (.ptr 0 0) [.box [.int .i64 c.ep,.bool c.se,.int .i64 c.cut,.arr 1 1],.arr 1 true false 104 3 (c.cs.map cC)]:=by
 refine zg.of_walk func119 ntmps119 zox.1 zox.2 (by simp) fun x hx=>?_
 simp only [go_sem,zAH,zAI,zaY,cCh]
 refine zc (.heapE [] (r' := .arr 1 1) (H' := [.box (zaY c),.arr 1 true false 104 3 (c.cs.map cC)]) (zgn c.cs hb) (by simp) (by simp) rfl rfl rfl rfl) ?_
 simp only [go_sem,zaY,cCh]
 refine zI [2,1] (by simp) (by simp [hx]) (by simp [hx]) ?_ ?_
 ·
  simp [go_sem,zAH,zAI,hx,pos]
 ·
  simp [ze,zf,hx,pos,go_sem]
theorem zma (c : Chain) (ep a : Int) (x0 : Cell) (g : Nat) (fr : Cell → Bool) (hg : ZU prog g = true) (hfr : ∀ c, zg prog g [.agg (cC c)] [] (.bool (fr c)) []) (hb : c.cs.length ≤ 140737488355328) :
    zg prog 116 [.agg (zaY c),.int .i64 ep,.int .i64 a,.agg (cC x0),.clo g []] [] (ZF (zaN c ep a x0 fr)) []:=by
  refine zg.of_walk func116 ntmps116 zow.1 zow.2 (by simp) fun x hx=>?_
  simp only [go_sem,zkc,zkd,zaY,cCh,cC]
  refine zc (.pure (zdf c hb)) ?_
  have bad:ZK c ep a x0≠0→zaN c ep a x0 fr=(zCh,ZK c ep a x0):=fun h=>by simp [zaN,h]
  by_cases h1:zK c=0
  · simp only [go_sem,h1]
    refine zc (.pure (zap _ _ _)) ?_
    cases h2:ZI a 0 29
    · simp only [go_sem]
      refine zN (zX 2 3 0 104 3 true false rfl rfl (by omega)) ?_
      refine zd hx ?_
      have he:ZK c ep a x0=3:=by simp [ZK,h1,h2]
      rw [bad (by rw [he]; decide),he]
      simp [go_sem,zkc,zkd,ZF,zCh,zaY,cCh,zt,pos]
    by_cases h3:12 < x0.tx.size
    · have h3':decide ((12:Int) < (x0.tx.size:Nat))=true:=by simp; omega
      simp only [go_sem,h3']
      refine zN (zX 2 3 0 104 3 true false rfl rfl (by omega)) ?_
      refine zd hx ?_
      have he:ZK c ep a x0=2:=by simp [ZK,h1,h2,h3]
      rw [bad (by rw [he]; decide),he]
      simp [go_sem,zkc,zkd,ZF,zCh,zaY,cCh,zt,pos]
    have h3':decide ((12:Int) < (x0.tx.size:Nat))=false:=by simp; omega
    by_cases h4:ep=c.ep
    · cases h5:c.se
      · by_cases h6:a < c.cut
        · simp only [go_sem,h3',h4,h5,h6]
          refine zN (zX 2 3 0 104 3 true false rfl rfl (by omega)) ?_
          refine zd hx ?_
          have he:ZK c ep a x0=6:=by simp [ZK,h1,h2,h3,h4,h5,h6]
          rw [← h4,bad (by rw [he]; decide),he]
          simp [go_sem,zkc,zkd,ZF,zCh,zaY,cCh,zt,pos]
        · have h0:ZK c ep a x0=0:=by simp [ZK,h1,h2,h3,h4,h5,h6]
          obtain ⟨-,-,b1,b2,b3,-,-⟩:=zak h1
          have b4:=zY.1 h2
          obtain ⟨k,hk⟩:=yb4 (show 0≤a - c.cut by omega)
          have ha:a=c.cut + ((k + 1:Nat):Int) - 1:=by omega
          simp only [go_sem,h3',h4,h5,h6]
          refine zc (.heapE [] (r' := .ptr 3 0) (H' := [.box (zaY c),.box (cC x0),.box [.int .i64 0,.bool false,.int .i64 0,.nilsl],.box [.int .i64 c.ep,.bool c.se,.int .i64 c.cut,.arr 4 1],.arr 1 true false 104 3 (c.cs.map cC)])
            (zgJ c (by omega)) (by simp) (by simp) (by simp [go_sem,zaY,cCh,h5]) rfl rfl (by simp [ZN,zS,zT,ZV,Zh,zf,pos,go_sem,yaa,zaY,cCh,cC,h5])) ?_
          simp only [go_sem,ha]
          refine zc (.heapE [3,4] (r' := .aptr 4 (1 + (k + 1 - c.cs.length)) 3 k 0) (H' := [.box (zaY c),.box (cC x0),.box [.int .i64 0,.bool false,.int .i64 0,.nilsl],.box [.int .i64 c.ep,.bool c.se,.int .i64 c.cut,.arr 4 (1 + (k + 1 - c.cs.length))],.arr (1 + (k + 1 - c.cs.length)) true false 104 3 ((zjE c.cs (k + 1)).map cC)])
            (zoR c 1 (k + 1) (by omega) (by omega) (by omega) (by omega)) (by simp) (by simp) (by simp [go_sem,pos]) (by simp [ze,zf,go_sem,pos]) (by simp [go_sem,ZV,Zh]) (by simp [ZN,zS,zT,ZV,Zh,zf,pos,go_sem,yaa,zaY,cCh,cC,h5])) ?_
          have hpl:k < (zjE c.cs (k + 1)).length:=by simp [zjE]; omega
          have hget:(zjE c.cs (k + 1))[k]? = some (nth (zjE c.cs (k + 1)) k):=zk _ _ hpl
          simp only [go_sem,hget,cC]
          refine Zm rfl hg (.pure (hfr (nth (zjE c.cs (k + 1)) k))) ?_
          have hgt:(a - c.cut).toNat=k:=by omega
          cases hfc:fr (nth (zjE c.cs (k + 1)) k)
          · simp only [go_sem]
            refine zN (zX 2 3 0 104 3 true false rfl rfl (by omega)) ?_
            refine zd hx ?_
            have he:zaN c ep a x0 fr=(zCh,6):=by simp only [zaN,h0,hgt,hfc]; simp
            rw [← ha,← h4,he]
            simp [go_sem,zkc,zkd,ZF,zCh,zaY,cCh,zt,pos]
          · simp only [go_sem,hget,cC,frz,or_true]
            refine zd hx ?_
            have he:zaN c ep a x0 fr=({ c with cs:=(zjE c.cs (k + 1)).set k x0 },0):=by simp only [zaN,h0,hgt,hfc]; simp
            rw [← ha,← h4,he]
            simp [go_sem,zkc,zkd,ZF,zaY,cCh,zt,pos,cC,ycb,h4]
      · simp only [go_sem,h3',h4,h5]
        refine zN (zX 2 3 0 104 3 true false rfl rfl (by omega)) ?_
        refine zd hx ?_
        have he:ZK c ep a x0=4:=by simp [ZK,h1,h2,h3,h5]
        rw [← h4,bad (by rw [he]; decide),he]
        simp [go_sem,zkc,zkd,ZF,zCh,zaY,cCh,zt,pos]
    · have h4':¬ ep=c.ep:=h4
      simp only [go_sem,h3',h4']
      refine zN (zX 2 3 0 104 3 true false rfl rfl (by omega)) ?_
      refine zd hx ?_
      have he:ZK c ep a x0=4:=by simp [ZK,h1,h2,h3,h4]
      rw [bad (by rw [he]; decide),he]
      simp [go_sem,zkc,zkd,ZF,zCh,zaY,cCh,zt,pos]
  · simp only [go_sem,h1]
    refine zN (zX 2 3 0 104 3 true false rfl rfl (by omega)) ?_
    refine zd hx ?_
    have he:ZK c ep a x0=zK c:=by simp [ZK,h1]
    rw [bad (by rw [he]; exact h1),he]
    simp [go_sem,zkc,zkd,ZF,zCh,zaY,cCh,zt,pos]
theorem ziX (c : Chain) (ep a : Int) (t : ByteArray) (hb : c.cs.length ≤ 140737488355328) :
    zg prog 38 [.agg (zaY c),.int .i64 ep,.int .i64 a,.str t] [] (ZF (zaN c ep a ⟨true,false,t⟩ ziW)) []:=by
  refine zg.of_walk func38 ntmps38 zur.1 zur.2 (by simp) fun x hx=>?_
  simp only [go_sem,L38,R38,zaY,cCh]
  refine zc (.pure (zma c ep a ⟨true,false,t⟩ _ ziW (by kernel_rfl) zh0 hb)) ?_
  simp only [go_sem,ZF,zaY,cCh]
  refine zd hx ?_
  simp [go_sem,L38,R38]
theorem zkz (c:Chain) (tt:Int) (hb:c.cs.length≤140737488355328):zg prog 39 [.agg (zaY c),.int .i64 tt] [] (ZF (zbn c tt)) []:=by
 refine zg.of_walk func39 ntmps39 zus.1 zus.2 (by simp) fun x hx=>?_
 simp only [go_sem,L39,R39,zaY,cCh]
 refine zc (.pure (zdf c hb)) ?_
 by_cases h1:zK c=0
 ·
  obtain ⟨b5,b6,b1,b2,b3,-,-⟩:=zak h1
  simp only [go_sem,h1]
  refine zc (.pure (zap _ _ _)) ?_
  cases h2:ZI tt 0 30
  ·
   simp only [go_sem]
   refine zN (zX 1 3 0 104 3 true false rfl rfl (by omega)) ?_
   refine zd hx ?_
   simp [go_sem,L39,R39,ZF,zCh,zaY,cCh,zt,pos,zbn,h1,h2]
  have b4:=zY.1 h2
  simp only [go_sem]
  refine zc (.heapE [] (r' := .ptr 2 0) (H' := [.box (zaY c),.box [.int .i64 0,.bool false,.int .i64 0,.nilsl],.box [.int .i64 c.ep,.bool c.se,.int .i64 c.cut,.arr 3 1],.arr 1 false false 104 3 (c.cs.map cC)])
   ((zgJ c (by omega)).shut (id:=1) rfl) (by simp) (by simp) (by simp [go_sem,zaY,cCh]) rfl rfl (by simp [ZN,zS,zT,ZV,Zh,zf,pos,go_sem,yaa,zaY,cCh])) ?_
  by_cases h3:c.cut < tt
  ·
   have hw:IntKind.i64.wrap (tt - c.cut)=tt - c.cut:=ziV (by omega) (by omega)
   by_cases h4:(c.cs.length:Int) < tt - c.cut
   ·
    have hd:c.cs.drop (tt - c.cut).toNat = []:=ya2 (by omega)
    simp only [go_sem,h3,hw,h4,Int.sub_self]
    refine zd hx ?_
    simp [go_sem,L39,R39,ZF,zaY,cCh,zt,pos,zbn,h1,h2,znw,h3,hd]
   ·
    have hc1:(0≤tt - c.cut∧tt - c.cut≤(c.cs.length:Int)):=by omega
    have hmin:((c.cs.length:Int) < tt - c.cut)=False:=by simp; omega
    simp only [go_sem,h3,hw,hmin,hc1.1,hc1.2]
    refine zd hx ?_
    have hk:((c.cs.length:Int) - (tt - c.cut)).toNat=c.cs.length - (tt - c.cut).toNat:=by omega
    have ht:(c.cs.drop (tt - c.cut).toNat).take (c.cs.length - (tt - c.cut).toNat)=c.cs.drop (tt - c.cut).toNat:=yan (by simp)
    simp [go_sem,L39,R39,ZF,zaY,cCh,zt,pos,zbn,h1,h2,znw,h3,hk,← List.map_drop,← List.map_take,ht]
  ·
   simp only [go_sem,h3]
   refine zd hx ?_
   simp [go_sem,L39,R39,ZF,zaY,cCh,zt,pos,zbn,h1,h2,znw,h3]
 ·
  simp only [go_sem,h1]
  refine zN (zX 1 3 0 104 3 true false rfl rfl (by omega)) ?_
  refine zd hx ?_
  simp [go_sem,L39,R39,ZF,zCh,zaY,cCh,zt,pos,zbn,h1]
def zaZ (c:Int) (ws:List Wt) (ds:List Int):List PV := [.int .i64 c,.oll (ws.map cW),.oll (ds.map cN)]
theorem zeJ (c:Int) (ws:List Wt) (ds:List Int) (hwl:ws.length≤9223372036854775806) (hdl:ds.length≤9223372036854775806):zg prog 92 [.agg (zaZ c ws ds)] [] (.int .i64 (Z9 c ws ds)) []:=(zbo c ws ds hwl hdl).freshS rfl rfl
theorem zgo (c:Int) (ws:List Wt) (ds:List Int) (hwl:ws.length≤9223372036854775806) (hdl:ds.length≤9223372036854775806):zg prog 48 [.agg (zaZ c ws ds),.agg (zaZ c ws ds)] [] (.bool true) []:=(zgZ c ws ds hwl hdl).freshS rfl rfl
theorem zkA (ws:List Wt) (hb:ws.length * 24≤140737488355328):zg prog 196 [.oll (ws.map cW)] [] (.arr 0 1) [.arr 1 true false 106 3 (ws.map cW)] :=
 (zgH (ws.map cW) (zxc _) (by simp; omega)).freshH rfl (by simp [zl5,cW,zaw]) rfl
theorem zkB (ds:List Int) (hb:ds.length * 8≤140737488355328):zg prog 197 [.oll (ds.map cN)] [] (.arr 0 1) [.arr 1 true false 3 1 (ds.map cN)] :=
 (zgI (ds.map cN) (zsy _) (by simp; omega)).freshH rfl (by simp [zl5,cN,zaw]) rfl
theorem zgK (c:Int) (ws:List Wt) (ds:List Int) (hwl:ws.length * 24≤140737488355328) (hdl:ds.length * 8≤140737488355328):zg prog 120 [.agg (zaZ c ws ds)] [] (.ptr 0 0) (hSv 1 1 c ws ds):=by
 refine zg.of_walk func120 ntmps120 zoy.1 zoy.2 (by simp) fun x hx=>?_
 simp only [go_sem,zAJ,zAK,zaZ,cSv]
 refine zc5 (r := .arr 1 1) (zkA ws hwl) rfl rfl (by simp [go_sem]) rfl ?_
 simp only [go_sem,zaZ,cSv]
 refine zc5 (r := .arr 2 1) (zkB ds hdl) rfl rfl (by simp [go_sem]) rfl ?_
 simp only [go_sem,zaZ,cSv]
 repeat refine ⟨rfl,?_⟩
 refine zI [3,1,2] (by simp) (by simp [hx]) (by simp [hx]) ?_ ?_
 ·
  simp [go_sem,zAJ,zAK,hx,pos]
 ·
  simp [ze,zf,hx,pos,go_sem,hSv]
theorem zg2 (c : Int) (ws : List Wt) (ds : List Int) (n : Int) (hwl : ws.length * 24 ≤ 140737488355328) (hdl : ds.length * 8 ≤ 140737488355328) :
    zg prog 40 [.agg (zaZ c ws ds),.int .i64 n] [] (.tup [.agg (zaI (zdJ c ws ds n)),.int .i64 (zdJ c ws ds n).1,.int .i64 (zgl c ws ds n)]) []:=by
  refine zg.of_walk func40 ntmps40 zut.1 zut.2 (by simp) fun x hx=>?_
  simp only [go_sem,L40,R40,zaZ,cSv]
  refine zc (.pureE (zeJ c ws ds (by omega) (by omega)) (by simp [go_sem,zaZ,cSv])) ?_
  simp only [go_sem,zaZ,cSv]
  refine zc (.heapE [] (r' := .ptr 2 0) (H' := [.box (zaZ c ws ds),.box [.int .i64 0,.nilsl,.nilsl],.box [.int .i64 c,.arr 3 1,.arr 4 1],.arr 1 true false 106 3 (ws.map cW),.arr 1 true false 3 1 (ds.map cN)]) (zgK c ws ds hwl hdl) (by simp) (by simp) (by simp [go_sem,zaZ,cSv]) rfl rfl rfl) ?_
  by_cases h0:Z9 c ws ds=0
  · obtain ⟨hc,hw8,hd30,-,hu,-⟩:=zfJ h0
    have e0:zgl c ws ds n=Zp c ws ds n:=by rw [zgl,if_neg (by simp [h0])]
    have hp:=zcv 1 1 c ws ds n hu hc hw8 hd30
    simp only [go_sem,h0,zaZ,cSv]
    by_cases h1:Zp c ws ds n=0
    · rw [if_pos h1,h1] at hp
      have er:zdJ c ws ds n=(c + 1,ws.insertIdx (zel ws n) ⟨n,c + 1,false⟩,ds):=by rw [zdJ,if_pos (by rw [e0,h1])]
      refine zc (.heapE [2,3,4] (r' := .int .i64 0) (H' := [.box (zaZ c ws ds),.box [.int .i64 0,.nilsl,.nilsl],.box [.int .i64 (c + 1),.arr 3 2,.arr 4 1],.arr 2 true false 106 3 ((ws.insertIdx (zel ws n) ⟨n,c + 1,false⟩).map cW),.arr 1 true false 3 1 (ds.map cN)]) hp (by simp) (by simp) (by simp [go_sem,pos]) rfl rfl rfl) ?_
      simp only [go_sem,zaZ,cSv]
      repeat refine ⟨rfl,?_⟩
      refine zN (ZW 3 rfl) ?_
      refine zd hx ?_
      simp [go_sem,L40,R40,er,e0,h1,zaI,zaZ,cSv,zt,pos]
    · rw [if_neg h1] at hp
      have er:zdJ c ws ds n=(0,[],[]):=by rw [zdJ,if_neg (by rw [e0]; exact h1)]
      refine zc (.heapE [2,3,4] (r' := .int .i64 (Zp c ws ds n)) (H' := [.box (zaZ c ws ds),.box [.int .i64 0,.nilsl,.nilsl],.box [.int .i64 c,.arr 3 1,.arr 4 1],.arr 1 true false 106 3 (ws.map cW),.arr 1 true false 3 1 (ds.map cN)]) hp (by simp) (by simp) (by simp [go_sem,pos]) rfl rfl rfl) ?_
      simp only [go_sem,zaZ,cSv,h1]
      refine zd hx ?_
      simp [go_sem,L40,R40,er,e0,zaI,zaZ,cSv,zt,pos]
  · have e0:zgl c ws ds n=Z9 c ws ds:=by rw [zgl,if_pos h0]
    have er:zdJ c ws ds n=(0,[],[]):=by rw [zdJ,if_neg (by rw [e0]; exact h0)]
    simp only [go_sem,h0,zaZ,cSv]
    refine zd hx ?_
    simp [go_sem,L40,R40,er,e0,zaI,zaZ,cSv,zt,pos]
theorem zh8 (c : Int) (ws : List Wt) (ds : List Int) (n t : Int) (hwl : ws.length * 24 ≤ 140737488355328) (hdl : ds.length * 8 ≤ 140737488355328) :
    zg prog 41 [.agg (zaZ c ws ds),.int .i64 n,.int .i64 t] [] (.tup [.agg (zaI (zeB c ws ds n t)),.int .i64 (zgm c ws ds n t)]) []:=by
  refine zg.of_walk func41 ntmps41 zuu.1 zuu.2 (by simp) fun x hx=>?_
  simp only [go_sem,L41,R41,zaZ,cSv]
  refine zc (.pureE (zeJ c ws ds (by omega) (by omega)) (by simp [go_sem,zaZ,cSv])) ?_
  simp only [go_sem,zaZ,cSv]
  refine zc (.heapE [] (r' := .ptr 2 0) (H' := [.box (zaZ c ws ds),.box [.int .i64 0,.nilsl,.nilsl],.box [.int .i64 c,.arr 3 1,.arr 4 1],.arr 1 true false 106 3 (ws.map cW),.arr 1 true false 3 1 (ds.map cN)]) (zgK c ws ds hwl hdl) (by simp) (by simp) (by simp [go_sem,zaZ,cSv]) rfl rfl rfl) ?_
  by_cases h0:Z9 c ws ds=0
  · obtain ⟨hc,hw8,hd30,-,hu,-⟩:=zfJ h0
    have e0:zgm c ws ds n t=zaq ws ds n t:=by rw [zgm,if_neg (by simp [h0])]
    have hp:=zcW 1 1 c ws ds n t hu (by omega) hd30
    simp only [go_sem,h0,zaZ,cSv]
    by_cases h1:zaq ws ds n t=0
    · have h2:zdF ws n t=0:=by
        rw [zaq] at h1
        split at h1
        · exact h1
        · rename_i h; simpa using h
      have er:zeB c ws ds n t=(znz c t,za9 (zfH ws n t) ds):=by rw [zeB,if_pos (by rw [e0,h1])]
      rw [zgk,if_neg (by simp [h2]),h1] at hp
      generalize ws.length - (za9 (zfH ws n t) ds).1.length=k at hp
      refine zc (.heapE [2,3,4] (r' := .int .i64 0) (H' := [.box (zaZ c ws ds),.box [.int .i64 0,.nilsl,.nilsl],.box [.int .i64 (znz c t),.arr 3 (1 + k),.arr 4 (1 + k)],.arr (1 + k) true false 106 3 ((za9 (zfH ws n t) ds).1.map cW),.arr (1 + k) true false 3 1 ((za9 (zfH ws n t) ds).2.map cN)]) hp (by simp) (by simp) (by simp [go_sem,pos]) rfl rfl rfl) ?_
      simp only [go_sem,zaZ,cSv]
      repeat refine ⟨rfl,?_⟩
      refine zN (ZW 3 rfl) ?_
      refine zd hx ?_
      simp [go_sem,L41,R41,er,e0,h1,zaI,zaZ,cSv,zt,pos]
    · have er:zeB c ws ds n t=(0,[],[]):=by rw [zeB,if_neg (by rw [e0]; exact h1)]
      have key:∃ (a' b':Nat) (c':Int) (us:List Wt) (es:List Int),zgk 1 1 c ws ds n t=hSv a' b' c' us es:=by
        rw [zgk]; split
        · exact ⟨_,_,_,_,_,rfl⟩
        · exact ⟨_,_,_,_,_,rfl⟩
      obtain ⟨a',b',c',us,es,hk⟩:=key
      rw [hk] at hp
      refine zc (.heapE [2,3,4] (r' := .int .i64 (zaq ws ds n t)) (H' := [.box (zaZ c ws ds),.box [.int .i64 0,.nilsl,.nilsl],.box [.int .i64 c',.arr 3 a',.arr 4 b'],.arr a' true false 106 3 (us.map cW),.arr b' true false 3 1 (es.map cN)]) hp (by simp) (by simp) (by simp [go_sem,pos]) rfl rfl rfl) ?_
      simp only [go_sem,zaZ,cSv,h1]
      refine zd hx ?_
      simp [go_sem,L41,R41,er,e0,zaI,zaZ,cSv,zt,pos]
  · have e0:zgm c ws ds n t=Z9 c ws ds:=by rw [zgm,if_pos h0]
    have er:zeB c ws ds n t=(0,[],[]):=by rw [zeB,if_neg (by rw [e0]; exact h0)]
    simp only [go_sem,h0,zaZ,cSv]
    refine zd hx ?_
    simp [go_sem,L41,R41,er,e0,zaI,zaZ,cSv,zt,pos]
theorem zbp (l:List Entry) (hm:l.length≤9223372036854775806):zg prog 75 [.oll (l.map cE)] [] (.int .i64 (zJ l)) []:=(ZD l hm).freshS rfl rfl
theorem zqn (l : List Entry) (ps : List (List Id)) (x : Id) (v T : Nat) (hl : l.length ≤ 9223372036854775806) (h0 : 0 ≤ zG l x) (h1 : zG l x < ps.length) :
    zg prog 107 [.ptr 0 0,.agg (cId x)] [.box [.oll (l.map cE),.arr 1 v],.arr v false false T 1 (zaa ps)] (.list ((z8 ps l x).map cId)) [.box [.oll (l.map cE),.arr 1 v],.arr v false false T 1 (zaa ps)]:=by
  have hg:ps[(zG l x).toNat]? = some (z8 ps l x):=zk _ _ (by omega)
  refine zg.of_walk func107 ntmps107 zgA.1 zgA.2 (by simp) fun xx hx=>?_
  simp only [go_sem,zuw,zux,cId,zaa]
  refine zc (.pureE (ze5 l x hl) (by simp [go_sem,cId])) ?_
  simp only [go_sem,h0,h1,hg]
  refine zI [] (by simp) (by simp) (by simp [hx]) ?_ ?_
  · simp [go_sem,zuw,zux,hx,pos,yaa]
  · simp [ze,zf,hx,go_sem,pos,yaa]
theorem zqo (l : List Entry) (ps : List (List Id)) (x : Id) (hl : l.length ≤ 9223372036854775806) (h0 : 0 ≤ zG l x) (h1 : zG l x < ps.length) :
    zg prog 107 [.ptr 0 0,.agg (cId x)] [.box [.oll (l.map cE),.list (zaa ps)]] (.list ((z8 ps l x).map cId)) [.box [.oll (l.map cE),.list (zaa ps)]]:=by
  have hg:ps[(zG l x).toNat]? = some (z8 ps l x):=zk _ _ (by omega)
  refine zg.of_walk func107 ntmps107 zgA.1 zgA.2 (by simp) fun xx hx=>?_
  simp only [go_sem,zuw,zux,cId,zaa]
  refine zc (.pureE (ze5 l x hl) (by simp [go_sem,cId])) ?_
  simp only [go_sem,h0,h1,hg]
  refine zI [] (by simp) (by simp) (by simp [hx]) ?_ ?_
  · simp [go_sem,zuw,zux,hx,pos,yaa]
  · simp [ze,zf,hx,go_sem,pos,yaa]
theorem zkC (l:List Entry) (h:LogOk l):zg prog 106 [.oll (l.map cE)] [] (.ptr 0 0) [.box [.oll (l.map cE),.list (zaa (zQ l))]]:=by
 have hm:=h.len
 refine zg.of_walk func106 ntmps106 zos.1 zos.2 (by simp) fun x hx=>?_
 simp only [go_sem,zAz,zAA]
 refine zaM (zX 0 1 0 30 1 false false rfl rfl (by omega)) ?_
 refine zy [3,12,13,14] 2 (fun n st=>∃ k:Nat,k + n=l.length ∧
  st=⟨mkE .top [(3,.ptr 0 0),(12,.oll (l.map cE)),(13,.int .i64 l.length),(14,.int .i64 k)],[.box [.oll (l.map cE),.arr 1 k],.arr k false false 30 1 (zaa (zW l k))]⟩) l.length (by simp [hx]) (by simp) ?_ ?_
 ·
  refine ⟨0,by omega,?_⟩
  simp [zh,go_sem,ze,zf,pos,yaa,zW,zaa]
 ·
  rintro n st ⟨k,hk,rfl⟩
  by_cases hlt:k < l.length
  ·
   have hg:l[k]? = some (nth l k):=zk _ _ hlt
   have wk:=zM (k:=k) (by omega)
   have hls:=h.links hlt
   simp only [go_sem,hlt,hg,cE]
   refine zaM (ZR 6 0 29 2 true false rfl (by omega)) ?_
   refine zy [3,6,12,13,14,19,20,21] 4 (fun n st=>∃ j:Nat,j + n=(nth l k).ls.length ∧
    st=⟨mkE .top [(3,.ptr 0 0),(6,.arr 3 (2 * j)),(12,.oll (l.map cE)),(13,.int .i64 l.length),(14,.int .i64 k),(19,.oll ((nth l k).ls.map cId)),(20,.int .i64 (nth l k).ls.length),(21,.int .i64 j)],
     [.box [.oll (l.map cE),.arr 1 k],.arr k false false 30 1 (zaa (zW l k)),.box (cEo (nth l k)),.arr (2 * j) true false 29 2 ((zb8 (zW l k) l ((nth l k).ls.take j)).map cId)]⟩) (nth l k).ls.length (by simp [hx]) (by simp [St.put]) ?_ ?_
   ·
    refine ⟨0,by omega,?_⟩
    simp [zh,go_sem,ze,zf,pos,yaa,cEo,zb8]
   ·
    rintro n2 st ⟨j,hj,rfl⟩
    by_cases hlj:j < (nth l k).ls.length
    ·
     have hgj:(nth l k).ls[j]? = some (nth (nth l k).ls j):=zk _ _ hlj
     have wj:=zM (k:=j) (by omega)
     have hmem:nth (nth l k).ls j ∈ (nth l k).ls:=by rw [zv _ _ hlj]; exact yaw hlj
     obtain ⟨f1,f2⟩:=h.link_lt hlt hmem
     simp only [go_sem,hlj,hgj,cId]
     have b1:=zdY h hlt j (by omega)
     have b2:=za5 h (k:=(zG l (nth (nth l k).ls j)).toNat) (by omega)
     rw [← zhH (k:=k) (by omega) f1 f2] at b2
     rw [Zf rfl rfl (by simp) (by simp; omega)]
     simp only [go_sem]
     refine zc (.heapE [0,1] (r' := .list ((z8 (zW l k) l (nth (nth l k).ls j)).map cId)) (H' := [.box [.oll (l.map cE),.arr 1 k],.arr k false false 30 1 (zaa (zW l k)),.box (cEo (nth l k)),.arr (2 * j + 1) true false 29 2 ((zb8 (zW l k) l ((nth l k).ls.take j)).map cId ++ [cId (nth (nth l k).ls j)]),.box (cId (nth (nth l k).ls j))]) (zqn l (zW l k) (nth (nth l k).ls j) k 30 (by omega) f1 (by simp; omega))
      (by simp) (by simp) (by simp [go_sem,pos,cId]) (by simp [ze,zf,go_sem,pos]) rfl (by simp [ZN,zS,zT,zf,pos,go_sem,yaa,ZV,Zh,cEo,cId])) ?_
     simp only [go_sem]
     rw [Zf rfl rfl (by simp [cId]) (by simp; omega)]
     simp only [go_sem,wj]
     refine ⟨rfl,?_⟩
     refine ⟨by simp,n2 - 1,by omega,j + 1,by omega,?_⟩
     simp [zh,go_sem,ze,zf,pos,yaa,cEo,zge hlj,show 2 * (j + 1)=2 * j + 1 + 1 by omega]
    ·
     have htl:(nth l k).ls.take j=(nth l k).ls:=yan (by omega)
     have b1:=zdY h hlt j (by omega)
     rw [htl] at b1
     simp only [go_sem,hlj,htl]
     have hso:=zb7 (zb8 (zW l k) l (nth l k).ls) (2 * j) 29 (by omega)
     refine zc (.heapE [3] (r' := .tup []) (H' := [.box [.oll (l.map cE),.arr 1 k],.arr k false false 30 1 (zaa (zW l k)),.box (cEo (nth l k)),.arr (2 * j) true false 29 2 ((zb6 (zb8 (zW l k) l (nth l k).ls)).map cId)]) hso
      (by simp) (by simp) (by simp [go_sem,pos]) (by simp [ze,zf,go_sem,pos]) rfl (by simp [ZN,zS,zT,zf,pos,go_sem,yaa,ZV,Zh,cEo])) ?_
     simp only [go_sem]
     have hco:=zdD (zb6 (zb8 (zW l k) l (nth l k).ls)) (2 * j) 29 (by rw [zdX]; omega)
     refine zfo 3 hco rfl rfl rfl rfl (by simp [go_sem]) (by simp [go_sem,pos]) rfl ?_
     simp only [go_sem]
     rw [Zf rfl rfl (by simp) (by simp [zaa]; omega)]
     simp only [go_sem,wk]
     refine ⟨rfl,rfl,rfl,?_⟩
     refine ⟨by simp,n - 1,by omega,k + 1,by omega,?_⟩
     simp [zh,go_sem,ze,zf,pos,yaa,cEo,zaa,zW,zyf]
  ·
   have hke:k=l.length:=by omega
   subst hke
   simp only [go_sem,ybO]
   refine zI [0] (by simp) (by simp [hx]) (by simp [hx]) ?_ ?_
   ·
    simp [go_sem,zAz,zAA,hx,pos]
   ·
    simp [ze,zf,hx,go_sem,pos,zQ,zt]
theorem ziY (l:List Entry) (y:Id) (hl:l.length≤9223372036854775806):zg prog 33 [.oll (l.map cE),.agg (cId y)] [] (.tup [.list ((zcu l y).map cId),.int .i64 (zbS l y)]) []:=by
 refine zg.of_walk func33 ntmps33 zun.1 zun.2 (by simp) fun x hx=>?_
 simp only [go_sem,L33,R33,cId]
 refine zc (.pureE (zbp l hl) (by simp [go_sem])) ?_
 by_cases h0:zJ l=0
 ·
  have hok:=zaE.1 h0
  simp only [go_sem,h0]
  refine zc (.pureE (ze5 l y hl) (by simp [go_sem,cId])) ?_
  by_cases h1:zG l y < 0
  ·
   simp only [go_sem,h1]
   refine zd hx ?_
   simp [go_sem,L33,R33,zbS,zcu,h0,h1]
  ·
   obtain ⟨k,f1,f2,f3⟩:=z7 (show 0≤zG l y by omega)
   simp only [go_sem,h1]
   refine zc5 (r := .ptr 1 0) (zkC l hok) rfl rfl (by simp [go_sem]) rfl ?_
   simp only [go_sem]
   refine zc (.heapE [1] (r' := .list ((z8 (zQ l) l y).map cId)) (H' := [.box (cId y),.box [.oll (l.map cE),.list (zaa (zQ l))]]) (zqo l (zQ l) y (by omega) (by omega) (by simp [zQ]; omega))
    (by simp) (by simp) (by simp [go_sem,pos,cId]) (by simp [ze,zf,go_sem,pos]) (by simp [zdA,ren,zn,zp]) (by simp [ZN,zS,zT,zf,pos,go_sem,yaa,ZV,Zh,cId])) ?_
   simp only [go_sem]
   repeat refine ⟨rfl,?_⟩
   refine zd hx ?_
   simp [go_sem,L33,R33,zbS,zcu,h0,h1,Z7]
 ·
  simp only [go_sem,h0]
  refine zd hx ?_
  simp [go_sem,L33,R33,zbS,zcu,h0]
theorem zh9 (l:List Entry) (c:Int) (hl:l.length≤9223372036854775806):zg prog 32 [.oll (l.map cE),.int .i64 c] [] (.tup [.list ((zbl l c).map cId),.int .i64 (zaX l c)]) []:=by
 refine zg.of_walk func32 ntmps32 zum.1 zum.2 (by simp) fun x hx=>?_
 simp only [go_sem,L32,R32]
 refine zc (.pureE (zbp l hl) (by simp [go_sem])) ?_
 by_cases h0:zJ l=0
 ·
  have hok:=zaE.1 h0
  simp only [go_sem,h0]
  refine zc (.pureE (zaB c) (by simp [go_sem])) ?_
  cases h1:ZI c 1 7
  ·
   simp only [go_sem]
   refine zd hx ?_
   simp [go_sem,L32,R32,zaX,zbl,h0,h1]
  ·
   simp only [go_sem]
   refine zc (.pureE (zp2 l c hok h1) (by simp [go_sem])) ?_
   simp only [go_sem]
   refine zd hx ?_
   simp [go_sem,L32,R32,zaX,zbl,h0,h1]
 ·
  simp only [go_sem,h0]
  refine zd hx ?_
  simp [go_sem,L32,R32,zaX,zbl,h0]
theorem zjH (l : List Entry) (c : Int) (ids : List Id) (h : LogOk l) (hc : ZI c 1 7 = true) (hb : ids.length ≤ 1000000000) :
    zg prog 102 [.list (l.map cE),.int .i64 c,.list (ids.map cId)] [] (.arr 0 ((zf1 l c ids).length + 1 - ids.length)) [.arr ((zf1 l c ids).length + 1 - ids.length) true false 29 2 ((zf1 l c ids).map cId)]:=by
  have hm:=h.len
  refine zg.of_walk func102 ntmps102 zoq.1 zoq.2 (by simp) fun x hx=>?_
  simp only [go_sem,zAv,zAw]
  refine zc (.heapE [] (r' := .ptr 0 0) (H' := [.box [.int .i64 c,.arr 1 1,.list ((zL l c).map cE),zj l (zQ l)],.arr 1 true false 29 2 (ids.map cId)]) (zgG l c ids h hc hb) (by simp) (by simp) (by simp [go_sem]) rfl rfl (by simp [ZN,zS,zT,zf,pos,go_sem,yaa,ZV,Zh,zj])) ?_
  simp only [go_sem]
  refine zc (.lookE (zei l c ids h (by omega)) rfl (by simp [zjY,zf6,go_sem,pvP,zj,zt,pos])) ?_
  simp only [go_sem,cId]
  refine zfw (fun n st=>∃ (out:List Id) (v:Nat),n=zfc l c out∧v + ids.length=out.length + 1∧zf1 l c ids=zf1 l c out∧out.length + zfc l c out≤ids.length + 40 ∧
    st=⟨mkE .top [(7,.ptr 0 0),(8,.ptr 2 0),(9,.bool (zey l c out (zL l c).length).2)],[.box [.int .i64 c,.arr 1 v,.list ((zL l c).map cE),zj l (zQ l)],.arr v true false 29 2 (out.map cId),.box (cId (zey l c out (zL l c).length).1)]⟩) (zfc l c ids) ?_ ?_
  · refine ⟨_,Zk [7,8,9] [0,1,2] (by simp) (by simp) (by simp [hx]),ids,1,rfl,by omega,rfl,by have:=zkq h c ids; omega,?_⟩
    simp [zad,go_sem,ze,zf,pos,yaa,zj,cId]
  · rintro n st ⟨out,v,rfl,hv,hmore,hlen,rfl⟩
    have hF:=zoJ h c out
    cases hn:zda l c out with
    | none =>
      rw [hn] at hF
      rw [hF]
      simp only [go_sem]
      refine zI [1] (by simp) (by simp [hx]) (by simp [hx]) ?_ ?_
      · simp [go_sem,zAv,zAw,hx,pos,hmore,zfv hn]
        omega
      · simp [ze,zf,hx,go_sem,pos,hmore,zfv hn]
        omega
    | some y =>
      rw [hn] at hF
      rw [hF]
      have hlt:=zdb h ((za6 h).1 hn).1
      simp only [go_sem,cId]
      rw [Zf rfl rfl (by simp) (by simp; omega)]
      simp only [go_sem,cId]
      have hrows:(List.map cId out ++ [[PV.int IntKind.i64 y.r,PV.int IntKind.i64 y.n]])=(out ++ [y]).map cId:=by simp [cId]
      rw [hrows]
      refine zc (.lookE (zei l c (out ++ [y]) h (by simp; omega)) rfl (by simp [zjY,zf6,go_sem,pvP,zj,zt,pos])) ?_
      simp only [go_sem,cId]
      refine ⟨zfc l c (out ++ [y]),_,hlt,Zk [7,8,9] [0,1,3] (by simp) (by simp) (by simp [hx]),out ++ [y],v + 1,rfl,by simp; omega,hmore.trans (zhU h hn),by simp; omega,?_⟩
      simp [zad,go_sem,ze,zf,pos,yaa,zj,cId]
theorem zqp (l : List Entry) (c : Int) (ids : List Id) (h : LogOk l) (hc : ZI c 1 7 = true) (hb : ids.length ≤ 1000000000) :
    zg prog 102 [.oll (l.map cE),.int .i64 c,.oll (ids.map cId)] [] (.list ((zf1 l c ids).map cId)) []:=by
  have h:=(zjH l c ids h hc hb).fresh (args' := [.oll (l.map cE),.int .i64 c,.oll (ids.map cId)]) rfl
  have hs:(((zf1 l c ids).map cId).all fun r=>r.all zaw)=true:=by simp [cId,zaw]
  simp [frS,frA,frL,hs] at h
  exact h
theorem zmb (l : List Entry) (c : Int) (ids : List Id) (hl : l.length ≤ 9223372036854775806) (hb : ids.length ≤ 9223372036854775806) :
    zg prog 101 [.oll (l.map cE),.int .i64 c,.oll (ids.map cId)] [] (.int .i64 (zx l c ids)) []:=(ze4 l c ids hl hb).freshS rfl rfl
theorem zg3 (l : List Entry) (c : Int) (ids : List Id) (hl : l.length ≤ 9223372036854775806) (hb : ids.length ≤ 9223372036854775806) :
    zg prog 30 [.oll (l.map cE),.int .i64 c,.oll (ids.map cId)] [] (.tup [.list ((Zo l c ids).map cId),.int .i64 (zx l c ids)]) []:=by
  refine zg.of_walk func30 ntmps30 zul.1 zul.2 (by simp) fun x hx=>?_
  simp only [go_sem,L30,R30]
  refine zc (.pureE (zmb l c ids hl hb) (by simp [go_sem])) ?_
  by_cases h0:zx l c ids=0
  · obtain ⟨g0,g1,g2,-,-⟩:=zds h0
    have hok:=zaE.1 g0
    have:=zcJ hok g1
    simp only [go_sem,h0]
    refine zc (.pureE (zqp l c ids hok g2 (by omega)) (by simp [go_sem])) ?_
    simp only [go_sem]
    refine zd hx ?_
    simp [go_sem,L30,R30,Zo,h0]
  · simp only [go_sem,h0]
    refine zd hx ?_
    simp [go_sem,L30,R30,Zo,h0]
def okc (c:UInt8):Bool:=(decide ((97:Int)≤(c.toNat:Int)) && decide ((c.toNat:Int)≤122)) || (decide ((48:Int)≤(c.toNat:Int)) && decide ((c.toNat:Int)≤57))
def zyE (l:List UInt8):Bool:=l.all okc && decide (1≤l.length) && decide (l.length≤3)
def zd7 (s:ByteArray):Bool:=zyE s.data.toList
theorem znA (s:ByteArray):s.data.toList.length=s.size:=by show s.data.toList.length=s.data.size; simp
theorem zuY {s:ByteArray} {k:Nat} (h:k < s.size):s[k]? = some s[k]:=by
 exact getElem?_pos s k h
theorem zmc {s:ByteArray} {k:Nat} (h:k < s.size):s.data.toList[k]? = some s[k]:=by
 rw [yac (by rw [znA]; exact h)]
 simp [ByteArray.getElem_eq_getElem_data]
theorem zkD {s:ByteArray} {k:Nat} (h:k < s.size):(s.data.toList.take (k + 1)).all okc=((s.data.toList.take k).all okc && okc s[k]):=by
 rw [yby,zmc h]
 simp [List.all_append]
theorem zuZ {s:ByteArray} {k:Nat} (h:k < s.size) (hc:okc s[k]=false):zd7 s=false:=by
 have:s.data.toList.all okc=false:=by
  rw [List.all_eq_false]
  exact ⟨s[k],yaf (zmc h),by simp [hc]⟩
 simp [zd7,zyE,this]
theorem zu0 {s:ByteArray} (h:s.data.toList.all okc=true):zd7 s=(decide ((1:Int)≤(s.size:Int)) && decide ((s.size:Int)≤3)):=by
 rw [zd7,zyE,h,znA,ycg]
 congr 1
 all_goals (rw [ybJ,decide_eq_true_iff,decide_eq_true_iff]; omega)
theorem zjI (s:ByteArray) (hs:s.size≤1000000000000000):zg prog 150 [.str s] [] (.bool (zd7 s)) []:=by
  refine zg.of_walk func150 ntmps150 zwc.1 zwc.2 (by simp) fun x hx=>?_
  simp only [go_sem,zBO,zBP]
  refine zy [0,6,7] 0 (fun m st=>∃ k:Nat,k + m=s.size∧(s.data.toList.take k).all okc=true ∧
    st=⟨mkE .top [(0,.str s),(6,.int .i64 s.size),(7,.int .i64 k)],[]⟩) s.size (by simp [hx]) (by simp) ?_ ?_
  · refine ⟨0,by omega,by simp,?_⟩
    simp [zh,go_sem,ze,zf,pos,yaa]
  · rintro m st ⟨k,hk,hall,rfl⟩
    by_cases hlt:k < s.size
    · have hg:=zuY hlt
      have hw:=zM (k:=k) (by omega)
      have hst:=zkD hlt
      have hnw:=fun h=>zuZ (s:=s) (k:=k) hlt h
      generalize s[k]=c at hg hst hnw
      by_cases h1:(97:Int)≤(c.toNat:Int) <;> by_cases h2:(c.toNat:Int)≤122 <;> by_cases h3:(48:Int)≤(c.toNat:Int) <;> by_cases h4:(c.toNat:Int)≤57
      all_goals first
        | (exfalso; omega)
        | (have ho : okc c = true := by simp [okc, h1, h2, h3, h4]
           simp only [go_sem,zab,Int.reduceLT,Int.reduceLE,Int.reduceToNat,Int.reduceAdd,frz,hlt,hg,h1,h2,h3,h4,decide_true,decide_false,hw]
           refine ⟨by simp,m - 1,by omega,k + 1,by omega,by rw [hst,hall,ho]; rfl,?_⟩
           simp [zh,go_sem,ze,zf,pos,yaa]
           done)
        | (have ho : okc c = false := by simp [okc, h1, h2, h3, h4]
           have hno:=hnw ho
           simp only [go_sem,zab,Int.reduceLT,Int.reduceLE,Int.reduceToNat,Int.reduceAdd,frz,hlt,hg,h1,h2,h3,h4,decide_true,decide_false]
           refine zd hx ?_
           simp [go_sem,zBO,zBP,hno]
           done)
    · have hke:k=s.size:=by omega
      rw [yan (by rw [znA]; omega)] at hall
      have hwe:=zu0 hall
      by_cases h1:(1:Int)≤(s.size:Int) <;> by_cases h2:(s.size:Int)≤3
      all_goals
        simp only [go_sem,zab,Int.reduceLT,Int.reduceLE,Int.reduceToNat,Int.reduceAdd,frz,hlt,h1,h2,decide_true,decide_false]
        refine zd hx ?_
        simp [go_sem,zBO,zBP,hwe,h1,h2]
end Go.Proofs.YtkcahmbcpkjpiaaGreatDoor
namespace Go.Proofs.YtkcahmbcpkjpiaaGreatDoor
open Go.Shelf Go.Proofs
def znB:Go.Shelf.Ren:=⟨fun | 6=>187 | 15=>227 | 14=>229 | 28=>257 | 29=>258 | 20=>259 | 21=>260 | 22=>261 | 23=>262 | 24=>263 | 25=>264 | 26=>265 | 27=>266 | 46=>281 | 47=>277 | 48=>278 | 49=>282 | 50=>283 | 57=>293 | n=>n,fun | 22=>238 | 24=>242 | 25=>248 | 3=>3 | 39=>275 | 0=>0 | 53=>314 | 55=>316 | 4=>4 | 46=>308 | 45=>307 | 50=>206 | 5=>5 | 9=>9 | 66=>327 | 70=>331 | 76=>340 | 77=>341 | n=>n,fun n=>n⟩
theorem zsC:SlLaysF0.n6 Tryz.prog znB := {
 mixed:=by kernel_rfl,
 f6:=⟨Tryz.f187.name,by decide,Tryz.func187.trans (congrArg some (by kernel_rfl))⟩,
 f14:=⟨Tryz.f229.name,by decide,Tryz.func229.trans (congrArg some (by kernel_rfl))⟩,
 f15:=Tryz.func227.trans (congrArg some (by kernel_rfl)),
 f20:=⟨Tryz.f259.name,by decide,Tryz.func259.trans (congrArg some (by kernel_rfl))⟩,
 f21:=⟨Tryz.f260.name,by decide,Tryz.func260.trans (congrArg some (by kernel_rfl))⟩,
 f22:=⟨Tryz.f261.name,by decide,Tryz.func261.trans (congrArg some (by kernel_rfl))⟩,
 f23:=⟨Tryz.f262.name,by decide,Tryz.func262.trans (congrArg some (by kernel_rfl))⟩,
 f24:=⟨Tryz.f263.name,by decide,Tryz.func263.trans (congrArg some (by kernel_rfl))⟩,
 f25:=⟨Tryz.f264.name,by decide,Tryz.func264.trans (congrArg some (by kernel_rfl))⟩,
 f26:=⟨Tryz.f265.name,by decide,Tryz.func265.trans (congrArg some (by kernel_rfl))⟩,
 f27:=⟨Tryz.f266.name,by decide,Tryz.func266.trans (congrArg some (by kernel_rfl))⟩,
 f28:=Tryz.func257.trans (congrArg some (by kernel_rfl)),
 f29:=Tryz.func258.trans (congrArg some (by kernel_rfl)),
 f46:=⟨Tryz.f281.name,by decide,Tryz.func281.trans (congrArg some (by kernel_rfl))⟩,
 f47:=Tryz.func277.trans (congrArg some (by kernel_rfl)),
 f48:=Tryz.func278.trans (congrArg some (by kernel_rfl)),
 f49:=⟨Tryz.f282.name,by decide,Tryz.func282.trans (congrArg some (by kernel_rfl))⟩,
 f50:=⟨Tryz.f283.name,by decide,Tryz.func283.trans (congrArg some (by kernel_rfl))⟩,
 f57:=⟨Tryz.f293.name,by decide,Tryz.func293.trans (congrArg some (by kernel_rfl))⟩,
 t0:=Tryz.underlying0,
 a0:=Tryz.isAgg0,
 z0:=Tryz.sizeOf0,
 v0:=Tryz.zeroValue0,
 t3:=Tryz.underlying3,
 a3:=Tryz.isAgg3,
 z3:=Tryz.sizeOf3,
 v3:=Tryz.zeroValue3,
 t4:=Tryz.underlying4,
 a4:=Tryz.isAgg4,
 z4:=Tryz.sizeOf4,
 v4:=Tryz.zeroValue4,
 t5:=Tryz.underlying5,
 a5:=Tryz.isAgg5,
 z5:=Tryz.sizeOf5,
 v5:=Tryz.zeroValue5,
 t9:=Tryz.underlying9,
 a9:=Tryz.isAgg9,
 z9:=Tryz.sizeOf9,
 v9:=Tryz.zeroValue9,
 t22:=Tryz.underlying238,
 a22:=Tryz.isAgg238,
 z22:=Tryz.sizeOf238,
 v22:=Tryz.zeroValue238,
 t25:=Tryz.underlying248,
 a25:=Tryz.isAgg248,
 z25:=Tryz.sizeOf248,
 v25:=Tryz.zeroValue248,
 t39:=Tryz.underlying275,
 a39:=Tryz.isAgg275,
 z39:=Tryz.sizeOf275,
 v39:=Tryz.zeroValue275,
 t45:=Tryz.underlying307,
 a45:=Tryz.isAgg307,
 z45:=Tryz.sizeOf307,
 v45:=Tryz.zeroValue307,
 t46:=Tryz.underlying308,
 a46:=Tryz.isAgg308,
 z46:=Tryz.sizeOf308,
 v46:=Tryz.zeroValue308,
 t50:=Tryz.underlying206,
 a50:=Tryz.isAgg206,
 z50:=Tryz.sizeOf206,
 v50:=Tryz.zeroValue206,
 t53:=Tryz.underlying314,
 a53:=Tryz.isAgg314,
 z53:=Tryz.sizeOf314,
 v53:=Tryz.zeroValue314,
 t55:=Tryz.underlying316,
 a55:=Tryz.isAgg316,
 z55:=Tryz.sizeOf316,
 v55:=Tryz.zeroValue316,
 t66:=Tryz.underlying327,
 a66:=Tryz.isAgg327,
 z66:=Tryz.sizeOf327,
 v66:=Tryz.zeroValue327,
 t70:=Tryz.underlying331,
 a70:=Tryz.isAgg331,
 z70:=Tryz.sizeOf331,
 v70:=Tryz.zeroValue331,
 t76:=Tryz.underlying340,
 a76:=Tryz.isAgg340,
 z76:=Tryz.sizeOf340,
 v76:=Tryz.zeroValue340,
 t77:=Tryz.underlying341,
 a77:=Tryz.isAgg341,
 z77:=Tryz.sizeOf341,
 v77:=Tryz.zeroValue341 }
def zqq:Go.Shelf.Ren:=⟨fun | 146=>153 | 221=>221 | 268=>246 | 138=>247 | 143=>248 | 195=>272 | 197=>273 | 218=>274 | 219=>275 | 260=>287 | 217=>288 | 225=>289 | 224=>290 | 267=>291 | 266=>294 | 314=>295 | n=>n,fun | 9=>9 | 31=>100 | 3=>3 | 4=>4 | 0=>0 | 105=>324 | 21=>21 | 5=>5 | 46=>275 | 119=>344 | 139=>347 | 138=>346 | 146=>348 | 51=>314 | n=>n,fun | 1=>0 | 3=>1 | 4=>2 | n=>n⟩
theorem zA4:Lays.n146 Tryz.prog zqq := {
 mixed:=by kernel_rfl,
 f138:=Tryz.func247.trans (congrArg some (by kernel_rfl)),
 f143:=Tryz.func248.trans (congrArg some (by kernel_rfl)),
 f146:=Tryz.func153.trans (congrArg some (by kernel_rfl)),
 f195:=Tryz.func272.trans (congrArg some (by kernel_rfl)),
 f197:=Tryz.func273.trans (congrArg some (by kernel_rfl)),
 f217:=Tryz.func288.trans (congrArg some (by kernel_rfl)),
 f218:=Tryz.func274.trans (congrArg some (by kernel_rfl)),
 f219:=Tryz.func275.trans (congrArg some (by kernel_rfl)),
 f221:=Tryz.func221.trans (congrArg some (by kernel_rfl)),
 f224:=Tryz.func290.trans (congrArg some (by kernel_rfl)),
 f225:=Tryz.func289.trans (congrArg some (by kernel_rfl)),
 f260:=Tryz.func287.trans (congrArg some (by kernel_rfl)),
 f266:=Tryz.func294.trans (congrArg some (by kernel_rfl)),
 f267:=Tryz.func291.trans (congrArg some (by kernel_rfl)),
 f268:=Tryz.func246.trans (congrArg some (by kernel_rfl)),
 f314:=Tryz.func295.trans (congrArg some (by kernel_rfl)),
 t0:=Tryz.underlying0,
 a0:=Tryz.isAgg0,
 z0:=Tryz.sizeOf0,
 v0:=Tryz.zeroValue0,
 t3:=Tryz.underlying3,
 a3:=Tryz.isAgg3,
 z3:=Tryz.sizeOf3,
 v3:=Tryz.zeroValue3,
 t4:=Tryz.underlying4,
 a4:=Tryz.isAgg4,
 z4:=Tryz.sizeOf4,
 v4:=Tryz.zeroValue4,
 t5:=Tryz.underlying5,
 a5:=Tryz.isAgg5,
 z5:=Tryz.sizeOf5,
 v5:=Tryz.zeroValue5,
 t9:=Tryz.underlying9,
 a9:=Tryz.isAgg9,
 z9:=Tryz.sizeOf9,
 v9:=Tryz.zeroValue9,
 t21:=Tryz.underlying21,
 a21:=Tryz.isAgg21,
 z21:=Tryz.sizeOf21,
 v21:=Tryz.zeroValue21,
 t31:=Tryz.underlying100,
 a31:=Tryz.isAgg100,
 z31:=Tryz.sizeOf100,
 v31:=Tryz.zeroValue100,
 t46:=Tryz.underlying275,
 a46:=Tryz.isAgg275,
 z46:=Tryz.sizeOf275,
 v46:=Tryz.zeroValue275,
 t51:=Tryz.underlying314,
 a51:=Tryz.isAgg314,
 z51:=Tryz.sizeOf314,
 v51:=Tryz.zeroValue314,
 t105:=Tryz.underlying324,
 a105:=Tryz.isAgg324,
 z105:=Tryz.sizeOf324,
 v105:=Tryz.zeroValue324,
 t119:=Tryz.underlying344,
 a119:=Tryz.isAgg344,
 z119:=Tryz.sizeOf344,
 t138:=Tryz.underlying346,
 a138:=Tryz.isAgg346,
 z138:=Tryz.sizeOf346,
 v138:=Tryz.zeroValue346,
 t139:=Tryz.underlying347,
 a139:=Tryz.isAgg347,
 z139:=Tryz.sizeOf347,
 v139:=Tryz.zeroValue347,
 t146:=Tryz.underlying348,
 a146:=Tryz.isAgg348,
 z146:=Tryz.sizeOf348,
 v146:=Tryz.zeroValue348,
 g1:=by kernel_rfl,
 g3:=by kernel_rfl,
 g4:=by kernel_rfl }
def zu1:Go.Shelf.Ren:=⟨fun | 106=>189 | 213=>230 | 265=>267 | n=>n,fun | 9=>9 | 3=>3 | n=>n,fun n=>n⟩
theorem zEk:Lays.n106 Tryz.prog zu1 := {
 mixed:=by kernel_rfl,
 f106:=Tryz.func189.trans (congrArg some (by kernel_rfl)),
 f213:=Tryz.func230.trans (congrArg some (by kernel_rfl)),
 f265:=Tryz.func267.trans (congrArg some (by kernel_rfl)),
 t3:=Tryz.underlying3,
 a3:=Tryz.isAgg3,
 z3:=Tryz.sizeOf3,
 v3:=Tryz.zeroValue3,
 t9:=Tryz.underlying9,
 a9:=Tryz.isAgg9,
 z9:=Tryz.sizeOf9,
 v9:=Tryz.zeroValue9 }
end Go.Proofs.YtkcahmbcpkjpiaaGreatDoor
