/- Joined texts of this claim: E2 E3 U6 U7 U8 E4 E5 D1 E6 E12 D2 D3 M1 M2 S2 S3 Sh S1 G1 M3 D5 U9 S4 S5 S6 S7 D4. -/
import Derived.Test.YtkcahmbcpkjpiaaGreatDoorKC
import Derived.IntWalk
import Derived.Lib.Hide
import Derived.Test.YtkcahmbcpkjpiaaGreatDoorKB
import Derived.Shelf.GgSortFunc.InsertionK
import Derived.Test.YtkcahmbcpkjpiaaGreatDoorProg
import Derived.Shelf.RegionOpenPlain
import Derived.WalkKit
import Derived.Deep.LoopGhost
import Derived.Deep.Draws
import Derived.Lib.Walk
import Derived.Sort.WalkB12
import Derived.Lib.SliceRun
import Derived.Lib.SlicesCompact
import Derived.Shelf.SlSortCmp.WholeK
import Derived.Shelf.SlLaysF0
import Derived.KernelRfl
import Derived.Shelf.SlSortCmp.Insertion
import Derived.Shelf.SlSortCmp.NoneTotal
import Derived.Deep.RegionLaw
import Derived.Lib.SlicesDelete
import Derived.Shelf.Spec.SlicesInsert
import Derived.ArgAppend
import Derived.Shelf.Spec.SlicesInsertGrow
set_option linter.unusedSimpArgs false
set_option linter.unusedVariables false
set_option linter.unusedSectionVars false
set_option maxHeartbeats 8000000
set_option maxRecDepth 100000
namespace Go.Proofs.YtkcahmbcpkjpiaaGreatDoor
open Go.RowKit
theorem zi9 (a b:Int):zg Tryz.prog 214 [.int .i64 a,.int .i64 b] [] (.int .i64 (zka a b)) []:=by
 refine zg.of_walk Tryz.func214 Tryz.ntmps214 zvS zvT (by simp) fun x hx=>?_
 by_cases h:a < b
 ·
  simp only [go_sem,zsG,zsH,h,decide_true]
  refine zb hx ?_
  simp [go_sem,zsG,zsH,zka,h]
 ·
  by_cases h2:b < a
  ·
   simp only [go_sem,zsG,zsH,h,h2,decide_true,decide_false]
   refine zb hx ?_
   simp [go_sem,zsG,zsH,zka,h,h2]
  ·
   simp only [go_sem,zsG,zsH,h,h2,decide_false]
   refine zb hx ?_
   simp [go_sem,zsG,zsH,zka,h,h2]
def cId (x:Id):List PV := [.int .i64 x.r,.int .i64 x.n]
theorem zcC (a b:Id):zg Tryz.prog 143 [.agg (cId a),.agg (cId b)] [] (.int .i64 (zfe a b)) []:=by
 refine zg.of_walk Tryz.func143 Tryz.ntmps143 zuY zuZ (by simp) fun x hx=>?_
 simp only [go_sem,zxi,zxj,cId]
 refine zan rfl (by kernel_rfl) (.pure (zi9 _ _)) ?_
 by_cases h:zka a.r b.r=0
 ·
  simp only [go_sem,h,decide_true,decide_false]
  refine zan rfl (by kernel_rfl) (.pure (zi9 _ _)) ?_
  simp only [go_sem]
  refine zb hx ?_
  simp [go_sem,zxi,zxj,zfe,h]
 ·
  simp only [go_sem,h,decide_true,decide_false]
  refine zb hx ?_
  simp [go_sem,zxi,zxj,zfe,h]
theorem zhh (a b:Id):zg Tryz.prog 93 [.agg (cId a),.agg (cId b)] [] (.bool (zP a b)) []:=by
 refine zg.of_walk Tryz.func93 Tryz.ntmps93 zyO zyP (by simp) fun x hx=>?_
 simp only [go_sem,L93,R93,cId]
 refine za (.pure (zcC a b)) ?_
 have h:zP a b=decide (zfe a b < 0):=by rw [Bool.eq_iff_iff,decide_eq_true_iff,zaD]
 simp only [go_sem]
 refine zb hx ?_
 simp only [go_sem,L93,R93,h]
theorem za8 (n:Int):zg Tryz.prog 103 [.int .i64 n] [] (.bool (ZX n 1 7)) []:=by
 refine zg.of_walk Tryz.func103 Tryz.ntmps103 zue zuf (by simp) fun x hx=>?_
 simp only [go_sem,zyW,zyX]
 refine za (.pure (zc3 _ _ _)) ?_
 simp only [go_sem]
 refine zb hx ?_
 simp only [go_sem,zyW,zyX]
def cE (e:Entry):List PV := [.int .i64 e.id.r,.int .i64 e.id.n,.int .i64 e.c,.str e.t,.list (e.ls.map cId)]
theorem zaU (e:Entry):zg Tryz.prog 70 [.agg (cE e)] [] (.int .i64 (zl e)) []:=by
 refine zg.of_walk Tryz.func70 Tryz.ntmps70 zyG zyH (by simp) fun x hx=>?_
 simp only [go_sem,L70,R70,cE]
 refine za (.pure (zlk _ _)) ?_
 cases h1:zeV e.id
 ·
  simp only [go_sem]
  refine zb hx ?_
  simp [go_sem,L70,R70,zl,h1]
 simp only [go_sem]
 refine za (.pure (za8 _)) ?_
 cases h2:ZX e.c 1 7
 ·
  simp only [go_sem]
  refine zb hx ?_
  simp [go_sem,L70,R70,zl,h1,h2]
 by_cases h3:12 < e.t.size
 ·
  have h3':decide ((12:Int) < e.t.size)=true:=by simp; omega
  simp only [go_sem,h3']
  refine zb hx ?_
  simp [go_sem,L70,R70,zl,h1,h2,h3]
 have h3':decide ((12:Int) < e.t.size)=false:=by simp; omega
 by_cases h4:6 < e.ls.length
 ·
  have h4':decide ((6:Int) < (e.ls.length:Nat))=true:=by simp; omega
  simp only [go_sem,h3',h4']
  refine zb hx ?_
  simp [go_sem,L70,R70,zl,h1,h2,h3,h4]
 have h4':decide ((6:Int) < (e.ls.length:Nat))=false:=by simp; omega
 have hc:zl e=zw (z7 e.id e.ls) e.ls.length:=by simp [zl,h1,h2,h3,h4]
 simp only [go_sem,h3',h4',hc]
 refine zr [1,28,29,30] 1 (fun n st=>∃ k:Nat,k + n=e.ls.length∧zw (z7 e.id e.ls) k=0 ∧
  st=⟨mkE .top [(1,.ptr 0 0),(28,.list (e.ls.map cId)),(29,.int .i64 e.ls.length),(30,.int .i64 k)],[.box (cE e)]⟩) e.ls.length (by simp [hx]) (by simp) ?_ ?_
 ·
  refine ⟨0,by omega,rfl,?_⟩
  simp [zi,go_sem,zc,zd,pos,List.range_succ,cE]
 ·
  rintro n st ⟨k,hk,hz,rfl⟩
  simp only [go_sem,cE]
  by_cases hlt:k < e.ls.length
  ·
   have hg:e.ls[k]? = some (nth e.ls k):=zk _ _ hlt
   simp only [go_sem,hlt,hg,cId]
   refine za (.pure (zlk _ _)) ?_
   cases h5:zeV (nth e.ls k)
   ·
    have h5':zeV ⟨(nth e.ls k).r,(nth e.ls k).n⟩=false:=h5
    simp only [go_sem,h5']
    refine zb hx ?_
    have:z7 e.id e.ls k=3:=by simp [z7,h5]
    simp only [go_sem,hc,zZ hz (by rw [this]; decide) hlt,this]
   have h5':zeV ⟨(nth e.ls k).r,(nth e.ls k).n⟩=true:=h5
   have w1:IntKind.i64.wrap ((k:Int) + 1)=((k + 1:Nat):Int):=by rw [IntWalk.i64_in _ (by omega)]; omega
   have okw:(k=0∨zfe (nth e.ls (k - 1)) (nth e.ls k) < 0)→zP (nth e.ls (k - 1)) (nth e.ls k)=true∨k=0:=fun h=>by
    rcases h with h | h
    ·
     exact .inr h
    ·
     exact .inl (zaD.1 h)
   by_cases hb:0 < k∧0≤zfe (nth e.ls (k - 1)) (nth e.ls k)
   ·
    obtain ⟨h0,h6⟩:=hb
    have hg1:e.ls[k - 1]? = some (nth e.ls (k - 1)):=zk _ _ (by omega)
    have e1:IntKind.i64.wrap ((k:Int) - 1)=((k - 1:Nat):Int):=by rw [IntWalk.i64_in _ (by omega)]; omega
    have d0:decide ((0:Int) < (k:Int))=true:=by simp; omega
    have hlt1:k - 1 < e.ls.length:=by omega
    simp only [go_sem,h5',d0,hlt1,hg1,e1,cId]
    refine za (.pure (zcC (nth e.ls (k - 1)) (nth e.ls k))) ?_
    simp only [go_sem,h6]
    refine zb hx ?_
    have hl:zP (nth e.ls (k - 1)) (nth e.ls k)=false:=by rw [← Bool.not_eq_true,← zaD]; omega
    have:z7 e.id e.ls k=4:=by simp [z7,h5,h0,hl]
    simp only [go_sem,hc,zZ hz (by rw [this]; decide) hlt,this]
   ·
    have hok:k=0∨zP (nth e.ls (k - 1)) (nth e.ls k)=true:=by
     rcases Nat.eq_zero_or_pos k with h | h
     ·
      exact .inl h
     ·
      exact .inr (zaD.1 (by omega))
    have fin:∀ H:List AObj,1≤H.length→H.take 1 = [.box (cE e)]→True:=fun _ _ _=>trivial
    by_cases h0:0 < k
    ·
     have hg1:e.ls[k - 1]? = some (nth e.ls (k - 1)):=zk _ _ (by omega)
     have e1:IntKind.i64.wrap ((k:Int) - 1)=((k - 1:Nat):Int):=by rw [IntWalk.i64_in _ (by omega)]; omega
     have d0:decide ((0:Int) < (k:Int))=true:=by simp; omega
     have hlt1:k - 1 < e.ls.length:=by omega
     have h6:¬ 0≤zfe (nth e.ls (k - 1)) (nth e.ls k):=fun h=>hb ⟨h0,h⟩
     have hl:zP (nth e.ls (k - 1)) (nth e.ls k)=true:=zaD.1 (by omega)
     simp only [go_sem,h5',d0,hlt1,hg1,e1,cId]
     refine za (.pure (zcC (nth e.ls (k - 1)) (nth e.ls k))) ?_
     by_cases h7:(nth e.ls k).r=e.id.r <;> by_cases h8:e.id.n≤(nth e.ls k).n <;> simp only [go_sem,h6,h7,h8]
     ·
      refine zb hx ?_
      have:z7 e.id e.ls k=4:=by simp [z7,h5,hl,h7,h8]
      simp only [go_sem,hc,zZ hz (by rw [this]; decide) hlt,this]
     all_goals
      have:z7 e.id e.ls k=0:=by simp [z7,h5,hl,h7,h8]
      refine ⟨by simp,n - 1,by omega,k + 1,by omega,zQ hz this,?_⟩
      simp [zi,go_sem,zc,zd,pos,List.range_succ,cE,w1]
    ·
     have d0:decide ((0:Int) < (k:Int))=false:=by simp; omega
     by_cases h7:(nth e.ls k).r=e.id.r <;> by_cases h8:e.id.n≤(nth e.ls k).n <;> simp only [go_sem,h5',d0,h7,h8]
     ·
      refine zb hx ?_
      have:z7 e.id e.ls k=4:=by simp [z7,h5,h0,h7,h8]
      simp only [go_sem,hc,zZ hz (by rw [this]; decide) hlt,this]
     all_goals
      have:z7 e.id e.ls k=0:=by simp [z7,h5,h0,h7,h8]
      refine ⟨by simp,n - 1,by omega,k + 1,by omega,zQ hz this,?_⟩
      simp [zi,go_sem,zc,zd,pos,List.range_succ,cE,w1]
  ·
   simp only [go_sem,hlt]
   refine zb hx ?_
   simp only [go_sem]
   first | rw [hc,show e.ls.length=k by omega,hz] | rw [show e.ls.length=k by omega,hz]
theorem znU {α β:Type} {f:α→β}:∀ {rs:List β},(∀ r ∈ rs,∃ y,r=f y)→∃ l:List α,rs=l.map f
 | [],_=>⟨[],rfl⟩
 | r :: rs,h=>by
  obtain ⟨y,rfl⟩:=h r (by simp)
  obtain ⟨l,rfl⟩:=znU (rs:=rs) fun q hq=>h q (by simp [hq])
  exact ⟨y :: l,rfl⟩
theorem zhi {k:IntKind} {n:Int} {p:PV} (h:Bl (.int k n) p):∃ m,p = .int k m:=by cases h; exact ⟨_,rfl⟩
theorem zv8 {s:ByteArray} {p:PV} (h:Bl (.str s) p):∃ t,p = .str t:=by cases h; exact ⟨_,rfl⟩
theorem zkB {rows : List (List PV)} {q : PV} (h : Bl (.list rows) q) : ∃ rows', q = .list rows' ∧ rows'.length = rows.length ∧ (∀ (k : Nat) (r r' : List PV), rows[k]? = some r → rows'[k]? = some r' → r'.length = r.length) ∧
    ∀ (k:Nat) (r r':List PV) (j:Nat) (p p':PV),rows[k]? = some r→rows'[k]? = some r'→r[j]? = some p→r'[j]? = some p'→Bl p p':=by
  cases h with
  | list rows rows' hl hr h=>exact ⟨rows',rfl,hl,hr,h⟩
theorem znV {l:List Id} {q:PV} (h:Bl (.list (l.map cId)) q):∃ l':List Id,l'.length=l.length∧q = .list (l'.map cId):=by
 obtain ⟨rows',rfl,hl,hr,h⟩:=zkB h
 obtain ⟨l',rfl⟩:=znU (f:=cId) (rs:=rows') fun r hr'=>by
  obtain ⟨k,hk,e⟩:=List.getElem_of_mem hr'
  have hk':k < l.length:=by rw [hl] at hk; simpa using hk
  have g1:(l.map cId)[k]? = some (cId l[k]):=by simp [hk']
  have g2:rows'[k]? = some r:=by rw [List.getElem?_eq_getElem hk,e]
  have h2:=hr k _ _ g1 g2
  clear e hr'
  match r,h2,g2 with
  | [a,b],_,g2 =>
   obtain ⟨m,rfl⟩:=zhi (h k _ _ 0 _ _ g1 g2 rfl rfl)
   obtain ⟨m2,rfl⟩:=zhi (h k _ _ 1 _ _ g1 g2 rfl rfl)
   exact ⟨⟨m,m2⟩,rfl⟩
 exact ⟨l',by simpa using hl,rfl⟩
theorem zeq {l:List Entry} {q:PV} (h:Bl (.list (l.map cE)) q):∃ l':List Entry,l'.length=l.length∧q = .list (l'.map cE):=by
 obtain ⟨rows',rfl,hl,hr,h⟩:=zkB h
 obtain ⟨l',rfl⟩:=znU (f:=cE) (rs:=rows') fun r hr'=>by
  obtain ⟨k,hk,e⟩:=List.getElem_of_mem hr'
  have hk':k < l.length:=by rw [hl] at hk; simpa using hk
  have g1:(l.map cE)[k]? = some (cE l[k]):=by simp [hk']
  have g2:rows'[k]? = some r:=by rw [List.getElem?_eq_getElem hk,e]
  have h2:=hr k _ _ g1 g2
  clear e hr'
  match r,h2,g2 with
  | [a,b,c,d,f],_,g2 =>
   obtain ⟨m,rfl⟩:=zhi (h k _ _ 0 _ _ g1 g2 rfl rfl)
   obtain ⟨m2,rfl⟩:=zhi (h k _ _ 1 _ _ g1 g2 rfl rfl)
   obtain ⟨m3,rfl⟩:=zhi (h k _ _ 2 _ _ g1 g2 rfl rfl)
   obtain ⟨t,rfl⟩:=zv8 (h k _ _ 3 _ _ g1 g2 rfl rfl)
   obtain ⟨ls,-,rfl⟩:=znV (h k _ _ 4 _ _ g1 g2 rfl rfl)
   exact ⟨⟨⟨m,m2⟩,m3,t,ls⟩,rfl⟩
 exact ⟨l',by simpa using hl,rfl⟩
theorem zrM {S:Nat→Nat→Prop} {w:World} {v:Value} {l:List Id} (h:RepP S w (.list (l.map cId)) v):∃ a c,v = .slice a l.length c∧l.length≤c∧c≤maxLen∧∀ k e,l[k]? = some e→∃ b o,a=some ⟨b,o,none⟩∧S b (o + k * 2 + 1)∧w.cell? ⟨b,o + k * 2 + 1,none⟩=some (.int .i64 e.n):=by
 generalize hrs:l.map cId=rows at h
 cases h with
 | list rows a c sz x hc hm hsz hz hl h =>
  subst hrs
  have hlen:(l.map cId).length=l.length:=by simp
  rw [hlen] at hc ⊢
  refine ⟨a,c,rfl,hc,hm,fun k e hk=>?_⟩
  have g1:(l.map cId)[k]? = some (cId e):=by simp [hk]
  have:sz=2:=(hz _ (List.mem_of_getElem? g1)).symm
  subst this
  obtain ⟨b,o,ha,hS,hcell⟩:=hl k _ 1 _ g1 rfl
  have h2:=h k _ 1 _ g1 rfl
  refine ⟨b,o,ha,hS,hcell.trans ?_⟩
  generalize x k 1=y at h2 ⊢
  cases h2; rfl
theorem zrN {S : Nat → Nat → Prop} {w : World} {v : Value} {l : List Entry} (h : RepP S w (.list (l.map cE)) v) : ∃ a c, v = .slice a l.length c ∧ l.length ≤ c ∧ c ≤ maxLen ∧ ∀ k e, l[k]? = some e → ∃ b o, a = some ⟨b, o, none⟩ ∧ S b (o + k * 5 + 3) ∧ w.cell? ⟨b, o + k * 5 + 3, none⟩ = some (.string e.t) ∧
    ∃ lv,w.cell? ⟨b,o + k * 5 + 4,none⟩=some lv∧RepP S w (.list (e.ls.map cId)) lv:=by
  generalize hrs:l.map cE=rows at h
  cases h with
  | list rows a c sz x hc hm hsz hz hl h =>
    subst hrs
    have hlen:(l.map cE).length=l.length:=by simp
    rw [hlen] at hc ⊢
    refine ⟨a,c,rfl,hc,hm,fun k e hk=>?_⟩
    have g1:(l.map cE)[k]? = some (cE e):=by simp [hk]
    have:sz=5:=(hz _ (List.mem_of_getElem? g1)).symm
    subst this
    obtain ⟨b,o,ha,hS,hcell⟩:=hl k _ 3 _ g1 rfl
    obtain ⟨b2,o2,ha2,hS2,hcell2⟩:=hl k _ 4 _ g1 rfl
    have h2:=h k _ 3 _ g1 rfl
    have h3:=h k _ 4 _ g1 rfl
    rw [ha] at ha2
    cases ha2
    refine ⟨b,o,ha,hS,hcell.trans ?_,_,hcell2,h3⟩
    generalize x k 3=y at h2 ⊢
    cases h2; rfl
theorem Soil.set {R:Nat→Nat→Prop} {w:World} {b o:Nat} {v v':Value} (h:w.cell? ⟨b,o,none⟩=some v) (hk:kin v v') (hR:R b o):Soil R w (w.setCell ⟨b,o,none⟩ v'):=by
 have hcell:∀ b2 o2,(w.setCell ⟨b,o,none⟩ v').cell? ⟨b2,o2,none⟩=if b2=b∧o2=o then some v' else w.cell? ⟨b2,o2,none⟩:=by
  intro b2 o2
  by_cases e:b2=b∧o2=o
  ·
   obtain ⟨rfl,rfl⟩:=e
   rw [if_pos ⟨rfl,rfl⟩]
   simp only [World.cell?,World.setCell,Array.getElem?_modify] at h ⊢
   cases hb:w.heap[b2]? with
   | none=>rw [hb] at h; cases h
   | some ob =>
    rw [hb] at h
    cases ob with
    | cells c T f =>
     have h:c[o2]? = some v:=by simpa using h
     have hlt:o2 < c.size:=(Array.getElem?_eq_some_iff.1 h).1
     simp [hlt]
    | _=>exact absurd h (by simp)
  ·
   rw [if_neg e]
   simp only [World.cell?,World.setCell,Array.getElem?_modify]
   cases hb:w.heap[b2]? with
   | none=>by_cases e2:b=b2 <;> simp [e2,hb]
   | some ob =>
    by_cases e2:b=b2
    ·
     subst e2
     have e3:o≠o2:=fun q=>e ⟨rfl,q.symm⟩
     cases ob <;> simp [Array.getElem?_setIfInBounds,e3]
    ·
     simp [e2,hb]
 refine ⟨by simp [World.setCell],rfl,rfl,rfl,fun b2 hb=>?_,fun b2 o2 hn=>?_,fun b2 o2 u hu=>?_,fun b2=>?_⟩
 ·
  have:b≠b2:=fun e=>hb o (e ▸ hR)
  simp [World.setCell,Array.getElem?_modify,this]
 ·
  rw [hcell,if_neg (fun e=>hn (by rw [e.1,e.2]; exact hR))]
 ·
  rw [hcell]
  by_cases e:b2=b∧o2=o
  ·
   rw [if_pos e]
   rw [e.1,e.2,h] at hu
   cases hu
   exact ⟨v',rfl,hk⟩
  ·
   rw [if_neg e]
   exact ⟨u,hu,zep u⟩
 ·
  have hf:∀ o2,(w.setCell ⟨b,o,none⟩ v').frozen? ⟨b2,o2,none⟩=w.frozen? ⟨b2,o2,none⟩:=fun o2=>by
   simp only [World.frozen?,World.setCell,Array.getElem?_modify]
   by_cases e2:b=b2
   ·
    subst e2
    cases hb:w.heap[b]? with
    | none=>simp
    | some ob=>cases ob <;> simp
   ·
    simp [e2]
  simp only [Unf,hf]
theorem zqA {S:Nat→Nat→Prop} {w w':World} {v:Value} {l:List Entry} (hs:Soil S w w') (h:RepP S w (.list (l.map cE)) v):∃ l':List Entry,l'.length=l.length∧RepP S w' (.list (l'.map cE)) v:=by
 obtain ⟨q,h1,h2⟩:=zss hs h v (zep v)
 obtain ⟨l',g1,rfl⟩:=zeq h1
 exact ⟨l',g1,h2⟩
theorem zqB {S:Nat→Nat→Prop} {w w':World} {v:Value} {l:List Id} (hs:Soil S w w') (h:RepP S w (.list (l.map cId)) v):∃ l':List Id,l'.length=l.length∧RepP S w' (.list (l'.map cId)) v:=by
 obtain ⟨q,h1,h2⟩:=zss hs h v (zep v)
 obtain ⟨l',g1,rfl⟩:=znV h1
 exact ⟨l',g1,h2⟩
theorem zgU {S : Nat → Nat → Prop} {w : World} {v : Value} (l : List Entry) (hu : ∀ b o, S b o → Unf w b) (hv : RepP S w (.list (l.map cE)) v) :
    Calls Tryz.prog 17 #[v] w fun e w'=>e = .returned (.tuple #[])∧Soil S w w':=by
  obtain ⟨a,c,rfl,hc,hm,-⟩:=zrN hv
  have hm2:c≤9223372036854775807:=by unfold maxLen at hm; omega
  clear hm
  have HV:=Lib.hid hv; clear hv
  have HU:=Lib.hid hu; clear hu
  go_enter Tryz.func17,Tryz.ntmps17
  go_wp2
  go_loopw [2] (fun i wr=>∃ k:Nat,k≤l.length∧i = .int .i64 k∧Soil S w wr) (fun i _=>l.length - (intOf i).toNat)
  case atStart=>exact ⟨0,by omega,rfl,Soil.refl _ _⟩
  case round =>
    obtain ⟨k,hk,rfl,hs⟩:=hrel
    by_cases hlt:k < l.length
    · obtain ⟨l1,hl1,hv1⟩:=zqA hs HV.out
      obtain ⟨a',c',e1,-,-,hat⟩:=zrN hv1
      simp only [Value.slice.injEq] at e1
      obtain ⟨rfl,-,rfl⟩:=e1
      obtain ⟨b,o,rfl,hS3,hc3,lv,hc4,hlv⟩:=hat k l1[k] (List.getElem?_eq_getElem (by omega))
      generalize l1[k]=e at *
      obtain ⟨a2,c2,rfl,hcc,hm3,-⟩:=zrM hlv
      have hm4:c2≤9223372036854775807:=by unfold maxLen at hm3; omega
      clear hm3
      have HS:=Lib.hid hs; clear hs
      have HLV:=Lib.hid hlv; clear hlv hv1 hat
      have HS3:=Lib.hid hS3; clear hS3
      go_wp2
      go_loopw [3] (fun j wr2=>∃ k2:Nat,k2≤e.ls.length∧j = .int .i64 k2∧Soil S wr wr2) (fun j _=>e.ls.length - (intOf j).toNat)
      case atStart=>exact ⟨0,by omega,rfl,Soil.refl _ _⟩
      case round =>
        obtain ⟨k2,hk2,rfl,hs2⟩:=hrel
        obtain ⟨y4,d4,d4k⟩:=hs2.cell _ _ _ hc4
        have d4k:y4=_:=d4k
        subst d4k
        by_cases hlt2:k2 < e.ls.length
        · obtain ⟨l2,hl2,hv2⟩:=zqB hs2 HLV.out
          obtain ⟨a',c',e1,-,-,hat⟩:=zrM hv2
          simp only [Value.slice.injEq] at e1
          obtain ⟨rfl,-,rfl⟩:=e1
          obtain ⟨b2,o2,rfl,hS,hcell⟩:=hat k2 l2[k2] (List.getElem?_eq_getElem (by omega))
          have hf:wr.frozen? ⟨b2,o2 + k2 * 2 + 1,none⟩=false:=((HS.out.trans hs2).frz b2).2 (HU.out _ _ hS) _
          have HT:=Lib.hid (hs2.trans (Soil.set hcell ⟨-7,rfl⟩ hS)); clear hs2 hv2 hat hS
          go_wp2
          go_roundw
          case rel=>exact ⟨k2 + 1,by omega,by go_num,HT.out⟩
          case measure=>simp [intOf]; omega
        · have hk3:k2=e.ls.length:=by omega
          subst hk3
          obtain ⟨y3,d3,t3,rfl⟩:=hs2.cell _ _ _ hc3
          have hf:wr.frozen? ⟨b,o + k * 5 + 3,none⟩=false:=((HS.out.trans hs2).frz b).2 (HU.out _ _ HS3.out) _
          have HT:=Lib.hid ((HS.out.trans hs2).trans (Soil.set d3 ⟨⟨#[63]⟩,rfl⟩ HS3.out)); clear hs2
          go_wp2
          go_roundw
          case rel=>exact ⟨k + 1,by omega,by go_num,HT.out⟩
          case measure=>simp [intOf]; omega
    · have hk3:k=l.length:=by omega
      subst hk3
      go_wp2
      go_end0
      exact ⟨rfl,hs⟩
def zja (P:Program) (f:Nat) (ok:List (List PV)→Prop):Prop :=
 ∀ (S:Nat→Nat→Prop) (w:World) (v:Value) (rows:List (List PV)),ok rows→(∀ b o,S b o→Unf w b)→RepP S w (.list rows) v→Calls P f #[v] w fun e w'=>e = .returned (.tuple #[])∧Soil S w w'
section
variable {P:Program} {x:Cx} {nt:Nat} {st:St}
theorem zer {ops:Array Oper}:∀ (p:List LOper) {q:List LOper} {l:List Oper},Zc P nt ops l=some (p ++ q)→∃ l1 l2,l=l1 ++ l2∧Zc P nt ops l1=some p∧Zc P nt ops l2=some q
 | [],q,l,h=>⟨[],l,rfl,rfl,h⟩
 | o :: p,q,l,h=>by
  cases l with
  | nil=>simp [Zc] at h
  | cons y l =>
   simp only [Zc] at h
   split at h <;> try (cases h; done)
   rename_i lo r h1 h2
   simp only [List.cons_append,Option.some.injEq,List.cons.injEq] at h
   obtain ⟨rfl,rfl⟩:=h
   obtain ⟨l1,l2,rfl,g1,g2⟩:=zer p h2
   exact ⟨y :: l1,l2,rfl,by simp only [Zc,h1,g1],g2⟩
theorem Zo.wp_app {ops : Array Oper} {K : St → Prop} {Q : Exit → Act → World → Prop} {l2 : List Oper} (hK : ∀ st a w, K st → Rel x nt st a w → wpList P ops Q l2 a w) : ∀ (l : List Oper) (lops : List LOper) (st : St) (a : Act) (w : World),
    Zc P nt ops l=some lops→Zo P lops K st→Rel x nt st a w→wpList P ops Q (l ++ l2) a w
  | [],lops,st,a,w,hl,h,hrel=>by
    simp only [Zc,Option.some.injEq] at hl; subst hl
    exact hK st a w h hrel
  | o :: l,lops,st,a,w,hl,h,hrel=>by
    simp only [Zc] at hl
    split at hl <;> try (cases hl; done)
    rename_i lo r h1 h2
    cases hl
    unfold Zz at h1
    split at h1 <;> try (cases h1; done)
    rename_i lop hop
    split at h1 <;> try (cases h1; done)
    rename_i hd
    have hd':∀ t,o.dst=some t→t < nt:=by
      intro t e
      rw [e] at hd
      simpa [zna] using hd
    have skip:Region.wanted o (yielded ops a.tmps)=false→Zo P r K (st.put o.dst .undef st.heap)→wpList P ops Q (o :: (l ++ l2)) a w:=by
      intro hw hr
      unfold wpList
      rw [if_neg (by simp [hw])]
      refine Zo.wp_app hK l r _ _ w h2 hr ?_
      obtain ⟨⟨C,hr1,he⟩,hdf,hsz⟩:=hrel
      exact zbL hsz hdf hr1 he (fun _ _ h=>h) .undef hd'
    have take:Region.wanted o (yielded ops a.tmps)=true→WOp P true lop st (fun v H=>Zo P r K (st.put o.dst v H))→wpList P ops Q (o :: (l ++ l2)) a w:=by
      intro hw hr
      unfold wpList
      rw [if_pos hw]
      exact .inl (hr.wp hop hd' hrel fun v H' a' w' hk hrel'=>Zo.wp_app hK l r _ a' w' h2 hk hrel')
    split at h1
    · rename_i hg
      cases h1
      simp only [Zo] at h
      exact take (by simp [Region.wanted,hg]) h
    · rename_i j want hg
      split at h1 <;> try (cases h1; done)
      rename_i t ht
      split at h1 <;> try (cases h1; done)
      rename_i htn
      cases h1
      simp only [Zo] at h
      obtain ⟨⟨C,hr1,he⟩,hdf,hsz⟩:=hrel
      have hy:yielded ops a.tmps j=match a.tmps.getD t Go.undef with | .bool b=>some b | _=>none:=by
        unfold yielded
        rw [ht]
        have:t < a.tmps.size:=by rw [hsz]; exact htn
        have e:a.tmps[t]? = some (a.tmps.getD t Go.undef):=by simp [this]
        simp only [Option.bind_some,e]
        cases a.tmps.getD t Go.undef <;> rfl
      have het:=he t
      split at h
      · rename_i b hb
        rw [hb] at het
        rw [het.bool_inv] at hy
        have hwd:Region.wanted o (yielded ops a.tmps)=(b == want):=by
          simp only [Region.wanted,hg,hy]
          cases b <;> cases want <;> rfl
        split at h
        · rename_i e; exact take (by rw [hwd,e]; simp) h
        · rename_i e; exact skip (by rw [hwd]; simpa using e) h
      · rename_i hb
        rw [hb] at het
        rw [het.undef_inv] at hy
        exact skip (by simp only [Region.wanted,hg,hy]; rfl) h
      · exact h.elim
theorem zsI {pre : List LOper} {d : Option Nat} {f hot : Nat} {so : Bool} {X : LOpd} {ok : List (List PV) → Prop} {Q : AE → St → Prop} (hsp : zja P f ok) (hS0 : ∀ b o, ¬ x.S0 b o)
    (h:Zo P pre (fun st1=>(∃ rows,X.ev st1 = .list rows∧ok rows)∧(∀ (id:Nat) v sto ipu T sz rows,st1.heap[id]? = some (.arr v sto ipu T sz rows)→sto=true)∧∀ st2,znT st1 st2→Q .normal (st2.put d (.tup []) st2.heap)) st) :
    W P x nt (.reg none (pre ++ [⟨d,.call f [X] hot,none,so⟩])) Q st:=by
  intro c hc a w hrel
  cases c <;> simp only [zh,reduceCtorEq] at hc
  case region id rops draw =>
    split at hc <;> try (cases hc; done)
    rename_i l0 hl
    split at hc
    · rename_i hd
      subst hd
      split at hc
      · unfold Z7 at hc
        split at hc <;> cases hc
      · unfold zaB at hc
        split at hc <;> cases hc
    · rename_i hd
      cases hc
      obtain rfl:draw=false:=by simpa using hd
      refine wp_region_list ?_
      obtain ⟨l1,l2,e,g1,g2⟩:=zer pre hl
      rw [e]
      refine Zo.wp_app (fun st1 a w hk hr=>?_) l1 _ st a w g1 h hrel
      obtain ⟨⟨rows,hX,hok⟩,hst,hq⟩:=hk
      cases l2 with
      | nil=>simp [Zc] at g2
      | cons o l2 =>
        simp only [Zc] at g2
        split at g2 <;> try (cases g2; done)
        rename_i lo r h1 h2
        simp only [Option.some.injEq,List.cons.injEq] at g2
        obtain ⟨rfl,rfl⟩:=g2
        cases l2 with
        | cons y l2 =>
          simp only [Zc] at h2
          split at h2 <;> cases h2
        | nil =>
        unfold Zz at h1
        split at h1 <;> try (cases h1; done)
        rename_i lop hop
        split at h1 <;> try (cases h1; done)
        rename_i hd
        have hd':∀ t,o.dst=some t→t < nt:=by
          intro t e
          rw [e] at hd
          simpa [zna] using hd
        split at h1
        · rename_i hg
          cases h1
          unfold wpList
          rw [if_pos (by simp [Region.wanted,hg])]
          refine .inl ?_
          obtain ⟨⟨C,hr1,he⟩,hdf,hsz⟩:=hr
          obtain ⟨bs,tys,ho,hb,hargs⟩:=zg9 hop
          have hreps:=zbI he hargs
          obtain ⟨v,hv⟩:∃ v,bs.map a.eval=#[v]:=by
            have:=hreps.1
            have h1:(bs.map a.eval).size=1:=by simpa using this
            exact ⟨(bs.map a.eval)[0], by apply Array.ext; · simpa using h1
                                          · intro i h2 h3; simp at h3; subst h3; rfl⟩
          have hrep:RepV (zA x C st1.heap w) w C (.list rows) v:=by
            have e1:bs.toList.map a.eval = [v]:=by rw [← Array.toList_map,hv]
            rw [e1] at hreps
            have:=hreps.2 0 _ v rfl rfl
            rw [hX] at this
            exact this
          have hp:=hrep.list_inv
          have hu:∀ b o,zA x C st1.heap w b o→Unf w b:=fun b o hs=>by
            rcases hs.1 with q | q
            · exact (hS0 b o q).elim
            · exact q.2
          unfold Oper.wp
          have hex:(execOp a.eval o).run P w = .ok (.enter f #[v]) w:=by
            have:=zfF hb #[v] w
            simp only [execOp,ho,resolve,Deferred.ofValue,Act.eval,Sem.run_bind,Sem.run_pure,Result.andThen_ok,invoke]
            rw [← hv] at this ⊢
            simpa using this
          rw [show (execOp a.eval o).run P w = .ok (.enter f #[v]) w from hex,Oper.upon_enter]
          refine (hsp _ w v rows hok hu hp).mono ?_
          rintro e w' ⟨rfl,hs⟩
          obtain ⟨st2,k1,⟨⟨C2,hr2,he2⟩,hdf2,hsz2⟩⟩:=Rel.soil hr1 he hdf hsz hs (fun b o h=>h) hst hS0 (fun b o h=>hr1.old_apart hS0 h)
          exact ⟨_,hq st2 k1,zbL hsz2 hdf2 hr2 he2 (fun _ _ h=>h) (.tup [] [] rfl fun j p x h=>by simp at h) hd'⟩
        · rename_i j want hg
          split at h1 <;> try (cases h1; done)
          split at h1 <;> cases h1
  all_goals (repeat' (split at hc)) <;> first | (cases hc; done) | (unfold zaB at hc; split at hc <;> cases hc; done) | (unfold Z7 at hc; split at hc <;> cases hc; done) | (obtain ⟨_,e⟩:=zT hc; cases e; done)
end
theorem zaF:zja Tryz.prog 17 fun rows=>∃ l:List Entry,rows=l.map cE:=by
 rintro S w v rows ⟨l,rfl⟩ hu hv
 exact zgU l hu hv
def zmk:PV→PV
 | .list rows => .oll rows
 | .rptr cells => .olp cells
 | .vlist _ => .top
 | .agg _ => .top
 | .tup _ => .top
 | .clo .. => .top
 | .clob .. => .top
 | p=>p
def unR:PV→PV
 | .oll rows => .list rows
 | .olp cells => .rptr cells
 | .vlist _ => .top
 | .agg _ => .top
 | .tup _ => .top
 | .clo .. => .top
 | .clob .. => .top
 | p=>p
def zgV:AObj→AObj
 | .box cs => .box (cs.map zmk)
 | ob=>ob
def znW:AObj→AObj
 | .box cs => .box (cs.map unR)
 | .arr v st ipu T sz rows => .arr v st ipu T sz (if ipu then rows.map (·.map unR) else rows)
 | .gone => .gone
section
variable {S S':Nat→Nat→Prop} {w:World} {C:Conc} {O:Nat→Nat→Prop}
theorem zjb (hS:∀ b o,S b o→O b o) (ho:∀ b o,C.old b o→O b o) {p:PV} {v:Value} (h:RepV S w C p v):RepV S' w { C with old:=O } (zmk p) v:=by
 cases h with
 | pure h =>
  have e:zmk p=olc p:=by cases h <;> rfl
  rw [e]
  exact zm8 (C := { C with old:=O }) (h.mono hS fun _ _ _=>rfl)
 | any=>exact .any
 | undef=>exact .undef
 | vlist=>exact .any
 | agg=>exact .any
 | tup=>exact .any
 | clo=>exact .any
 | clob=>exact .any
 | ptr id off hi=>exact .ptr (C := { C with old:=O }) id off hi
 | aptr id sz idx off g n c hi hs=>exact .aptr (C := { C with old:=O }) id sz idx off g n c hi hs
 | aptrOld id ver sz idx off hi hv h1=>exact .aptrOld (C := { C with old:=O }) id ver sz idx off hi hv h1
 | arr id hi h1=>exact .arr (C := { C with old:=O }) id hi h1
 | arrOld id ver hi hv h1=>exact .arrOld (C := { C with old:=O }) id ver hi hv h1
 | oll rows h=>exact .oll rows (h.mono ho fun _ _ _=>rfl)
 | olp cells h=>exact .olp cells (h.mono ho fun _ _ _=>rfl)
theorem zsJ (hS:∀ b o,S b o→S' b o) (ho:∀ b o,C.old b o→S' b o) {p:PV} {v:Value} (h:RepV S w C p v):RepV S' w { C with old:=O } (unR p) v:=by
 cases h with
 | pure h =>
  have e:unR p=p:=by cases h <;> rfl
  rw [e]
  exact .pure (h.mono hS fun _ _ _=>rfl)
 | any=>exact .any
 | undef=>exact .undef
 | vlist=>exact .any
 | agg=>exact .any
 | tup=>exact .any
 | clo=>exact .any
 | clob=>exact .any
 | ptr id off hi=>exact .ptr (C := { C with old:=O }) id off hi
 | aptr id sz idx off g n c hi hs=>exact .aptr (C := { C with old:=O }) id sz idx off g n c hi hs
 | aptrOld id ver sz idx off hi hv h1=>exact .aptrOld (C := { C with old:=O }) id ver sz idx off hi hv h1
 | arr id hi h1=>exact .arr (C := { C with old:=O }) id hi h1
 | arrOld id ver hi hv h1=>exact .arrOld (C := { C with old:=O }) id ver hi hv h1
 | oll rows h=>exact .pure (h.mono ho fun _ _ _=>rfl)
 | olp cells h=>exact .pure (h.mono ho fun _ _ _=>rfl)
end
def AObj.isBox:AObj→Prop
 | .arr .. => False
 | _=>True
theorem zbN {C:Conc} {O:Nat→Nat→Prop} {id b:Nat} (ob:AObj):(zgV ob).holds { C with old:=O } id b↔ob.holds C id b:=by
 cases ob <;> exact Iff.rfl
theorem zeW {C:Conc} {O:Nat→Nat→Prop} {id b:Nat} (ob:AObj):(znW ob).holds { C with old:=O } id b↔ob.holds C id b:=by
 cases ob <;> exact Iff.rfl
theorem znX {C:Conc} {O:Nat→Nat→Prop} {id b o:Nat} (ob:AObj):(znW ob).free { C with old:=O } id b o↔ob.free C id b o:=by
 cases ob with
 | box cs=>exact Iff.rfl
 | gone=>exact Iff.rfl
 | arr v st ipu T sz rows =>
  have e:(if ipu=true then rows.map (·.map unR) else rows).length=rows.length:=by split <;> simp
  show ((C.sv id).ownBlock=some b→st=false∧ipu=false∧o < (if ipu=true then rows.map (·.map unR) else rows).length * sz)↔_
  rw [e]
  exact Iff.rfl
section
variable {x:Cx} {C C':Conc} {H H':List AObj} {w w':World}
def zaG (x:Cx) (C:Conc) (H:List AObj) (w:World):Cx :=
 ⟨w,fun _ _=>False,{ C with old:=fun b o=>C.old b o∨zA x C H w b o },H.map zgV⟩
theorem HR.rootR (hr:HR x C H w) (hbox:∀ (id:Nat) ob,H[id]? = some ob→ob.isBox):HR (zaG x C H w) (zaG x C H w).C0 (H.map zgV) w:=by
 have hnot:∀ b o,(C.old b o∨zA x C H w b o)→b < w.heap.size∧∀ (id:Nat) ob,H[id]? = some ob→¬ ob.holds C id b:=by
  rintro b o (h | h)
  ·
   exact ⟨(hr.old b o h).1,(hr.old b o h).2.1⟩
  ·
   refine ⟨h.2.1,fun id ob hid hb=>?_⟩
   have hf:=h.2.2 id ob hid
   have hx:=hbox id ob hid
   cases ob with
   | box cs=>exact hf hb
   | arr=>exact hx
   | gone=>exact hb
 have hnot2:∀ b o,(C.old b o∨zA x C H w b o)→∀ (id:Nat) ob,(H.map zgV)[id]? = some ob→¬ ob.holds (zaG x C H w).C0 id b:=by
  intro b o h id ob hid hb
  obtain ⟨ob1,h1,rfl⟩:=zJ hid
  exact (hnot b o h).2 id ob1 h1 ((zbN ob1).1 hb)
 refine ⟨by show C.n=(H.map zgV).length; rw [List.length_map]; exact hr.n,fun id ob hid=>?_,fun id id' ob ob' b h1 h2 h3 h4=>?_,fun id ob b h hb => .inr ⟨id,ob,h,hb⟩,fun b o h=>h.elim,Nat.le_refl _,rfl,rfl,rfl,fun b _ _=>rfl,Nat.le_refl _,fun _ _=>rfl,fun _ _ => .inl ⟨rfl,rfl⟩,fun b o h=>⟨(hnot b o h).1,hnot2 b o h,h,(hnot b o h).1,hnot2 b o h⟩,fun _ _ h=>h,fun _ _ h=>h⟩
 ·
  obtain ⟨ob1,h1,rfl⟩:=zJ hid
  have hx:=hbox id ob1 h1
  have ho:=hr.obj id ob1 h1
  cases ob1 with
  | box cs =>
   obtain ⟨arr,T,e1,e2,e3⟩:=ho
   refine ⟨arr,T,e1,by simpa using e2,fun j p v hj hv=>?_⟩
   obtain ⟨q,hq,rfl⟩:=zJ hj
   obtain ⟨f1,f2⟩:=e3 j q v hq hv
   exact ⟨f1,zjb (fun b o h => .inr h) (fun b o h => .inl h) f2⟩
  | arr=>exact hx.elim
  | gone=>trivial
 ·
  obtain ⟨ob1,g1,rfl⟩:=zJ h1
  obtain ⟨ob2,g2,rfl⟩:=zJ h2
  exact hr.apart id id' ob1 ob2 b g1 g2 ((zbN ob1).1 h3) ((zbN ob2).1 h4)
theorem HR.unrootR (hr : HR x C H w) (hxo : ∀ b o, ¬ x.C0.old b o) (h' : HR (zaG x C H w) C' H' w') :
    HR x { C' with old:=fun _ _=>False } (H'.map znW) w'∧∀ p v,RepV (zA (zaG x C H w) C' H' w') w' C' p v→RepV (zA x { C' with old:=fun _ _=>False } (H'.map znW) w') w' { C' with old:=fun _ _=>False } (unR p) v:=by
  have hCo:∀ b o,¬ C.old b o:=fun b o h=>hxo b o (hr.old b o h).2.2.1
  have hmine:∀ b,(w.heap.size≤b∨∃ (i:Nat) (ob0:AObj),(H.map zgV)[i]? = some ob0∧ob0.holds (zaG x C H w).C0 i b)→x.w0.heap.size≤b∨∃ (i:Nat) (ob0:AObj),x.H0[i]? = some ob0∧ob0.holds x.C0 i b:=by
    rintro b (h | ⟨i,ob0,h1,h2⟩)
    · exact .inl (Nat.le_trans hr.size h)
    · obtain ⟨ob1,g1,rfl⟩:=zJ h1
      exact hr.mine i ob1 b g1 ((zbN ob1).1 h2)
  have hfree:∀ b o,zj9 C' H' b o→zj9 { C' with old:=fun _ _=>False } (H'.map znW) b o:=by
    intro b o h id ob hid
    obtain ⟨ob1,g1,rfl⟩:=zJ hid
    exact (znX ob1).2 (h id ob1 g1)
  have hS:∀ b o,zA (zaG x C H w) C' H' w' b o→zA x { C' with old:=fun _ _=>False } (H'.map znW) w' b o:=by
    rintro b o ⟨q,h2,h3⟩
    rcases q with q | ⟨q,hu⟩
    · exact q.elim
    · exact ⟨.inr ⟨hmine b q,hu⟩,h2,hfree b o h3⟩
  have hold:∀ b o,C'.old b o→zA x { C' with old:=fun _ _=>False } (H'.map znW) w' b o:=by
    intro b o h
    obtain ⟨h1,h2,h3,h4,h5⟩:=h'.old b o h
    rcases (show C.old b o∨zA x C H w b o from h3) with q | q
    · exact (hCo b o q).elim
    · exact ⟨q.1.imp_right fun g=>⟨g.1,h'.unf b h4 g.2⟩,h1,hfree b o fun id ob hid=>AObj.free_of_not (h2 id ob hid) o⟩
  have hm:∀ p v,RepV (zA (zaG x C H w) C' H' w') w' C' p v→RepV (zA x { C' with old:=fun _ _=>False } (H'.map znW) w') w' { C' with old:=fun _ _=>False } (unR p) v:=fun p v h=>zsJ hS hold h
  refine ⟨⟨by simpa using h'.n,fun id ob hid=>?_,fun id id' ob ob' b h1 h2 h3 h4=>?_,fun id ob b h hb=>?_,fun b o h=>?_,Nat.le_trans hr.size h'.size,h'.os.trans hr.os,h'.tape.trans hr.tape,h'.output.trans hr.output,fun b hb h=>?_,?_,fun i hi=>?_,fun i hi=>?_,fun b o h=>h.elim,fun b o h=>(hxo b o h).elim,fun b hb h=>h'.unf b (Nat.lt_of_lt_of_le hb hr.size) (hr.unf b hb h)⟩,hm⟩
  · obtain ⟨ob1,g1,rfl⟩:=zJ hid
    have ho:=h'.obj id ob1 g1
    cases ob1 with
    | box cs =>
      obtain ⟨arr,T,e1,e2,e3⟩:=ho
      refine ⟨arr,T,e1,by simpa using e2,fun j p v hj hv=>?_⟩
      obtain ⟨q,hq,rfl⟩:=zJ hj
      obtain ⟨f1,f2⟩:=e3 j q v hq hv
      exact ⟨f1,hm _ _ f2⟩
    | arr v st ipu T sz rows =>
      obtain ⟨e1,e2,e3,xs,e4,e5⟩:=ho
      have e:(if ipu=true then rows.map (·.map unR) else rows).length=rows.length:=by split <;> simp
      refine ⟨e1,e2,fun row hrow=>?_,xs,by rw [e]; exact e4,fun k row j p u a b c=>?_⟩
      · split at hrow
        · obtain ⟨r,hr1,rfl⟩:=List.mem_map.1 hrow
          rw [List.length_map]; exact e3 r hr1
        · exact e3 row hrow
      · cases ipu with
        | true =>
          simp only [if_true] at a ⊢
          obtain ⟨r,g2,rfl⟩:=zJ a
          obtain ⟨q,g3,rfl⟩:=zJ b
          have:=e5 k r j q u g2 g3 c
          simp only [if_true] at this
          exact ⟨this.1,hm _ _ this.2⟩
        | false =>
          simp only [Bool.false_eq_true,if_false] at a ⊢
          have:=e5 k row j p u a b c
          simp only [Bool.false_eq_true,if_false] at this
          exact ⟨this.1,this.2.mono hS fun _ _ _=>rfl⟩
    | gone=>trivial
  · obtain ⟨ob1,g1,rfl⟩:=zJ h1
    obtain ⟨ob2,g2,rfl⟩:=zJ h2
    exact h'.apart id id' ob1 ob2 b g1 g2 ((zeW ob1).1 h3) ((zeW ob2).1 h4)
  · obtain ⟨ob1,g1,rfl⟩:=zJ h
    exact hmine b (h'.mine id ob1 b g1 ((zeW ob1).1 hb))
  · obtain ⟨h1,h2,h3⟩:=hr.s0 b o h
    have hst:zA x C H w b o:=⟨.inl h,Nat.lt_of_lt_of_le h1 hr.size,h2⟩
    have hco:C'.old b o:=h'.old0 b o (.inr hst)
    refine ⟨h1,(hold b o hco).2.2,?_⟩
    obtain ⟨-,-,-,h4,h5⟩:=h'.old b o hco
    exact (zbg (h'.frame b h4 h5)).trans h3
  · refine (h'.frame b (Nat.lt_of_lt_of_le hb hr.size) fun i ob0 hi hh=>?_).trans (hr.frame b hb h)
    obtain ⟨ob1,g1,rfl⟩:=zJ hi
    rcases hr.mine i ob1 b g1 ((zbN ob1).1 hh) with q | ⟨j,ob2,q1,q2⟩
    · omega
    · exact h j ob2 q1 q2
  · have h1:=h'.len
    have h2:=hr.len
    simp only [zaG,List.length_map] at h1 ⊢
    omega
  · have hi':i < H.length:=Nat.lt_of_lt_of_le hi hr.len
    exact (h'.ids i (by simpa [zaG] using hi')).trans (hr.ids i hi)
  · have hi':i < H.length:=Nat.lt_of_lt_of_le hi hr.len
    rcases h'.vers i (by simpa [zaG] using hi') with ⟨a,b⟩ | a
    · rcases hr.vers i hi with ⟨c,d⟩ | c
      · exact .inl ⟨a.trans c,b.trans d⟩
      · exact .inr (Nat.lt_of_lt_of_eq c a.symm)
    · rcases hr.vers i hi with ⟨c,d⟩ | c
      · exact .inr (by have a:C.ver i < C'.ver i:=a; rw [← c]; exact a)
      · exact .inr (Nat.lt_trans c a)
end
def znY (st:St):St:=⟨fun t=>zmk (st.env t),st.heap.map zgV⟩
def zxG (st:St):St:=⟨fun t=>unR (st.env t),st.heap.map znW⟩
theorem zsK {P : Program} {x : Cx} {nt : Nat} {lc : LC} {Q : AE → St → Prop} {st : St} (hxo : ∀ b o, ¬ x.C0.old b o) (hbox : ∀ (id : Nat) ob, st.heap[id]? = some ob → ob.isBox)
    (h:∀ x2:Cx,(∀ b o,¬ x2.S0 b o)→x2.H0=st.heap.map zgV→W P x2 nt lc (fun e st'=>Q e (zxG st')) (znY st)):W P x nt lc Q st:=by
  intro c hc a w ⟨⟨C,hr,he⟩,hdf,hsz⟩
  have h2:=h (zaG x C st.heap w) (fun b o h=>h) rfl c hc a w ⟨⟨(zaG x C st.heap w).C0,hr.rootR hbox,fun t=>zjb (fun b o h => .inr h) (fun b o h => .inl h) (he t)⟩,hdf,hsz⟩
  have back:∀ st' a' w',Rel (zaG x C st.heap w) nt st' a' w'→Rel x nt (zxG st') a' w':=by
    rintro st' a' w' ⟨⟨C',hr',he'⟩,hdf',hsz'⟩
    obtain ⟨k1,k2⟩:=hr.unrootR hxo hr'
    exact ⟨⟨_,k1,fun t=>k2 _ _ (he' t)⟩,hdf',hsz'⟩
  refine wp_mono h2 fun e a' w' hq=>?_
  cases e <;> first | exact hq.elim | (obtain ⟨st',g1,g2⟩:=hq; exact ⟨_,g1,back st' a' w' g2⟩)
theorem zm (n a b:Int):zg Tryz.prog 60 [.int .i64 n,.int .i64 a,.int .i64 b] [] (.bool (ZX n a b)) []:=by
 refine zg.of_walk Tryz.func60 Tryz.ntmps60 zyu zyv (by simp) fun x hx=>?_
 by_cases h:a≤n
 all_goals
  simp only [go_sem,L60,R60,h,decide_true,decide_false]
  refine zb hx ?_
  simp only [go_sem,L60,R60,ZX,h,decide_false,true_and,false_and]
theorem zhj (a:Id):zg Tryz.prog 133 [.agg (cId a)] [] (.bool (zeV a)) []:=by
 refine zg.of_walk Tryz.func133 Tryz.ntmps133 zuK zuL (by simp) fun x hx=>?_
 simp only [go_sem,zxe,zxf,cId]
 refine za (.pure (zm _ _ _)) ?_
 cases h:ZX a.r 0 1
 ·
  simp only [go_sem]
  refine zb hx ?_
  simp [go_sem,zxe,zxf,zeV,h]
 ·
  simp only [go_sem]
  refine za (.pure (zm _ _ _)) ?_
  simp only [go_sem]
  refine zb hx ?_
  simp [go_sem,zxe,zxf,zeV,h]
theorem zdZ (r n:Int):zg Tryz.prog 34 [.int .i64 r,.int .i64 n] [] (.agg [.int .i64 r,.int .i64 n]) []:=by
 refine zg.of_walk Tryz.func34 Tryz.ntmps34 zx0 zx1 (by simp) fun x hx=>?_
 simp only [go_sem,L34,R34]
 refine zb hx ?_
 simp [go_sem,L34,R34]
theorem zbx (a b:Id):zg Tryz.prog 131 [.agg (cId a),.agg (cId b)] [] (.bool (zP a b)) []:=by
 refine zg.of_walk Tryz.func131 Tryz.ntmps131 zuG zuH (by simp) fun x hx=>?_
 by_cases h1:a.r < b.r
 ·
  simp only [go_sem,zsA,zsB,cId,h1,decide_true]
  refine zb hx ?_
  simp [go_sem,zsA,zsB,zP,h1]
 ·
  by_cases h2:a.r=b.r
  ·
   simp only [go_sem,zsA,zsB,cId,h1,h2,decide_true,decide_false,Int.lt_irrefl]
   refine zb hx ?_
   simp [go_sem,zsA,zsB,zP,h2]
  ·
   simp only [go_sem,zsA,zsB,cId,h1,h2,decide_false]
   refine zb hx ?_
   simp [go_sem,zsA,zsB,zP,h1,h2]
theorem zll {x y:List Id} (hl:x.length=y.length) (h:∀ k,k < x.length→nth x k=nth y k):x=y:=by
 refine List.ext_getElem hl fun k h1 h2=>?_
 have:=h k h1
 rwa [zy _ _ h1,zy _ _ h2] at this
theorem zD {k:Nat} (h:k < 9223372036854775807):IntKind.i64.wrap ((k:Int) + 1)=((k + 1:Nat):Int):=by
 rw [IntWalk.i64_in _ (by omega)]; omega
theorem zd0 (a b:Id):(decide (a.r=b.r) && decide (a.n=b.n))=decide (a=b):=by
 rw [Bool.eq_iff_iff]; simp [Id.eq_iff]
theorem zes (a b:List Id) (hm:a.length≤9223372036854775807):zg Tryz.prog 46 [.list (a.map cId),.list (b.map cId)] [] (.bool (decide (a=b))) []:=by
 refine zg.of_walk Tryz.func46 Tryz.ntmps46 zx8 zx9 (by simp) fun x hx=>?_
 by_cases hl:a.length=b.length
 ·
  have hl':((a.length:Int)=(b.length:Int))=True:=by simp [hl]
  simp only [go_sem,L46,R46,hl']
  refine zr [0,1,5] 0 (fun n st=>∃ k:Nat,k + n=a.length∧(∀ j,j < k→nth a j=nth b j) ∧
   st=⟨mkE .top [(0,.list (a.map cId)),(1,.list (b.map cId)),(5,.int .i64 k)],[]⟩) a.length (by simp [hx]) (by simp) ?_ ?_
  ·
   refine ⟨0,by omega,fun j h=>by omega,?_⟩
   simp [zi,go_sem,zc,zd,pos,List.range_succ]
  ·
   rintro n st ⟨k,hk,hz,rfl⟩
   simp only [go_sem]
   by_cases hlt:k < a.length
   ·
    have hg:a[k]? = some (nth a k):=zk _ _ hlt
    have hlt2:k < b.length:=by omega
    have hg2:b[k]? = some (nth b k):=zk _ _ hlt2
    have hw:=zD (k:=k) (by omega)
    by_cases he:nth a k=nth b k
    ·
     simp only [go_sem,hlt,hlt2,hg,hg2,cId,he,hw]
     refine ⟨by simp,n - 1,by omega,k + 1,by omega,fun j hj=>?_,?_⟩
     ·
      by_cases e:j=k
      ·
       rw [e]; exact he
      ·
       exact hz j (by omega)
     ·
      simp [zi,go_sem,zc,zd,pos]
    ·
     simp only [go_sem,hlt,hlt2,hg,hg2,cId,zd0,he]
     refine zb hx ?_
     have:¬ a=b:=fun e=>he (by rw [e])
     simp [go_sem,L46,R46,this]
   ·
    simp only [go_sem,hlt,decide_false]
    refine zb hx ?_
    have:a=b:=zll hl fun j hj=>hz j (by omega)
    simp [go_sem,L46,R46,this]
 ·
  have hl':((a.length:Int)=(b.length:Int))=False:=by simp; omega
  simp only [go_sem,L46,R46,hl']
  refine zb hx ?_
  have:¬ a=b:=fun e=>hl (by rw [e])
  simp [go_sem,L46,R46,this]
def zaH {α:Type} (p:α→Bool):List α→Nat→Int
 | [],_ => -1
 | x :: l,k=>if p x=true then (k:Int) else zaH p l (k + 1)
theorem za9 {α:Type} [Inhabited α] (p:α→Bool) (l:List α) (k:Nat) (h:k < l.length):zaH p (l.drop k) k=if p (nth l k)=true then (k:Int) else zaH p (l.drop (k + 1)) (k + 1):=by
 rw [List.drop_eq_getElem_cons h,zaH,zy _ _ h]
instance:Inhabited Entry:=⟨⟨default,0,⟨#[]⟩,[]⟩⟩
theorem zf7 {α:Type} (p:α→Bool):∀ (l:List α) (k:Nat),zaH p l k = -1∧l.any p=false∨(k:Int)≤zaH p l k∧l.any p=true
 | [],k => .inl ⟨rfl,rfl⟩
 | x :: l,k=>by
  simp only [zaH,List.any_cons]
  cases hx:p x
  ·
   rcases zf7 p l (k + 1) with ⟨h1,h2⟩ | ⟨h1,h2⟩
   ·
    exact .inl ⟨by simpa using h1,by simp [h2]⟩
   ·
    exact .inr ⟨by simp; omega,by simp [h2]⟩
  ·
   exact .inr ⟨by simp,by simp⟩
theorem zcb {α:Type} (p:α→Bool) (l:List α):decide (0≤zaH p l 0)=l.any p:=by
 rcases zf7 p l 0 with ⟨h1,h2⟩ | ⟨h1,h2⟩
 ·
  rw [h1,h2]; rfl
 ·
  rw [h2]; simp; omega
theorem zc4 (l : List Entry) (g : Nat) (caps : List PV) (Hs : List AObj) (p : Entry → Bool) (hg : zah Tryz.prog g = true) (hl : l.length ≤ 9223372036854775806) (hc : ClosedH Hs caps)
    (hp:∀ e ∈ l,zg Tryz.prog g (.agg (cE e) :: caps) Hs (.bool (p e)) Hs) :
    zg Tryz.prog 178 [.list (l.map cE),.clo g caps] Hs (.int .i64 (zaH p l 0)) Hs:=by
  refine zg.of_walk Tryz.func178 Tryz.ntmps178 zvo zvp (by simp) fun x hx=>?_
  simp only [go_sem,zxo,zxp]
  refine za7 [0,1,7,8] (fun n st=>∃ k:Nat,k + n=l.length∧zaH p (l.drop k) k=zaH p l 0 ∧
    st=⟨mkE .top [(0,.list (l.map cE)),(1,.clo g caps),(7,.int .i64 l.length),(8,.int .i64 k)],Hs⟩) l.length ?_ ?_
  · refine ⟨0,by omega,by simp,?_⟩
    simp [ZW,go_sem]
  · rintro n st ⟨k,hk,hi,rfl⟩
    by_cases hlt:k < l.length
    · have hgt:l[k]? = some (nth l k):=zk _ _ hlt
      have wk:=zD (k:=k) (by omega)
      rw [za9 p l k hlt] at hi
      simp only [go_sem,hlt,hgt,cE,cId]
      refine zan rfl hg (.whole (hp (nth l k) (by rw [zy _ _ hlt]; exact List.getElem_mem hlt)) rfl ?_ hc.sub hc.back) ?_
      · simp only [go_sem,cE,cId]
        rw [hc.caps]
      cases hpk:p (nth l k)
      · rw [if_neg (by simp [hpk])] at hi
        simp only [go_sem,wk]
        exact ⟨n - 1,by omega,k + 1,by omega,hi,by simp [ZW,go_sem]⟩
      · rw [if_pos hpk] at hi
        simp only [go_sem]
        refine zaq hx rfl hc.kept ?_
        simp [go_sem,zxo,zxp,hi]
    · have:l.drop k = []:=List.drop_eq_nil_of_le (by omega)
      rw [this] at hi
      simp only [go_sem,hlt]
      refine zaq hx rfl hc.kept ?_
      simp [go_sem,zxo,zxp,← hi,zaH]
theorem zjc (l : List Id) (g : Nat) (caps : List PV) (Hs : List AObj) (p : Id → Bool) (hg : zah Tryz.prog g = true) (hl : l.length ≤ 9223372036854775806) (hc : ClosedH Hs caps)
    (hp:∀ e ∈ l,zg Tryz.prog g (.agg (cId e) :: caps) Hs (.bool (p e)) Hs) :
    zg Tryz.prog 193 [.list (l.map cId),.clo g caps] Hs (.int .i64 (zaH p l 0)) Hs:=by
  refine zg.of_walk Tryz.func193 Tryz.ntmps193 zvE zvF (by simp) fun x hx=>?_
  simp only [go_sem,zxw,zxx]
  refine za7 [0,1,7,8] (fun n st=>∃ k:Nat,k + n=l.length∧zaH p (l.drop k) k=zaH p l 0 ∧
    st=⟨mkE .top [(0,.list (l.map cId)),(1,.clo g caps),(7,.int .i64 l.length),(8,.int .i64 k)],Hs⟩) l.length ?_ ?_
  · refine ⟨0,by omega,by simp,?_⟩
    simp [ZW,go_sem]
  · rintro n st ⟨k,hk,hi,rfl⟩
    by_cases hlt:k < l.length
    · have hgt:l[k]? = some (nth l k):=zk _ _ hlt
      have wk:=zD (k:=k) (by omega)
      rw [za9 p l k hlt] at hi
      simp only [go_sem,hlt,hgt,cId,cId]
      refine zan rfl hg (.whole (hp (nth l k) (by rw [zy _ _ hlt]; exact List.getElem_mem hlt)) rfl ?_ hc.sub hc.back) ?_
      · simp only [go_sem,cId,cId]
        rw [hc.caps]
      cases hpk:p (nth l k)
      · rw [if_neg (by simp [hpk])] at hi
        simp only [go_sem,wk]
        exact ⟨n - 1,by omega,k + 1,by omega,hi,by simp [ZW,go_sem]⟩
      · rw [if_pos hpk] at hi
        simp only [go_sem]
        refine zaq hx rfl hc.kept ?_
        simp [go_sem,zxw,zxx,hi]
    · have:l.drop k = []:=List.drop_eq_nil_of_le (by omega)
      rw [this] at hi
      simp only [go_sem,hlt]
      refine zaq hx rfl hc.kept ?_
      simp [go_sem,zxw,zxx,← hi,zaH]
theorem zc5 (l : List Entry) (g : Nat) (caps : List PV) (Hs : List AObj) (p : Entry → Bool) (hg : zah Tryz.prog g = true) (hl : l.length ≤ 9223372036854775806) (hc : ClosedH Hs caps)
    (hp:∀ e ∈ l,zg Tryz.prog g (.agg (cE e) :: caps) Hs (.bool (p e)) Hs) :
    zg Tryz.prog 128 [.list (l.map cE),.clo g caps] Hs (.bool (l.any p)) Hs:=by
  refine zg.of_walk Tryz.func128 Tryz.ntmps128 zuA zuB (by simp) fun x hx=>?_
  simp only [go_sem,zy8,zy9]
  refine za (.whole (zc4 l g caps Hs p hg hl hc hp) rfl ?_ hc.sub hc.back) ?_
  · simp only [go_sem]
    rw [hc.leaf]
  simp only [go_sem]
  refine zaq hx rfl hc.kept ?_
  simp [go_sem,zy8,zy9,zcb]
theorem zjd (l : List Id) (g : Nat) (caps : List PV) (Hs : List AObj) (p : Id → Bool) (hg : zah Tryz.prog g = true) (hl : l.length ≤ 9223372036854775806) (hc : ClosedH Hs caps)
    (hp:∀ e ∈ l,zg Tryz.prog g (.agg (cId e) :: caps) Hs (.bool (p e)) Hs) :
    zg Tryz.prog 114 [.list (l.map cId),.clo g caps] Hs (.bool (l.any p)) Hs:=by
  refine zg.of_walk Tryz.func114 Tryz.ntmps114 zus zut (by simp) fun x hx=>?_
  simp only [go_sem,zy4,zy5]
  refine za (.whole (zjc l g caps Hs p hg hl hc hp) rfl ?_ hc.sub hc.back) ?_
  · simp only [go_sem]
    rw [hc.leaf]
  simp only [go_sem]
  refine zaq hx rfl hc.kept ?_
  simp [go_sem,zy4,zy5,zcb]
def zck (a b:Entry):Bool:=decide (a.id=b.id) && decide (a.c=b.c) && decide (a.t=b.t) && decide (a.ls=b.ls)
theorem zbO (a b:Entry):zg Tryz.prog 19 [.agg (cE a),.agg (cE b)] [] (.bool (zck a b)) []:=by
 refine zg.len2 0 4 rfl (by simp [cE]; rfl) fun hm=>?_
 have hm':a.ls.length≤9223372036854775807:=by simp [maxLen] at hm; omega
 refine zg.of_walk Tryz.func19 Tryz.ntmps19 zxY zxZ (by simp) fun x hx=>?_
 by_cases h1:a.id=b.id
 ·
  by_cases h2:a.c=b.c
  ·
   by_cases h3:a.t=b.t
   ·
    simp only [go_sem,L19,R19,cE,zd0,h1,h2,h3]
    refine za (.pure (zes _ _ hm')) ?_
    simp only [go_sem]
    refine zb hx ?_
    simp [go_sem,L19,R19,zck,h1,h2,h3]
   ·
    simp only [go_sem,L19,R19,cE,zd0,h1,h2,h3]
    refine zb hx ?_
    simp [go_sem,L19,R19,zck,h1,h2,h3]
  ·
   simp only [go_sem,L19,R19,cE,zd0,h1,h2]
   refine zb hx ?_
   simp [go_sem,L19,R19,zck,h1,h2]
 ·
  simp only [go_sem,L19,R19,cE,zd0,h1]
  refine zb hx ?_
  simp [go_sem,L19,R19,zck,h1]
theorem zbl (e:Entry):zg Tryz.prog 58 [.agg (cE e)] [] (.int .i64 (zl e)) []:=by
 refine zg.len2 0 4 rfl (by simp [cE]; rfl) fun hm=>?_
 have hm':e.ls.length≤9223372036854775807:=by simp [maxLen] at hm; omega
 refine zg.of_walk Tryz.func58 Tryz.ntmps58 zyq zyr (by simp) fun x hx=>?_
 simp only [go_sem,L58,R58,cE]
 refine za (.pure (zhj e.id)) ?_
 cases h1:zeV e.id
 ·
  simp only [go_sem]
  refine zb hx ?_
  simp [go_sem,L58,R58,zl,h1]
 simp only [go_sem]
 refine za (.pure (zm _ _ _)) ?_
 cases h2:ZX e.c 1 7
 ·
  simp only [go_sem]
  refine zb hx ?_
  simp [go_sem,L58,R58,zl,h1,h2]
 by_cases h3:12 < e.t.size
 ·
  have h3':decide ((12:Int) < e.t.size)=true:=by simp; omega
  simp only [go_sem,h3']
  refine zb hx ?_
  simp [go_sem,L58,R58,zl,h1,h2,h3]
 have h3':decide ((12:Int) < e.t.size)=false:=by simp; omega
 by_cases h4:6 < e.ls.length
 ·
  have h4':decide ((6:Int) < (e.ls.length:Nat))=true:=by simp; omega
  simp only [go_sem,h3',h4']
  refine zb hx ?_
  simp [go_sem,L58,R58,zl,h1,h2,h3,h4]
 have h4':decide ((6:Int) < (e.ls.length:Nat))=false:=by simp; omega
 have hc:zl e=zw (z7 e.id e.ls) e.ls.length:=by simp [zl,h1,h2,h3,h4]
 simp only [go_sem,h3',h4',hc]
 refine zr [1,3] 1 (fun n st=>∃ k:Nat,k + n=e.ls.length∧zw (z7 e.id e.ls) k=0 ∧
  st=⟨mkE .top [(1,.ptr 0 0),(3,.int .i64 k)],[.box (cE e)]⟩) e.ls.length (by simp [hx]) (by simp) ?_ ?_
 ·
  refine ⟨0,by omega,rfl,?_⟩
  simp [zi,go_sem,zc,zd,pos,List.range_succ,cE]
 ·
  rintro n st ⟨k,hk,hz,rfl⟩
  simp only [go_sem,cE]
  by_cases hlt:k < e.ls.length
  ·
   have hg:e.ls[k]? = some (nth e.ls k):=zk _ _ hlt
   have w1:=zD (k:=k) (by omega)
   simp only [go_sem,hlt,hg,cId]
   refine za (.pure (zhj (nth e.ls k))) ?_
   cases h5:zeV (nth e.ls k)
   ·
    simp only [go_sem]
    refine zb hx ?_
    have:z7 e.id e.ls k=3:=by simp [z7,h5]
    simp only [go_sem,hc,zZ hz (by rw [this]; decide) hlt,this]
   have fin:∀ r:Int,z7 e.id e.ls k=r→r≠0→zw (z7 e.id e.ls) e.ls.length=r:=fun r h1 h2=>by rw [zZ hz (by rw [h1]; exact h2) hlt,h1]
   by_cases h0:0 < k
   ·
    have hg1:e.ls[k - 1]? = some (nth e.ls (k - 1)):=zk _ _ (by omega)
    have e1:IntKind.i64.wrap ((k:Int) - 1)=((k - 1:Nat):Int):=by rw [IntWalk.i64_in _ (by omega)]; omega
    have d0:decide ((0:Int) < (k:Int))=true:=by simp; omega
    have hlt1:k - 1 < e.ls.length:=by omega
    simp only [go_sem,d0,hlt,hlt1,hg,hg1,e1,cId]
    refine za (.pure (zbx (nth e.ls (k - 1)) (nth e.ls k))) ?_
    cases hl:zP (nth e.ls (k - 1)) (nth e.ls k)
    ·
     simp only [go_sem,hlt,hg,cId]
     refine zb hx ?_
     have:z7 e.id e.ls k=4:=by simp [z7,h5,h0,hl]
     simp only [go_sem,fin _ this (by decide)]
    ·
     by_cases h7:(nth e.ls k).r=e.id.r <;> by_cases h8:e.id.n≤(nth e.ls k).n <;> simp only [go_sem,hlt,hg,cId,h7,h8]
     ·
      refine zb hx ?_
      have:z7 e.id e.ls k=4:=by simp [z7,h5,hl,h7,h8]
      simp only [go_sem,fin _ this (by decide)]
     all_goals
      have:z7 e.id e.ls k=0:=by simp [z7,h5,hl,h7,h8]
      refine ⟨by simp,n - 1,by omega,k + 1,by omega,zQ hz this,?_⟩
      simp [zi,go_sem,zc,zd,pos,List.range_succ,cE,w1]
   ·
    have d0:decide ((0:Int) < (k:Int))=false:=by simp; omega
    by_cases h7:(nth e.ls k).r=e.id.r <;> by_cases h8:e.id.n≤(nth e.ls k).n <;> simp only [go_sem,d0,hlt,hg,cId,h7,h8]
    ·
     refine zb hx ?_
     have:z7 e.id e.ls k=4:=by simp [z7,h5,h0,h7,h8]
     simp only [go_sem,fin _ this (by decide)]
    all_goals
     have:z7 e.id e.ls k=0:=by simp [z7,h5,h0,h7,h8]
     refine ⟨by simp,n - 1,by omega,k + 1,by omega,zQ hz this,?_⟩
     simp [zi,go_sem,zc,zd,pos,List.range_succ,cE,w1]
  ·
   simp only [go_sem,hlt]
   refine zb hx ?_
   simp only [go_sem]
   first | rw [hc,show e.ls.length=k by omega,hz] | rw [show e.ls.length=k by omega,hz]
def zz (l:List Entry) (x:Id):Int:=zaH (fun e=>decide (e.id=x)) l 0
theorem zba (l:List Entry):∀ row ∈ l.map cE,row.length=5:=by simp [cE]
theorem znZ (cells : List PV) (h : cells.map (ze false (pos [0]) (zu false [.box cells])) = cells) (h2 : cells.map (ze false (pos [0]) (zu true [.box cells])) = cells) (h3 : cells.map (ze false (ZA 1 [0]) zlZ) = cells) :
    ClosedH [.box cells] [.ptr 0 0]:=by
  refine ⟨?_,?_,?_,?_,?_⟩
  · simp [zf,pos,List.range_succ]
  · simp [ren,ze,zf,pos,List.range_succ]
  · simp only [List.length_cons,List.length_nil,List.range_succ,List.range_zero,List.nil_append,zc,List.map_cons,List.map_nil,List.getElem?_cons_zero,Option.getD_some,zd,h]
  · simp only [List.length_cons,List.length_nil,List.range_succ,List.range_zero,List.nil_append,Zk,List.map_cons,List.map_nil,zH,zK,Nat.zero_add,Nat.sub_self,Nat.add_zero]
    simp [pos,zd,h3]
  · simp only [List.length_cons,List.length_nil,List.range_succ,List.range_zero,List.nil_append,zc,List.map_cons,List.map_nil,List.getElem?_cons_zero,Option.getD_some,zd,h2]
theorem zkC (x:Id) (e:Entry):zg Tryz.prog 179 [.agg (cE e),.ptr 0 0] [.box (cId x)] (.bool (decide (e.id=x))) [.box (cId x)]:=by
 refine zg.of_walk Tryz.func179 Tryz.ntmps179 zvq zvr (by simp) fun xx hx=>?_
 simp only [go_sem,zzw,zzx,cE,cId,zd0]
 refine zG [] (by simp) (by simp) (by simp [hx]) ?_ ?_
 ·
  simp [go_sem,zzw,zzx,hx]
 ·
  simp [zc,zd,hx,go_sem]
theorem zqC (x:Id):ClosedH [.box (cId x)] [.ptr 0 0]:=znZ _ (by simp [cId,ze,zf]) (by simp [cId,ze,zf]) (by simp [cId,ze,zf])
theorem ZN (l:List Entry) (x:Id) (hl:l.length≤9223372036854775806):zg Tryz.prog 105 [.list (l.map cE),.agg (cId x)] [] (.int .i64 (zz l x)) []:=by
 refine zg.of_walk Tryz.func105 Tryz.ntmps105 zui zuj (by simp) fun xx hx=>?_
 simp only [go_sem,zyY,zyZ,cId]
 refine za (.heapE [0] (r' := .int .i64 (zz l x)) (H' := [.box (cId x)]) (zc4 l 179 [.ptr 0 0] [.box (cId x)] (fun e=>decide (e.id=x)) (by kernel_rfl) hl (zqC x) (fun e _=>zkC x e)) (by simp) (by simp) (by simp [go_sem,pos]) (by simp [zc,zd,go_sem,cId]) rfl (by simp [Zk,zH,zK,zd,pos,go_sem,List.range_succ,cId])) ?_
 simp only [go_sem]
 refine zb hx ?_
 simp [go_sem,zyY,zyZ]
def ZB (l:List Entry) (r:Int):Nat:=l.countP fun e=>decide (e.id.r=r)
theorem zbP (l:List Entry) (k:Nat) (r:Int) (h:k < l.length):ZB (l.take (k + 1)) r=ZB (l.take k) r + if (nth l k).id.r=r then 1 else 0:=by
 rw [List.take_succ_eq_append_getElem h,zy _ _ h]
 simp only [ZB,List.countP_append,List.countP_cons,List.countP_nil,decide_eq_true_eq]
 omega
theorem zbm (l:List Entry) (r:Int):ZB l r≤l.length:=List.countP_le_length
def zhW (l:List Entry):Prop:=∀ e ∈ l,e.id.r=0∨e.id.r=1
theorem zcw (l:List Entry) (h:zhW l) (hl:l.length≤1000000000000000):zg Tryz.prog 113 [.list (l.map cE)] [] (.agg [.int .i64 (ZB l 0),.int .i64 (ZB l 1)]) []:=by
 refine zg.of_walk Tryz.func113 Tryz.ntmps113 zuq zur (by simp) fun x hx=>?_
 simp only [go_sem,zy2,zy3]
 refine zr [2,3,6,7,8] 2 (fun n st=>∃ k:Nat,k + n=l.length ∧
  st=⟨mkE .top [(2,.ptr 0 0),(3,.ptr 1 0),(6,.list (l.map cE)),(7,.int .i64 l.length),(8,.int .i64 k)],[.box [.int .i64 0,.int .i64 0],.box [.int .i64 (ZB (l.take k) 0),.int .i64 (ZB (l.take k) 1)]]⟩) l.length (by simp [hx]) (by simp) ?_ ?_
 ·
  refine ⟨0,by omega,?_⟩
  simp [zi,go_sem,zc,zd,pos,List.range_succ,ZB]
 ·
  rintro n st ⟨k,hk,rfl⟩
  by_cases hlt:k < l.length
  ·
   have hg:l[k]? = some (nth l k):=zk _ _ hlt
   have wk:=zD (k:=k) (by omega)
   have hle:∀ r,ZB (l.take k) r≤1000000000000000:=fun r=>by have:=zbm (l.take k) r; rw [List.length_take] at this; omega
   have w0:=zD (k:=ZB (l.take k) 0) (by have:=hle 0; omega)
   have w1:=zD (k:=ZB (l.take k) 1) (by have:=hle 1; omega)
   have c0:=zbP l k 0 hlt
   have c1:=zbP l k 1 hlt
   rcases h (nth l k) (by rw [zy _ _ hlt]; exact List.getElem_mem hlt) with hr | hr
   ·
    rw [hr] at c0 c1
    simp only [go_sem,hlt,hg,cE,hr,w0,w1,wk,Int.reduceLE,Int.reduceLT,Int.reduceToNat,Int.cast_ofNat_Int,Int.ofNat_zero,Int.toNat_zero,Int.le_refl]
    refine ⟨by simp,n - 1,by omega,k + 1,by omega,?_⟩
    simp [zi,go_sem,zc,zd,pos,List.range_succ,c0,c1]
   ·
    rw [hr] at c0 c1
    simp only [go_sem,hlt,hg,cE,hr,w0,w1,wk,Int.reduceLE,Int.reduceLT,Int.reduceToNat,Int.cast_ofNat_Int,Int.ofNat_zero,Int.toNat_zero,Int.le_refl]
    refine ⟨by simp,n - 1,by omega,k + 1,by omega,?_⟩
    simp [zi,go_sem,zc,zd,pos,List.range_succ,c0,c1]
  ·
   have:l.take k=l:=List.take_of_length_le (by omega)
   simp only [go_sem,hlt]
   refine zb hx ?_
   simp [go_sem,zy2,zy3,this]
def zV (l:List Entry) (e:Entry):Bool:=decide ((ZB l e.id.r:Int) + 1=e.id.n) && !(e.ls.any fun x=>decide (zz l x < 0))
theorem zje (l:List Entry) (x:Id) (hl:l.length≤9223372036854775806):zg Tryz.prog 206 [.agg (cId x),.ptr 0 0] [.box [.list (l.map cE)]] (.bool (decide (zz l x < 0))) [.box [.list (l.map cE)]]:=by
 refine zg.of_walk Tryz.func206 Tryz.ntmps206 zvI zvJ (by simp) fun xx hx=>?_
 simp only [go_sem,zzE,zzF,cId]
 refine za (.pureE (ZN l x hl) (by simp [go_sem,cId])) ?_
 simp only [go_sem]
 refine zG [] (by simp) (by simp) (by simp [hx]) ?_ ?_
 ·
  simp [go_sem,zzE,zzF,hx]
 ·
  simp [zc,zd,hx,go_sem]
theorem zsL (l:List Entry):ClosedH [.box [.list (l.map cE)]] [.ptr 0 0]:=znZ _ (by simp [ze,zf]) (by simp [ze,zf]) (by simp [ze,zf])
theorem zaV (l : List Entry) (e : Entry) (h : zhW l) (hl : l.length ≤ 1000000000000000) (he : e.id.r = 0 ∨ e.id.r = 1) (hls : e.ls.length ≤ 9223372036854775806) :
    zg Tryz.prog 129 [.list (l.map cE),.agg (cE e)] [] (.bool (zV l e)) []:=by
  refine zg.of_walk Tryz.func129 Tryz.ntmps129 zuC zuD (by simp) fun x hx=>?_
  have hw:IntKind.i64.wrap ((ZB l e.id.r:Int) + 1)=(ZB l e.id.r:Int) + 1:=by have:=zbm l e.id.r; rw [IntWalk.i64_in _ (by omega)]
  simp only [go_sem,zxa,zxb,cE]
  refine za (.pure (zcw l h hl)) ?_
  have hany:=zjd e.ls 206 [.ptr 0 0] [.box [.list (l.map cE)]] (fun x=>decide (zz l x < 0)) (by kernel_rfl) hls (zsL l) (fun y _=>zje l y (by omega))
  rcases he with hr | hr
  all_goals
    rw [hr] at hw
    by_cases hc:(ZB l e.id.r:Int) + 1=e.id.n
    · have hc':=hc
      rw [hr] at hc'
      have dc:=decide_eq_true hc'
      simp only [go_sem,hr,hw,dc,Int.reduceLE,Int.reduceLT,Int.reduceToNat,Int.cast_ofNat_Int,Int.ofNat_zero,Int.toNat_zero,Int.le_refl]
      refine za (.heapE [0] (r' := .bool (e.ls.any fun x=>decide (zz l x < 0))) (H' := [.box [.list (l.map cE)],.box (cE e)]) hany (by simp) (by simp) (by simp [go_sem,pos]) (by simp [zc,zd,go_sem]) rfl (by simp [Zk,zH,zK,zd,pos,go_sem,List.range_succ,cE,hr])) ?_
      simp only [go_sem]
      refine zb hx ?_
      simp [go_sem,zxa,zxb,zV,hc]
    · have hc':=hc
      rw [hr] at hc'
      simp only [go_sem,hr,hw,hc',Int.reduceLE,Int.reduceLT,Int.reduceToNat,Int.cast_ofNat_Int,Int.ofNat_zero,Int.toNat_zero,Int.le_refl]
      refine zb hx ?_
      simp [go_sem,zxa,zxb,zV,hc]
def ZC (l:List Entry) (k:Nat):Int :=
 if zl (nth l k)≠0 then zl (nth l k) else if 0≤zz (l.take k) (nth l k).id then 6
 else if (ZB (l.take k) (nth l k).id.r:Int) + 1≠(nth l k).id.n then 4 else if zV (l.take k) (nth l k)=false then 5 else 0
def z8 (l:List Entry):Int:=if 40 < l.length then 2 else zw (ZC l) l.length
theorem zaz {e:Entry} (h:zl e=0):e.id.r=0∨e.id.r=1:=by
 have:=(Zd h).1
 simp only [zeV,Bool.and_eq_true,zX] at this
 omega
theorem zhk {l:List Entry} {k:Nat} (h:zw (ZC l) k=0) (hk:k≤l.length):zhW (l.take k):=by
 intro e he
 obtain ⟨j,hj,rfl⟩:=List.getElem_of_mem he
 rw [List.length_take] at hj
 have h0:=ZY.1 h j (by omega)
 have hc:zl (nth l j)=0:=by
  unfold ZC at h0
  split at h0
  ·
   exact h0
  ·
   rename_i h; simpa using h
 rw [List.getElem_take,← zy l j (by omega)]
 exact zaz hc
theorem zcl (l:List Entry) (hm:l.length≤9223372036854775806):zg Tryz.prog 75 [.list (l.map cE)] [] (.int .i64 (z8 l)) []:=by
 refine zg.of_walk Tryz.func75 Tryz.ntmps75 zyK zyL (by simp) fun x hx=>?_
 by_cases h40:40 < l.length
 ·
  have d40:decide ((40:Int) < (l.length:Nat))=true:=by simp; omega
  simp only [go_sem,L75,R75,d40]
  refine zb hx ?_
  simp [go_sem,L75,R75,z8,h40]
 have d40:decide ((40:Int) < (l.length:Nat))=false:=by simp; omega
 have hcl:z8 l=zw (ZC l) l.length:=by simp [z8,h40]
 simp only [go_sem,L75,R75,d40,hcl]
 refine zr [0,9,10,11] 0 (fun n st=>∃ k:Nat,k + n=l.length∧zw (ZC l) k=0 ∧
  st=⟨mkE .top [(0,.list (l.map cE)),(9,.list (l.map cE)),(10,.int .i64 l.length),(11,.int .i64 k)],[]⟩) l.length (by simp [hx]) (by simp) ?_ ?_
 ·
  refine ⟨0,by omega,rfl,?_⟩
  simp [zi,go_sem,zc,zd,pos]
 ·
  rintro n st ⟨k,hk,hz,rfl⟩
  by_cases hlt:k < l.length
  ·
   have hg:l[k]? = some (nth l k):=zk _ _ hlt
   have wk:=zD (k:=k) (by omega)
   have hle:k≤l.length:=by omega
   have hrow:(∀ row ∈ List.map cE l,row.length=5)=True:=eq_true (zba l)
   have htk:List.take k (List.map cE l)=List.map cE (List.take k l):=List.map_take.symm
   have hlk:(l.take k).length≤40:=by rw [List.length_take]; omega
   have hreg:=zhk hz hle
   have fin:∀ r:Int,ZC l k=r→r≠0→zw (ZC l) l.length=r:=fun r h1 h2=>by rw [zZ hz (by rw [h1]; exact h2) hlt,h1]
   simp only [go_sem,hlt,hg,cE]
   refine za (.pureE (zaU (nth l k)) (by simp [go_sem,cE])) ?_
   by_cases h1:zl (nth l k)=0
   ·
    have hr:=zaz h1
    simp only [go_sem,h1,hle,hrow,htk,Int.le_refl,Int.sub_zero,Int.toNat_zero,Int.natCast_nonneg,cE]
    refine za (.pureE (ZN (l.take k) (nth l k).id (by omega)) (by simp [go_sem,cId])) ?_
    by_cases h2:0≤zz (l.take k) (nth l k).id
    ·
     simp only [go_sem,h2]
     refine zb hx ?_
     have:ZC l k=6:=by simp [ZC,h1,h2]
     simp [go_sem,L75,R75,fin _ this (by decide)]
    simp only [go_sem,h2,hle,hrow,htk,Int.le_refl,Int.sub_zero,Int.toNat_zero,Int.natCast_nonneg,cE]
    refine za (.pureE (zcw (l.take k) hreg (by omega)) (by simp [go_sem])) ?_
    have hw:∀ r,IntKind.i64.wrap ((ZB (l.take k) r:Int) + 1)=(ZB (l.take k) r:Int) + 1:=fun r=>by have:=zbm (l.take k) r; rw [IntWalk.i64_in _ (by omega)]
    by_cases h3:(ZB (l.take k) (nth l k).id.r:Int) + 1=(nth l k).id.n
    ·
     have h3e:ZC l k=if zV (l.take k) (nth l k)=false then 5 else 0:=by simp [ZC,h1,h2,h3]
     rcases hr with hr | hr
     all_goals
      have h3':=h3
      rw [hr] at h3'
      have dc:=decide_eq_true h3'
      simp only [go_sem,hr,hw,dc,hle,hrow,htk,Int.sub_zero,Int.natCast_nonneg,cE,Int.reduceLE,Int.reduceLT,Int.reduceToNat,Int.cast_ofNat_Int,Int.ofNat_zero,Int.toNat_zero,Int.le_refl]
      refine za (.pureE (zaV (l.take k) (nth l k) hreg (by omega) (by omega) (by have:=(Zd h1).2.2.2.1; omega)) (by simp [go_sem,cE,hr])) ?_
      cases h4:zV (l.take k) (nth l k)
      ·
       simp only [go_sem]
       refine zb hx ?_
       have:ZC l k=5:=by rw [h3e,if_pos h4]
       simp [go_sem,L75,R75,fin _ this (by decide)]
      ·
       simp only [go_sem,wk]
       refine ⟨by simp,n - 1,by omega,k + 1,by omega,zQ hz (by rw [h3e,if_neg (by simp [h4])]),?_⟩
       simp [zi,go_sem,zc,zd,pos]
    ·
     rcases hr with hr | hr
     all_goals
      have h3':=h3
      rw [hr] at h3'
      have dc:=decide_eq_false h3'
      simp only [go_sem,hr,hw,dc,Int.reduceLE,Int.reduceLT,Int.reduceToNat,Int.cast_ofNat_Int,Int.ofNat_zero,Int.toNat_zero,Int.le_refl]
      refine zb hx ?_
      have:ZC l k=4:=by simp [ZC,h1,h2,h3]
      simp [go_sem,L75,R75,fin _ this (by decide)]
   ·
    simp only [go_sem,h1]
    refine zb hx ?_
    have:ZC l k=zl (nth l k):=by simp [ZC,h1]
    simp [go_sem,L75,R75,fin _ this h1]
  ·
   have hke:k=l.length:=by omega
   subst hke
   simp only [go_sem,Nat.lt_irrefl,hz]
   refine zb hx ?_
   simp [go_sem,L75,R75,hz]
section
variable {x:Cx} {C:Conc} {H:List AObj} {w w':World}
theorem HR.row (hr : HR x C H w) {id v T sz : Nat} {sto : Bool} {rows : List (List PV)} {u : Value} (hid : H[id]? = some (.arr v sto false T sz rows)) (hu : RepV (zA x C H w) w C (.arr id v) u) :
    u=C.sv id∧(∀ row ∈ rows,row.length=sz)∧(u = .slice none 0 0∧rows = []∨∃ (g cap:Nat) (cur:Array Value),u = .slice (some ⟨g,0,none⟩) rows.length cap∧w.heap[g]? = some (.cells cur T (0,0))∧rows.length≤cap∧cap≤maxLen∧cur.size=cap * sz ∧
      ∀ (k:Nat) row (j:Nat) p,rows[k]? = some row→row[j]? = some p→∃ y,cur[k * sz + j]? = some y∧y.oneCell'=true∧RepP (zA x C H w) w p y):=by
  obtain ⟨o1,o2,o3,xs,o4,o5⟩:=hr.obj id _ hid
  obtain ⟨e,hi⟩:=hu.arr_inv o1
  refine ⟨e,o3,?_⟩
  rcases o4.2 with ⟨g1,g2⟩ | ⟨g,cap,cur,g1,-,g2,g3,g4,g5,g6⟩
  · exact .inl ⟨e.trans g1,List.length_eq_zero_iff.1 g2⟩
  · refine .inr ⟨g,cap,cur,e.trans g1,g2,g3,g4,g5,fun k row j p a b=>?_⟩
    have hk:k < rows.length:=(List.getElem?_eq_some_iff.1 a).1
    have hj:j < sz:=by rw [← o3 row (List.mem_of_getElem? a)]; exact (List.getElem?_eq_some_iff.1 b).1
    have hkl:k * sz + j < rows.length * sz:=by
      have:(k + 1) * sz≤rows.length * sz:=Nat.mul_le_mul_right _ hk
      rw [Nat.add_mul] at this; omega
    have hcl:rows.length * sz≤cap * sz:=Nat.mul_le_mul_right _ g3
    have hlt:k * sz + j < cur.size:=by omega
    have hx:xs[k * sz + j]? = some cur[k * sz + j]:=by rw [← g6,List.getElem?_take,if_pos hkl,Array.getElem?_toList,Array.getElem?_eq_getElem hlt]
    have:=o5 k row j p _ a b hx
    simp only [Bool.false_eq_true,if_false] at this
    exact ⟨_,Array.getElem?_eq_getElem hlt,this⟩
theorem HR.drop (hr : HR x C H w) {id v T sz g cap' : Nat} {rows rows' : List (List PV)} {cur' : Array Value} 
    (hid:H[id]? = some (.arr v true false T sz rows)) (hs:Step w w' fun b=>(C.sv id).ownBlock=some b) (hg:(C.sv id).ownBlock=some g)
    (hc:w'.heap[g]? = some (.cells cur' T (0,0))) (hn:rows'.length≤cap') (hm:cap'≤maxLen) (hz:cur'.size=cap' * sz) (hrow:∀ row ∈ rows',row.length=sz)
    (hrep:∀ (k:Nat) row (j:Nat) p u,rows'[k]? = some row→row[j]? = some p→cur'[k * sz + j]? = some u→RepP (zA x C H w) w p u) :
    HR x C (H.set id .gone) w'∧(∀ p u,RepV (zA x C H w) w C p u→RepV (zA x C (H.set id .gone) w') w' C p u) ∧
      RepP (zA x C (H.set id .gone) w') w' (.list rows') (.slice (some ⟨g,0,none⟩) rows'.length cap'):=by
  obtain ⟨o1,o2,o3,xs,o4,o5⟩:=hr.obj id _ hid
  have hlt:id < H.length:=(List.getElem?_eq_some_iff.1 hid).1
  have hgb:g < w'.heap.size:=(Array.getElem?_eq_some_iff.1 hc).1
  have hmp:∀ p v,RepP (zA x C H w) w p v→RepP (zA x C (H.set id .gone) w') w' p v:=by
    intro p v h
    refine h.mono (fun b o h=>⟨h.1.imp_right fun q=>⟨q.1,by
      by_cases e:(C.sv id).ownBlock=some b
      · have e2:=Option.some.inj (hg.symm.trans e); subst e2; exact .of hc
      · exact q.2.same (hs.blk b h.2.1 e)⟩,Nat.lt_of_lt_of_le h.2.1 hs.size,fun i ob1 hi=>?_⟩) fun b o h=>zbg (hs.blk b h.2.1 fun hb=>?_)
    · by_cases e:i=id
      · subst e; rw [List.getElem?_set_self hlt] at hi; cases hi; trivial
      · rw [List.getElem?_set_ne (Ne.symm e)] at hi; exact h.2.2 i ob1 hi
    · have:=h.2.2 id _ hid hb; simp at this
  obtain ⟨k1,k2⟩:=hr.change (C':=C) hid (ob' := .gone) hs rfl (fun _=>rfl) (fun _ _=>⟨rfl,rfl⟩) (.inl ⟨rfl,rfl⟩)
    (fun b o hb hf=>trivial) (fun b o hb hf=>by have:=hf hb; simp at this) (fun b hb=>hb.elim) (fun _ _=>trivial) (hfz:=fun b hb _=>by have e:=Option.some.inj (hg.symm.trans hb); subst e; exact .of hc)
  refine ⟨k1,k2,?_⟩
  refine .list rows' _ cap' sz (fun k j=>cur'[k * sz + j]!) hn hm o2 hrow (fun k row j p a b=>⟨g,0,rfl,?_,?_⟩) fun k row j p a b=>?_
  · refine ⟨?_,hgb,fun i ob1 hi=>?_⟩
    · exact .inr ⟨hr.mine id _ g hid hg,.of hc⟩
    · by_cases e:i=id
      · subst e; rw [List.getElem?_set_self hlt] at hi; cases hi; trivial
      · rw [List.getElem?_set_ne (Ne.symm e)] at hi
        exact AObj.free_of_not (fun hb=>e (hr.apart i id ob1 _ g hi hid hb hg)) _
  all_goals
    have hk:k < rows'.length:=(List.getElem?_eq_some_iff.1 a).1
    have hj:j < sz:=by rw [← hrow row (List.mem_of_getElem? a)]; exact (List.getElem?_eq_some_iff.1 b).1
    have hkl:k * sz + j < cur'.size:=by
      have h1:(k + 1) * sz≤rows'.length * sz:=Nat.mul_le_mul_right _ hk
      have h2:rows'.length * sz≤cap' * sz:=Nat.mul_le_mul_right _ hn
      rw [Nat.add_mul] at h1; omega
  · simp [World.cell?,hc,hkl]
  · exact hmp _ _ (hrep k row j p _ a b (by simp [hkl]))
end
end Go.Proofs.YtkcahmbcpkjpiaaGreatDoor
namespace Go.Proofs.YtkcahmbcpkjpiaaGreatDoor
open Go.RowKit
open Go.Sort (flatK putRowK HoldsK size_flatK get_flatK putCells mapBlock onCells)
structure Flat {α:Type} (pv:α→List PV) (enc:α→List Value) (k:Nat):Prop where
 k0:0 < k
 len:∀ a,(enc a).length=k
 lenp:∀ a,(pv a).length=k
 one:∀ a,∀ v ∈ enc a,v.oneCell'=true
 fit:∀ S w a (j:Nat) p,(pv a)[j]? = some p→RepP S w p ((enc a)[j]!)
 back:∀ S w a (j:Nat) p u,(pv a)[j]? = some p→RepP S w p u→u=(enc a)[j]!
section
variable {α:Type} [Inhabited α] {pv:α→List PV} {enc:α→List Value} {k:Nat}
theorem Flat.holds (F : Flat pv enc k) {S : Nat → Nat → Prop} {w : World} {g T : Nat} {cur : Array Value} (l : List α) (hc : w.heap[g]? = some (.cells cur T (0, 0)))
    (h:∀ (i:Nat) row (j:Nat) p,(l.map pv)[i]? = some row→row[j]? = some p→∃ y,cur[i * k + j]? = some y∧y.oneCell'=true∧RepP S w p y):HoldsK enc k w g 0 l.toArray:=by
  intro t ht
  rw [size_flatK] at ht
  rw [get_flatK _ _ _ _ ht]
  have k0:=F.k0
  have hi:t / k < l.length:=Nat.div_lt_of_lt_mul (by rw [Nat.mul_comm]; simpa using ht)
  have hj:t % k < k:=Nat.mod_lt _ k0
  have e:t / k * k + t % k=t:=by rw [Nat.mul_comm]; exact Nat.div_add_mod t k
  obtain ⟨y,h1,-,h3⟩:=h (t / k) (pv l[t / k]) (t % k) ((pv l[t / k])[t % k]'(by rw [F.lenp]; exact hj)) (by simp [hi]) (by rw [List.getElem?_eq_getElem (by rw [F.lenp]; exact hj)])
  have h4:=F.back _ _ _ _ _ _ (List.getElem?_eq_getElem (by rw [F.lenp]; exact hj)) h3
  rw [e] at h1
  have e2:l.toArray[t / k]! = l[t / k]:=by simp [hi]
  rw [e2,← h4]
  refine ⟨?_,?_⟩
  · simp [World.cell?,hc,h1]
  · simp [World.frozen?,hc]
theorem zjf (enc : α → List Value) (k : Nat) (w : World) (g m : Nat) (d' : Array α) (os : Array Obj) {cur : Array Value} {T : TypeId} {fr : Nat × Nat} (hc : w.heap[g]? = some (.cells cur T fr)) :
    ∃ cur':Array Value,(sortWorldK enc k w g 0 m d' os).heap[g]? = some (.cells cur' T fr)∧cur'.size=cur.size ∧
      (∀ t y,t < d'.size * k→cur'[t]? = some y→y=(flatK enc k d')[t]!)∧Step w (sortWorldK enc k w g 0 m d' os) (fun b=>b=g):=by
  have hlt:g < w.heap.size:=(Array.getElem?_eq_some_iff.1 hc).1
  have hh:(sortWorldK enc k w g 0 m d' os).heap=w.heap.modify g (onCells (putCells id 0 (flatK enc k d'))) ++ os:=rfl
  refine ⟨putCells id 0 (flatK enc k d') cur,?_,by simp [putCells],fun t y ht hy=>?_,?_⟩
  · rw [hh,Array.getElem?_append_left (by simpa using hlt),Array.getElem?_modify,if_pos rfl,hc]
    rfl
  · rw [putCells,Array.getElem?_mapIdx] at hy
    cases hcu:cur[t]? with
    | none=>rw [hcu] at hy; cases hy
    | some z =>
      rw [hcu,Option.map_some,if_pos ⟨Nat.zero_le _,by rw [size_flatK]; omega⟩] at hy
      exact (Option.some.inj hy).symm
  · refine ⟨by rw [hh]; simp,rfl,rfl,rfl,fun b hb hne=>?_⟩
    rw [hh,Array.getElem?_append_left (by simpa using hb),Array.getElem?_modify,if_neg (fun e=>hne e.symm)]
theorem Flat.rep (F : Flat pv enc k) {S : Nat → Nat → Prop} {w : World} {d' : Array α} {cur' : Array Value} (h : ∀ t y, t < d'.size * k → cur'[t]? = some y → y = (flatK enc k d')[t]!) {l : List α} (n : Nat) (hl : ∀ i, i < n → l[i]? = some d'[i]!) (hn : l.length = n) (hnd : n ≤ d'.size) :
    ∀ (i:Nat) row (j:Nat) p u,(l.map pv)[i]? = some row→row[j]? = some p→cur'[i * k + j]? = some u→u.oneCell'=true∧RepP S w p u:=by
  intro i row j p u a b c
  have k0:=F.k0
  rw [List.getElem?_map] at a
  obtain ⟨y,hy,rfl⟩:=Option.map_eq_some_iff.1 a
  have hi:i < n:=by rw [← hn]; exact (List.getElem?_eq_some_iff.1 hy).1
  have hj:j < k:=by rw [← F.lenp y]; exact (List.getElem?_eq_some_iff.1 b).1
  rw [hl i hi] at hy
  have ht:i * k + j < d'.size * k:=by
    have:(i + 1) * k≤d'.size * k:=Nat.mul_le_mul_right _ (by omega)
    rw [Nat.add_mul] at this; omega
  have hu:=h _ _ ht c
  rw [get_flatK _ _ _ _ ht] at hu
  have e1:(i * k + j) / k=i:=by rw [Nat.mul_comm,Nat.mul_add_div k0,Nat.div_eq_of_lt hj]; rfl
  have e2:(i * k + j) % k=j:=by rw [Nat.mul_comm,Nat.mul_add_mod,Nat.mod_eq_of_lt hj]
  rw [e1,e2,Option.some.inj hy] at hu
  subst hu
  refine ⟨F.one y _ ?_,F.fit _ _ _ _ _ b⟩
  rw [getElem!_pos _ j (by rw [F.len]; exact hj)]
  exact List.getElem_mem _
end
end Go.Proofs.YtkcahmbcpkjpiaaGreatDoor
namespace Go.Proofs.YtkcahmbcpkjpiaaGreatDoor
open Go.RowKit Go.Lib Go.Sort
open Go.Shelf
def eId (x:Id):List Value := [.int .i64 x.r,.int .i64 x.n]
theorem zjg {α:Type} [Inhabited α] (enc:α→List Value) (k:Nat) (hk:∀ x,(enc x).length=k) (d:Array α) (i:Nat) (hi:i < d.size) (x:α):setMany (flatK enc k d) (i * k) (enc x)=flatK enc k (d.setIfInBounds i x):=by
  refine ext_get! (by simp) fun t ht=>?_
  have ht':t < d.size * k:=by simpa using ht
  have k0 : 0 < k := by rcases Nat.eq_zero_or_pos k with h | h; · subst h; simp at ht'
                        · exact h
  rw [get_setMany _ _ _ t (by simpa using ht'),get_flatK _ _ _ t ht',get_flatK _ _ _ t (by simpa using ht'),hk]
  by_cases a:t / k=i
  · have m:t - i * k=t % k:=by subst a; rw [Nat.mod_eq_sub_div_mul]
    rw [if_pos ((blk_iff k i t k0).2 a),m,a,getElem!_set_same d i x hi]
  · rw [if_neg (fun h=>a ((blk_iff k i t k0).1 h)),getElem!_set_other d i _ x a]
theorem zbQ {P : Program} (w : World) (t e ty : TypeId) (z : Value) (ht : P.underlying t = some (.slice e)) (hv : ∀ w, (zeroValue e).run P w = .ok z w) (h1 : ∀ v ∈ z.cells, v.oneCell' = true) (b o n c : Nat) (hn : 0 < n)
    (hc:∀ j,j < n * z.cells.size→(w.cell? ⟨b,o + j,none⟩).isSome=true) (hf:∀ j,j < n * z.cells.size→w.frozen? ⟨b,o + j,none⟩=false) :
    ∃ zs:List Value,zs.length=n * z.cells.size∧(Builtin.clear_ #[t] ty #[.slice (some ⟨b,o,none⟩) n c]).run P w = .ok (.tuple #[]) (w.setCells b o zs):=by
  refine ⟨(Builtin.zeroCells z.cells n).toList,by simp [Builtin.zeroCells,Nat.mul_comm],?_⟩
  have hst:=run_storeCells_cells (P:=P) b o (Builtin.zeroCells z.cells n).toList 0 w (by simpa [Builtin.zeroCells,Nat.mul_comm] using hc) (by simpa [Builtin.zeroCells,Nat.mul_comm] using hf) (by
    intro v hv'
    obtain ⟨i,hi,rfl⟩:=List.mem_iff_getElem.1 hv'
    simp only [Builtin.zeroCells,Array.getElem_toList,Array.getElem_map,Array.getElem_range]
    have hs:0 < z.cells.size:=by
      rcases Nat.eq_zero_or_pos z.cells.size with h | h
      · simp [Builtin.zeroCells,h] at hi
      · exact h
    have:=Nat.mod_lt i hs
    exact h1 _ (by simp [getElem!_pos,this]))
  simp only [Nat.add_zero] at hst
  obtain ⟨m,rfl⟩:∃ m,n=m + 1:=⟨n - 1,by omega⟩
  simp [Builtin.clear_,run_underlying ht,hv,hst]
theorem zn0 (x:Id):(eId x).length=2:=rfl
theorem zsM (x:Id):∀ v ∈ eId x,v.oneCell'=true:=by
 intro v hv; simp [eId] at hv; rcases hv with rfl | rfl <;> rfl
theorem zcx {w : World} {blk off : Nat} {d : Array Id} (h : HoldsK eId 2 w blk off d) {i : Nat} (hi : i < d.size) :
    w.cell? ⟨blk,off + i * 2,none⟩=some (.int .i64 d[i]!.r)∧w.cell? ⟨blk,off + i * 2 + 1,none⟩=some (.int .i64 d[i]!.n)∧w.frozen? ⟨blk,off + i * 2,none⟩=false∧w.frozen? ⟨blk,off + i * 2 + 1,none⟩=false :=
  ⟨(h.cell hi (c:=0) (by omega)).1,(h.cell hi (c:=1) (by omega)).1,(h.cell hi (c:=0) (by omega)).2,(h.cell hi (c:=1) (by omega)).2⟩
theorem zdL {w wr : World} {n blk off : Nat} {dk : Array Id} {i : Nat} (hi : i < dk.size) (hwr : wr = putRowK eId 2 (Sort.ahead w n) blk off dk) (x : Id) :
    wr.setCells blk (off + i * 2) (eId x)=putRowK eId 2 (Sort.ahead w n) blk off (dk.setIfInBounds i x):=by
  subst hwr
  unfold putRowK
  rw [setCells_putRow _ _ _ _ _ _ (by rw [size_flatK,zn0]; omega),zjg eId 2 zn0 dk i hi x]
def zkD (w:World) (blk off:Nat) (d:Array Id) (w':World):Prop :=
 ∃ (q:Nat) (F:Array Value),F.size=d.size * 2∧(∀ t,t < (compactUpTo d d.size).length * 2→F[t]! = (flatK eId 2 (compactUpTo d d.size).toArray)[t]!)∧w'=putRow id (Sort.ahead w q) blk off F
theorem zjh {w:World} {blk off:Nat} {d:Array Id} (hH:HoldsK eId 2 w blk off d) (q:Nat) (hall:∀ j,j < d.size→keeps d j=true):(compactUpTo d d.size).length=d.size∧zkD w blk off d (w.drewN q):=by
 have e:compactUpTo d d.size=d.toList:=by rw [compactUpTo_all d _ hall,range_map_get]
 refine ⟨by rw [e]; simp,q,flatK eId 2 d,size_flatK _ _ _,fun t _=>by rw [e],?_⟩
 exact (putRow_self id (Sort.ahead w q) blk off _ (holdsK_ahead eId 2 w q blk off d hH)).symm
set_option maxRecDepth 1000000 in
theorem zgW (blk off cap : Nat) (d : Array Id) (w : World) (hH : HoldsK eId 2 w blk off d) (hsz : d.size ≤ 9223372036854775807) (hcap : d.size ≤ cap) :
    Calls Tryz.prog 180 #[.slice (some ⟨blk,off,none⟩) d.size cap] w fun e w'=>e = .returned (.slice (some ⟨blk,off,none⟩) (compactUpTo d d.size).length cap)∧zkD w blk off d w':=by
  have mixed:Tryz.prog.follows Departure.mixedOrders=true:=rfl
  have HS:Aside (∀ q,(∀ j,j < d.size→keeps d j=true)→(compactUpTo d d.size).length=d.size∧zkD w blk off d (w.drewN q)):=fun q=>zjh hH q
  by_cases h2:d.size < 2
  · have HH:Aside (HoldsK eId 2 w blk off d):=hH
    clear hH
    go_enter Tryz.func180,Tryz.ntmps180
    go_wp2
    go_ret
    obtain ⟨e1,e2⟩:=HS.out 0 (fun j hj=>keeps_lt_one d j (by omega))
    exact ⟨by rw [e1]; rfl,e2⟩
  · go_enter Tryz.func180,Tryz.ntmps180
    go_wp2
    go_loopg [3] d.size (fun g s3 wr=>∃ k q:Nat,1≤k∧k≤d.size∧d.size - k≤g∧s3 = .int .i64 k∧wr=w.drewN q∧∀ j,j < k→keeps d j=true)
    case atStart=>exact ⟨1,0,Nat.le_refl _,by omega,by omega,rfl,rfl,keeps_lt_one d⟩
    case round =>
      obtain ⟨k,q,hk1,hk,hg,rfl,rfl,hall⟩:=hrel
      by_cases hlt:k < d.size
      · obtain ⟨c1,c1',f1,f1'⟩:=zcx hH hlt
        obtain ⟨c0,c0',f0,f0'⟩:=zcx hH (i:=k - 1) (by omega)
        have A:Aside (∀ j,j < k→keeps d j=true):=hall
        have HH:Aside (HoldsK eId 2 w blk off d):=hH
        clear hall hH f1 f1' f0 f0'
        generalize hx:d[k]! = x at c1 c1'
        generalize hy:d[k - 1]! = y at c0 c0'
        have B:Aside (d[k]! = x∧d[k - 1]! = y):=⟨hx,hy⟩
        clear hx hy
        by_cases hdup:x=y
        · subst hdup
          go_wp2_with fail
          go_region_o
          go_wp2
          clear c0 c1 c0' c1'
          go_loopg [3,5] d.size (fun g s3 s5 wr=>∃ (kk k2 q2:Nat) (dk:Array Id),s3 = .int .i64 kk∧s5 = .int .i64 k2∧1≤k2∧k + k2≤d.size∧d.size - (k + k2)≤g∧wr=putRowK eId 2 (Sort.ahead w q2) blk off dk∧CompInv d (k + k2) kk dk)
          case atStart=>exact ⟨k,1,q + 1,d,rfl,rfl,Nat.le_refl _,by omega,by omega,(putRowK_self eId 2 (Sort.ahead w (q + 1)) blk off d (holdsK_ahead eId 2 w (q + 1) blk off d HH.out)).symm,CompInv.start A.out (keeps_neg (by omega) (by rw [B.out.1,B.out.2]))⟩
          case round =>
            obtain ⟨kk,k2,q2,dk,rfl,rfl,h1,hle,hg2,hwr,hI⟩:=hrel
            have hkk:=hI.lt
            have hds:=hI.size
            have hHk:HoldsK eId 2 wr blk off dk:=by rw [hwr]; exact holdsK_putRowK eId 2 _ blk off d dk (holdsK_ahead eId 2 w q2 blk off d HH.out) hds
            have W2:Aside (wr=putRowK eId 2 (Sort.ahead w q2) blk off dk):=hwr
            have I2:Aside (CompInv d (k + k2) kk dk):=hI
            clear hwr
            by_cases hlt2:k + k2 < d.size
            · obtain ⟨cm,cm',-,-⟩:=zcx hHk (i:=k + k2) (by omega)
              obtain ⟨cp,cp',-,-⟩:=zcx hHk (i:=k + k2 - 1) (by omega)
              obtain ⟨ck,ck',fk,fk'⟩:=zcx hHk (i:=kk) (by omega)
              rw [hI.high (k + k2) (by omega),show off + (k + k2) * 2=off + k * 2 + k2 * 2 by omega] at cm cm'
              rw [hI.high (k + k2 - 1) (by omega),show off + (k + k2 - 1) * 2=off + k * 2 + (k2 - 1) * 2 by omega] at cp cp'
              clear hHk hI
              generalize hu:d[k + k2]! = u at cm cm'
              generalize hv:d[k + k2 - 1]! = v at cp cp'
              generalize dk[kk]! = old at ck ck'
              have C:Aside (d[k + k2]! = u∧d[k + k2 - 1]! = v):=⟨hu,hv⟩
              clear hu hv
              by_cases huv:u=v
              · subst huv
                go_wp2_with fail
                go_region_o
                go_wp2
                go_roundg (d.size - (k + (k2 + 1)))
                case measure=>omega
                case rel=>exact ⟨kk,k2 + 1,q2 + 1,dk,rfl,by go_num,by omega,by omega,Nat.le_refl _,by rw [W2.out]; rfl,I2.out.skip (keeps_neg (by omega) (by rw [C.out.1,C.out.2]))⟩
              · have N:Aside (u≠v):=huv
                obtain ⟨ur,un⟩:=u
                obtain ⟨vr,vn⟩:=v
                simp only at cm cm' cp cp'
                by_cases hr:ur=vr
                · subst hr
                  have hn:un≠vn:=fun e=>huv (by rw [e])
                  clear huv
                  go_wp2_with fail
                  go_region_o
                  go_wp2
                  go_roundg (d.size - (k + (k2 + 1)))
                  case measure=>omega
                  case rel =>
                    refine ⟨kk + 1,k2 + 1,q2 + 1,dk.setIfInBounds kk ⟨ur,un⟩,by go_num,by go_num,by omega,by omega,Nat.le_refl _,?_,?_⟩
                    · exact zdL (wr:=wr.drew) (n:=q2 + 1) (by omega) (by rw [W2.out]; rfl) ⟨ur,un⟩
                    · have:=I2.out.keep hlt2 (keeps_pos (by rw [C.out.1,C.out.2]; exact N.out)); rwa [C.out.1] at this
                · clear huv
                  go_wp2_with fail
                  go_region_o
                  go_wp2
                  go_roundg (d.size - (k + (k2 + 1)))
                  case measure=>omega
                  case rel =>
                    refine ⟨kk + 1,k2 + 1,q2 + 1,dk.setIfInBounds kk ⟨ur,un⟩,by go_num,by go_num,by omega,by omega,Nat.le_refl _,?_,?_⟩
                    · exact zdL (wr:=wr.drew) (n:=q2 + 1) (by omega) (by rw [W2.out]; rfl) ⟨ur,un⟩
                    · have:=I2.out.keep hlt2 (keeps_pos (by rw [C.out.1,C.out.2]; exact N.out)); rwa [C.out.1] at this
            · have hend:k + k2=d.size:=by omega
              obtain ⟨zs,hzl,hcl⟩:∃ zs:List Value,zs.length=(d.size - kk) * 2∧∀ ty,(Builtin.clear_ #[30] ty #[.slice (some ⟨blk,off + kk * 2,none⟩) (d.size - kk) (cap - kk)]).run Tryz.prog wr = .ok (.tuple #[]) (wr.setCells blk (off + kk * 2) zs):=by
                obtain ⟨zs,h1,h2⟩:=zbQ (P:=Tryz.prog) wr 30 29 0 (.agg #[.int .i64 0,.int .i64 0]) rfl (fun _=>by kernel_rfl) (by intro v hv; simp [Value.cells] at hv; rcases hv with rfl | rfl <;> rfl) blk (off + kk * 2) (d.size - kk) (cap - kk) (by omega)
                  (fun j hj=>by
                    have hj':j < (d.size - kk) * 2:=hj
                    have:=(hHk (kk * 2 + j) (by rw [size_flatK]; omega)).1
                    rw [← Nat.add_assoc] at this
                    rw [this]; rfl) (fun j hj=>by
                    have hj':j < (d.size - kk) * 2:=hj
                    have:=(hHk (kk * 2 + j) (by rw [size_flatK]; omega)).2
                    rwa [← Nat.add_assoc] at this)
                exact ⟨zs,h1,fun ty=>h2⟩
              clear hHk hI
              go_wp2
              go_ret
              have hI:=I2.out
              rw [hend] at hI
              refine ⟨by rw [hI.len]; rfl,q2,setMany (flatK eId 2 dk) (kk * 2) zs,by simp [hI.size],fun t ht=>?_,?_⟩
              · rw [hI.len] at ht
                have hts:t < dk.size * 2:=by have:=hI.size; omega
                have hq:t / 2 < kk:=by omega
                rw [get_setMany _ _ _ t (by rw [size_flatK]; exact hts),if_neg (by omega),get_flatK _ _ _ _ hts,get_flatK _ _ _ _ (by simp [hI.len]; omega)]
                have:=hI.low (t / 2) hq
                rw [show (compactUpTo d d.size).toArray[t / 2]! = dk[t / 2]! by simp [this]]
              · rw [W2.out]
                unfold putRowK
                exact setCells_putRow _ _ _ _ _ _ (by rw [size_flatK,hzl]; have:=hI.size; omega)
        · have B':Aside (x≠y):=hdup
          obtain ⟨xr,xn⟩:=x
          obtain ⟨yr,yn⟩:=y
          simp only at c0 c0' c1 c1'
          by_cases hr:xr=yr
          · subst hr
            have hn:xn≠yn:=fun e=>hdup (by rw [e])
            clear hdup
            go_wp2_with fail
            go_region_o
            go_wp2
            go_roundg (d.size - (k + 1))
            case measure=>omega
            case rel =>
              refine ⟨k + 1,q + 1,by omega,by omega,Nat.le_refl _,by go_num,rfl,fun j hj=>?_⟩
              by_cases e:j=k
              · subst e
                exact keeps_pos (by rw [B.out.1,B.out.2]; exact B'.out)
              · exact A.out j (by omega)
          · clear hdup
            go_wp2_with fail
            go_region_o
            go_wp2
            go_roundg (d.size - (k + 1))
            case measure=>omega
            case rel =>
              refine ⟨k + 1,q + 1,by omega,by omega,Nat.le_refl _,by go_num,rfl,fun j hj=>?_⟩
              by_cases e:j=k
              · subst e
                exact keeps_pos (by rw [B.out.1,B.out.2]; exact B'.out)
              · exact A.out j (by omega)
      · have:k=d.size:=by omega
        subst this
        have HH:Aside (HoldsK eId 2 w blk off d):=hH
        clear hH
        go_wp2
        go_ret
        obtain ⟨e1,e2⟩:=HS.out q hall
        exact ⟨by rw [e1]; rfl,e2⟩
theorem zji (w:World):Calls Tryz.prog 180 #[.slice none 0 0] w fun e w'=>e = .returned (.slice none 0 0)∧w'=w:=by
 go_enter Tryz.func180,Tryz.ntmps180
 go_wp2
 go_ret
 exact ⟨rfl,rfl⟩
end Go.Proofs.YtkcahmbcpkjpiaaGreatDoor
namespace Go.Proofs.YtkcahmbcpkjpiaaGreatDoor
open Go.RowKit
open Go.Sort (flatK putRowK HoldsK size_flatK get_flatK putCells mapBlock onCells)
theorem zeX:Flat cId eId 2 where
 k0:=by omega
 len:=fun _=>rfl
 lenp:=fun _=>rfl
 one:=zsM
 fit:=fun S w a j p h=>by
  rcases j with _ | _ | j
  ·
   cases h; exact .int _ _
  ·
   cases h; exact .int _ _
  ·
   simp [cId] at h
 back:=fun S w a j p u h hr=>by
  rcases j with _ | _ | j
  ·
   cases h; cases hr; rfl
  ·
   cases h; cases hr; rfl
  ·
   simp [cId] at h
section
variable {x:Cx} {C:Conc} {H:List AObj} {w w':World}
theorem HR.dropNil (hr : HR x C H w) {id v T sz : Nat} {sto ipu : Bool} (hid : H[id]? = some (.arr v sto ipu T sz [])) :
    HR x C (H.set id .gone) w∧(∀ p u,RepV (zA x C H w) w C p u→RepV (zA x C (H.set id .gone) w) w C p u) :=
  hr.change (C':=C) hid (ob' := .gone) (za5 w) rfl (fun _=>rfl) (fun _ _=>⟨rfl,rfl⟩) (.inl ⟨rfl,rfl⟩) (fun b o hb hf=>trivial) (fun b o hb hf=>rfl) (fun b hb=>hb.elim) (fun _ _=>trivial)
theorem zdt (w : World) (g m : Nat) (F : Array Value) {cur : Array Value} {T : TypeId} {fr : Nat × Nat} (hc : w.heap[g]? = some (.cells cur T fr)) :
    ∃ cur':Array Value,(Go.Sort.putRow id (Go.Sort.ahead w m) g 0 F).heap[g]? = some (.cells cur' T fr)∧cur'.size=cur.size ∧
      (∀ t y,t < F.size→cur'[t]? = some y→y=F[t]!)∧Step w (Go.Sort.putRow id (Go.Sort.ahead w m) g 0 F) (fun b=>b=g):=by
  have hlt:g < w.heap.size:=(Array.getElem?_eq_some_iff.1 hc).1
  have hh:(Go.Sort.putRow id (Go.Sort.ahead w m) g 0 F).heap=w.heap.modify g (onCells (putCells id 0 F)):=rfl
  refine ⟨putCells id 0 F cur,?_,by simp [putCells],fun t y ht hy=>?_,?_⟩
  · rw [hh,Array.getElem?_modify,if_pos rfl,hc]
    rfl
  · rw [putCells,Array.getElem?_mapIdx] at hy
    cases hcu:cur[t]? with
    | none=>rw [hcu] at hy; cases hy
    | some z =>
      rw [hcu,Option.map_some,if_pos ⟨Nat.zero_le _,by omega⟩] at hy
      exact (Option.some.inj hy).symm
  · refine ⟨by rw [hh]; simp,rfl,rfl,rfl,fun b hb hne=>?_⟩
    rw [hh,Array.getElem?_modify,if_neg (fun e=>hne e.symm)]
end
theorem zsN {vs:Array Value} (h:vs.toList.length=1):∃ a,vs=#[a]∧vs.toList[0]? = some a:=by
 obtain ⟨l⟩:=vs
 obtain ⟨a,rfl⟩:=List.length_eq_one_iff.1 h
 exact ⟨a,rfl,rfl⟩
theorem zfG {vs:Array Value} (h:vs.toList.length=2):∃ a b,vs=#[a,b]∧vs.toList[0]? = some a∧vs.toList[1]? = some b:=by
 obtain ⟨l⟩:=vs
 match l,h with
 | [a,b],_=>exact ⟨a,b,rfl,rfl,rfl⟩
def zf8 (l:List Id):List Id:=Lib.compact l
theorem zfs (l : List Id) (v T : Nat) (hl : l.length ≤ 9223372036854775807) :
    zg Tryz.prog 180 [.arr 0 v] [.arr v true false T 2 (l.map cId)] (.list ((zf8 l).map cId)) [.gone]:=by
  intro x vs hx h0 hp
  obtain ⟨a,rfl,h1⟩:=zsN hp.1
  have ha:=hp.2 0 _ _ rfl h1
  obtain ⟨e1,e2,e3⟩:=h0.row (id:=0) rfl ha
  rcases e3 with ⟨rfl,hnil⟩ | ⟨g,cap,cur,rfl,hc,hcap,hm,hz,hrow⟩
  · have:l = []:=by simpa using hnil
    subst this
    refine (zji x.w0).mono ?_
    rintro e w' ⟨rfl,rfl⟩
    obtain ⟨k1,k2⟩:=h0.dropNil (id:=0) (v:=v) (T:=T) (sz:=2) rfl
    exact ⟨_,x.C0,rfl,k1,.pure zfC⟩
  · have hH:=zeX.holds l hc hrow
    have key:=zgW g 0 cap l.toArray x.w0 hH (by simpa using hl) (by simpa using hcap)
    rw [List.length_map]
    refine Calls.mono key ?_
    rintro e w' ⟨rfl,q,F,f1,f2,rfl⟩
    obtain ⟨cur',c1,c2,c3,c4⟩:=zdt x.w0 g q F hc
    have hown:(x.C0.sv 0).ownBlock=some g:=by rw [← e1]; rfl
    have hle:(zf8 l).length≤l.length:=by
      show (Lib.compactUpTo l.toArray l.length).length≤_
      unfold Lib.compactUpTo
      rw [List.length_map]
      exact Nat.le_trans (List.length_filter_le _ _) (by simp)
    have hcl:((zf8 l).map cId).length≤cap:=by rw [List.length_map]; rw [List.length_map] at hcap; omega
    obtain ⟨k1,k2,k3⟩:=h0.drop (id:=0) (g:=g) (cap':=cap) (rows':=(zf8 l).map cId) (cur':=cur') rfl
      ⟨c4.size,c4.os,c4.tape,c4.output,fun b hb hne=>c4.blk b hb fun e=>hne (by rw [hown,e])⟩ hown c1 hcl hm (by rw [c2,hz])
      (fun row hr=>by obtain ⟨y,-,rfl⟩:=List.mem_map.1 hr; rfl)
      (fun k row j p u a b c=>(zeX.rep (d':=(zf8 l).toArray) (cur':=cur') (fun t y ht hy=>by
        rw [c3 t y (by rw [f1]; simp at ht ⊢; omega) hy]
        refine f2 t ?_
        rw [List.size_toArray] at ht
        rw [List.size_toArray]
        exact ht) (zf8 l).length (fun i hi=>by simp [hi]) rfl (by simp) k row j p u a b c).2)
    refine ⟨_,x.C0,rfl,k1,.pure ?_⟩
    rw [List.length_map] at k3
    exact k3
end Go.Proofs.YtkcahmbcpkjpiaaGreatDoor
namespace Go.Proofs.YtkcahmbcpkjpiaaGreatDoor
open Go.Shelf Go.Proofs
def zkE:Go.Shelf.Ren:=⟨fun | 6=>177 | 15=>227 | 14=>226 | 28=>257 | 29=>258 | 20=>249 | 21=>250 | 22=>251 | 23=>252 | 24=>253 | 25=>254 | 26=>255 | 27=>256 | 46=>276 | 47=>277 | 48=>278 | 49=>279 | 50=>280 | 57=>292 | n=>n,fun | 22=>30 | 24=>29 | 25=>202 | 3=>3 | 39=>275 | 0=>0 | 53=>314 | 55=>316 | 4=>4 | 46=>308 | 45=>307 | 50=>206 | 5=>5 | 9=>9 | 66=>327 | 70=>331 | 76=>340 | 77=>341 | n=>n,fun n=>n⟩
theorem zn1:SlLaysF0.n6 Tryz.prog zkE := {
 mixed:=by kernel_rfl,
 f6:=⟨Tryz.f177.name,by decide,Tryz.func177.trans (congrArg some (by kernel_rfl))⟩,
 f14:=⟨Tryz.f226.name,by decide,Tryz.func226.trans (congrArg some (by kernel_rfl))⟩,
 f15:=Tryz.func227.trans (congrArg some (by kernel_rfl)),
 f20:=⟨Tryz.f249.name,by decide,Tryz.func249.trans (congrArg some (by kernel_rfl))⟩,
 f21:=⟨Tryz.f250.name,by decide,Tryz.func250.trans (congrArg some (by kernel_rfl))⟩,
 f22:=⟨Tryz.f251.name,by decide,Tryz.func251.trans (congrArg some (by kernel_rfl))⟩,
 f23:=⟨Tryz.f252.name,by decide,Tryz.func252.trans (congrArg some (by kernel_rfl))⟩,
 f24:=⟨Tryz.f253.name,by decide,Tryz.func253.trans (congrArg some (by kernel_rfl))⟩,
 f25:=⟨Tryz.f254.name,by decide,Tryz.func254.trans (congrArg some (by kernel_rfl))⟩,
 f26:=⟨Tryz.f255.name,by decide,Tryz.func255.trans (congrArg some (by kernel_rfl))⟩,
 f27:=⟨Tryz.f256.name,by decide,Tryz.func256.trans (congrArg some (by kernel_rfl))⟩,
 f28:=Tryz.func257.trans (congrArg some (by kernel_rfl)),
 f29:=Tryz.func258.trans (congrArg some (by kernel_rfl)),
 f46:=⟨Tryz.f276.name,by decide,Tryz.func276.trans (congrArg some (by kernel_rfl))⟩,
 f47:=Tryz.func277.trans (congrArg some (by kernel_rfl)),
 f48:=Tryz.func278.trans (congrArg some (by kernel_rfl)),
 f49:=⟨Tryz.f279.name,by decide,Tryz.func279.trans (congrArg some (by kernel_rfl))⟩,
 f50:=⟨Tryz.f280.name,by decide,Tryz.func280.trans (congrArg some (by kernel_rfl))⟩,
 f57:=⟨Tryz.f292.name,by decide,Tryz.func292.trans (congrArg some (by kernel_rfl))⟩,
 t0:=Tryz.underlying0,
 a0:=Tryz.isAgg0,
 z0:=Tryz.sizeOf0,
 v0:=Tryz.zeroValue0,
 t3:=Tryz.underlying3,
 a3:=Tryz.isAgg3,
 z3:=Tryz.sizeOf3,
 v3:=Tryz.zeroValue3,
 t4:=Tryz.underlying4,
 a4:=Tryz.isAgg4,
 z4:=Tryz.sizeOf4,
 v4:=Tryz.zeroValue4,
 t5:=Tryz.underlying5,
 a5:=Tryz.isAgg5,
 z5:=Tryz.sizeOf5,
 v5:=Tryz.zeroValue5,
 t9:=Tryz.underlying9,
 a9:=Tryz.isAgg9,
 z9:=Tryz.sizeOf9,
 v9:=Tryz.zeroValue9,
 t22:=Tryz.underlying30,
 a22:=Tryz.isAgg30,
 z22:=Tryz.sizeOf30,
 v22:=Tryz.zeroValue30,
 t25:=Tryz.underlying202,
 a25:=Tryz.isAgg202,
 z25:=Tryz.sizeOf202,
 v25:=Tryz.zeroValue202,
 t39:=Tryz.underlying275,
 a39:=Tryz.isAgg275,
 z39:=Tryz.sizeOf275,
 v39:=Tryz.zeroValue275,
 t45:=Tryz.underlying307,
 a45:=Tryz.isAgg307,
 z45:=Tryz.sizeOf307,
 v45:=Tryz.zeroValue307,
 t46:=Tryz.underlying308,
 a46:=Tryz.isAgg308,
 z46:=Tryz.sizeOf308,
 v46:=Tryz.zeroValue308,
 t50:=Tryz.underlying206,
 a50:=Tryz.isAgg206,
 z50:=Tryz.sizeOf206,
 v50:=Tryz.zeroValue206,
 t53:=Tryz.underlying314,
 a53:=Tryz.isAgg314,
 z53:=Tryz.sizeOf314,
 v53:=Tryz.zeroValue314,
 t55:=Tryz.underlying316,
 a55:=Tryz.isAgg316,
 z55:=Tryz.sizeOf316,
 v55:=Tryz.zeroValue316,
 t66:=Tryz.underlying327,
 a66:=Tryz.isAgg327,
 z66:=Tryz.sizeOf327,
 v66:=Tryz.zeroValue327,
 t70:=Tryz.underlying331,
 a70:=Tryz.isAgg331,
 z70:=Tryz.sizeOf331,
 v70:=Tryz.zeroValue331,
 t76:=Tryz.underlying340,
 a76:=Tryz.isAgg340,
 z76:=Tryz.sizeOf340,
 v76:=Tryz.zeroValue340,
 t77:=Tryz.underlying341,
 a77:=Tryz.isAgg341,
 z77:=Tryz.sizeOf341,
 v77:=Tryz.zeroValue341 }
end Go.Proofs.YtkcahmbcpkjpiaaGreatDoor
namespace Go.Proofs.YtkcahmbcpkjpiaaGreatDoor
open Go.RowKit
theorem zml (a b:Int) (w:World):Calls Tryz.prog 214 #[.int .i64 a,.int .i64 b] w fun e w'=>e = .returned (.int .i64 (zka a b))∧w=w':=by
 by_cases h1:a < b
 ·
  go_enter Tryz.func214,Tryz.ntmps214
  go_wp2
  go_ret
  exact ⟨by simp [zka,h1],rfl⟩
 ·
  by_cases h2:b < a
  ·
   go_enter Tryz.func214,Tryz.ntmps214
   go_wp2
   go_ret
   exact ⟨by simp [zka,h1,h2],rfl⟩
  ·
   go_enter Tryz.func214,Tryz.ntmps214
   go_wp2
   go_ret
   exact ⟨zf5 (by unfold zka; rw [if_neg (by omega),if_neg (by omega)]),rfl⟩
theorem zjj (a b:Id) (w:World):Calls Tryz.prog 143 #[.agg #[.int .i64 a.r,.int .i64 a.n],.agg #[.int .i64 b.r,.int .i64 b.n]] w fun e w'=>e = .returned (.int .i64 (zfe a b))∧∃ q os',w'=Go.Sort.grow (w.drewN q) os':=by
 go_enter Tryz.func143,Tryz.ntmps143
 go_wp2_with (go_at_call 214; refine (zml _ _ _).mono ?_; rintro e w' ⟨rfl,rfl⟩)
 ·
  go_ret
  have h:(zka a.r b.r != 0)=true:=by assumption
  exact ⟨zf5 (by rw [zfe,if_neg (by simpa using h)]),0,_,by rw [Go.Sort.alloc_eq_grow,Go.Sort.alloc_eq_grow,Go.Sort.grow_grow]; rfl⟩
 ·
  go_ret
  have h:(zka a.r b.r != 0)=false:=by assumption
  exact ⟨zf5 (by rw [zfe,if_pos (by simpa using h)]),0,_,by rw [Go.Sort.alloc_eq_grow,Go.Sort.alloc_eq_grow,Go.Sort.grow_grow]; rfl⟩
theorem zqD (blk off size:Nat) (w:World):CmpLays Tryz.prog 143 #[] eId 2 zfe blk off size w:=fun _ _ _ _ a b=>zjj a b _
theorem zAA:Go.Sort.SWO (ltOf zfe) where
 irrefl:=fun x=>by simp [ltOf,zaD,zP]
 trans:=fun x y z h1 h2=>by
  simp only [ltOf,decide_eq_true_eq,zaD,zP] at h1 h2 ⊢
  omega
 ntrans:=fun x y z h1 h2=>by
  simp only [ltOf,decide_eq_false_iff_not,zaD,zP,decide_eq_true_eq] at h1 h2 ⊢
  omega
theorem zn2 (x y:Id) (h1:ltOf zfe x y=false) (h2:ltOf zfe y x=false):x=y:=by
 simp only [ltOf,decide_eq_false_iff_not,zaD,zP,decide_eq_true_eq] at h1 h2
 cases x; cases y
 simp at h1 h2 ⊢
 omega
def Zv (l:List Id):List Id:=l.mergeSort fun x y => !(ltOf zfe) y x
theorem zcD (l : List Id) (v T : Nat) (hl : l.length < 4611686018427387904) :
    zg Tryz.prog 177 [.arr 0 v,.clo 143 []] [.arr v true false T 2 (l.map cId)] (.tup []) [.arr v true false T 2 ((Zv l).map cId)]:=by
  intro x vs hx h0 hp
  obtain ⟨a,b,rfl,h1,h2⟩:=zfG hp.1
  have ha:=hp.2 0 _ _ rfl h1
  have hb:=hp.2 1 _ _ rfl h2
  obtain ⟨ws,rfl,hw,-⟩:=hb.clo_inv
  obtain rfl:ws = []:=List.length_eq_zero_iff.1 hw
  obtain ⟨e1,e2,e3⟩:=h0.row (id:=0) rfl ha
  rcases e3 with ⟨rfl,hnil⟩ | ⟨g,cap,cur,rfl,hc,hcap,hm,hz,hrow⟩
  · have:l = []:=by simpa using hnil
    subst this
    refine (AnyF.slices_SortFunc_none zn1 none 0 (.func (.func 143) #[] #[]) x.w0).mono ?_
    rintro e w' ⟨rfl,rfl⟩
    exact ⟨_,x.C0,rfl,by simpa [Zv] using h0,.tup [] [] rfl (fun j p u h=>by simp at h)⟩
  · have eg:∀ args w,(callFunc 143 args).run Tryz.prog w = .ok (.enter 143 args) w:=enters_of Tryz.func143 (by kernel_rfl) rfl
    have hH:=zeX.holds l hc hrow
    have hlt:g < x.w0.heap.size:=(Array.getElem?_eq_some_iff.1 hc).1
    have key:=AnyQ.slices_SortFunc_total zn1 2 (fun _=>by kernel_rfl) (fun _=>by kernel_rfl) eId zeX.len zeX.one zfe zAA 143 #[] g 0 cap l.toArray x.w0 eg (zqD g 0 _ x.w0) hH hlt (by simpa using hl) zn2
    rw [List.length_map] at *
    refine key.mono ?_
    rintro e w' ⟨rfl,n,os,rfl⟩
    obtain ⟨cur',c1,c2,c3,c4⟩:=zjf eId 2 x.w0 g n (l.toArray.toList.mergeSort fun x y => !(ltOf zfe) y x).toArray os hc
    have hsl:(Zv l).length=l.length:=(List.mergeSort_perm l _).length_eq
    have hown:(x.C0.sv 0).ownBlock=some g:=by rw [← e1]; rfl
    obtain ⟨C',k1,k2,k3⟩:=h0.rerow (id:=0) (v':=v) (g':=g) (cap':=cap) (rows':=(Zv l).map cId) (cur':=cur') rfl (by
      refine ⟨c4.size,c4.os,c4.tape,c4.output,fun b hb hne=>c4.blk b hb fun e=>hne (by rw [hown,e])⟩) (.inl hown) (.inl ⟨rfl,by rw [← e1,List.length_map,hsl]⟩) c1 (by rw [List.length_map,hsl]; exact hcap) hm (by rw [c2,hz])
      (fun row hr=>by obtain ⟨y,-,rfl⟩:=List.mem_map.1 hr; rfl) (zeX.rep c3 (l:=Zv l) (Zv l).length (fun i hi=>by
        rw [List.getElem?_eq_getElem hi]
        simp [Zv] at hi ⊢
        simp [hi]) rfl (by simp [Zv]))
    exact ⟨_,C',rfl,k1,.tup [] [] rfl (fun j p u h=>by simp at h)⟩
/-! ids in order -/
def Asc (l:List Id):Prop:=l.Pairwise fun a b=>zP a b=true
theorem zab {a b c:Id} (h1:zP a b=true) (h2:zP b c=true):zP a c=true:=by
 simp only [zP,decide_eq_true_eq] at *; omega
theorem zc6 (a:Id):zP a a=false:=by simp [zP]
theorem zhl {a b:Id} (h1:zP a b=false) (h2:zP b a=false):a=b:=by
 cases a; cases b
 simp only [zP,decide_eq_false_iff_not] at h1 h2
 simp
 omega
theorem zn3:∀ {l m:List Id},Asc l→Asc m→(∀ x,x ∈ l↔x ∈ m)→l=m
 | [],[],_,_,_=>rfl
 | [],y :: m,_,_,h=>by have:=(h y).2 (by simp); simp at this
 | x :: l,[],_,_,h=>by have:=(h x).1 (by simp); simp at this
 | x :: l,y :: m,h1,h2,h=>by
  have h1':=List.pairwise_cons.1 h1
  have h2':=List.pairwise_cons.1 h2
  have hxy:x=y:=by
   rcases List.mem_cons.1 ((h x).1 (by simp)) with e | e
   ·
    exact e
   rcases List.mem_cons.1 ((h y).2 (by simp)) with e' | e'
   ·
    exact e'.symm
   have:=zab (h1'.1 y e') (h2'.1 x e)
   rw [zc6] at this; cases this
  subst hxy
  rw [zn3 h1'.2 h2'.2 fun z=>?_]
  constructor
  ·
   intro hz
   rcases List.mem_cons.1 ((h z).1 (by simp [hz])) with e | e
   ·
    subst e; have:=h1'.1 z hz; rw [zc6] at this; cases this
   ·
    exact e
  ·
   intro hz
   rcases List.mem_cons.1 ((h z).2 (by simp [hz])) with e | e
   ·
    subst e; have:=h2'.1 z hz; rw [zc6] at this; cases this
   ·
    exact e
theorem zhX:∀ (l:List Int) (a b:Int),l.Pairwise (· < ·)→(∀ x ∈ l,a≤x∧x < b)→a≤b→(l.length:Int)≤b - a
 | [],a,b,_,_,h=>by simp; omega
 | x :: l,a,b,hp,hm,h=>by
  have hp':=List.pairwise_cons.1 hp
  have hx:=hm x (by simp)
  have:=zhX l (x + 1) b hp'.2 (fun y hy=>⟨hp'.1 y hy,(hm y (by simp [hy])).2⟩) (by omega)
  simp only [List.length_cons]; omega
theorem zsO {l:List Id} (h:Asc l) (hk:∀ x ∈ l,zeV x=true):l.length≤40:=by
 have hb:∀ x ∈ l,0≤x.r∧x.r≤1∧1≤x.n∧x.n≤20:=fun x hx=>by
  have:=hk x hx
  simp only [zeV,Bool.and_eq_true,zX] at this
  omega
 have:=zhX (l.map fun x=>x.r * 20 + x.n) 1 41 (List.pairwise_map.2 (List.Pairwise.imp_of_mem (fun {a b} ha hb' hab=>by
  have h1:=hb a ha
  have h2:=hb b hb'
  simp only [zP,decide_eq_true_eq] at hab
  omega) h)) (fun y hy=>by
   obtain ⟨x,hx,rfl⟩:=List.mem_map.1 hy
   have:=hb x hx
   omega) (by omega)
 rw [List.length_map] at this
 omega
theorem zet {l:List Id} {x:Id}:x ∈ Zv l↔x ∈ l:=(List.mergeSort_perm l _).mem_iff
theorem zjk (l:List Id):(Zv l).length=l.length:=(List.mergeSort_perm l _).length_eq
theorem zff (l:List Id):(Zv l).Pairwise fun a b=>zP b a=false:=by
 have:=List.pairwise_mergeSort (le:=fun x y:Id => !(ltOf zfe) y x) (fun a b c h1 h2=>by
  simp only [ltOf,zaD,Bool.not_eq_true',decide_eq_false_iff_not,Bool.not_eq_true] at *
  simp only [zP,decide_eq_false_iff_not] at *; omega) (fun a b=>by
  simp only [ltOf,zaD,Bool.or_eq_true,Bool.not_eq_true',decide_eq_false_iff_not,zP,decide_eq_true_eq]; omega) l
 exact this.imp fun {a b} h=>by simpa [ltOf,zaD] using h
theorem zn4 {l:List Id} {x:Id}:x ∈ zf8 l↔x ∈ l:=by
 unfold zf8 Lib.compact Lib.compactUpTo
 rw [List.mem_map]
 constructor
 ·
  rintro ⟨j,hj,rfl⟩
  have:j < l.length:=by simpa using (List.mem_filter.1 hj).1
  simp [this]
 ·
  intro hx
  obtain ⟨j,hj,rfl⟩:=List.getElem_of_mem hx
  induction j using Nat.strongRecOn with
  | _ j ih =>
   by_cases hk:Lib.keeps l.toArray j=true
   ·
    exact ⟨j,List.mem_filter.2 ⟨List.mem_range.2 hj,hk⟩,by simp [hj]⟩
   ·
    simp only [Lib.keeps,decide_eq_true_eq,not_or,Decidable.not_not] at hk
    obtain ⟨h0,h1⟩:=hk
    have hj':j - 1 < l.length:=by omega
    obtain ⟨i,h2,h3⟩:=ih (j - 1) (by omega) hj' (List.getElem_mem hj')
    refine ⟨i,h2,?_⟩
    rw [h3]
    have:=h1
    simp only [hj,hj',List.getElem!_toArray,getElem!_pos] at this
    exact this.symm
theorem zn5 {l:List Id} (h:l.Pairwise fun a b=>zP b a=false):Asc (zf8 l):=by
 unfold zf8 Lib.compact Lib.compactUpTo Asc
 rw [List.pairwise_map]
 refine List.Pairwise.imp_of_mem (R:=(· < ·)) (fun {i j} hi hj hij=>?_) (List.Pairwise.filter _ List.pairwise_lt_range)
 obtain ⟨h1,-⟩:=List.mem_filter.1 hi
 obtain ⟨h2,h3⟩:=List.mem_filter.1 hj
 have hjl:j < l.length:=List.mem_range.1 h2
 simp only [Lib.keeps,decide_eq_true_eq] at h3
 have h3':=h3.resolve_left (by omega)
 have hj1:j - 1 < l.length:=by omega
 have hil:i < l.length:=by omega
 simp only [List.getElem!_toArray,getElem!_pos,hjl,hj1] at h3'
 simp only [List.getElem!_toArray,getElem!_pos,hjl,hil]
 have a1:zP l[j] l[j - 1]=false:=List.pairwise_iff_getElem.1 h (j - 1) j hj1 hjl (by omega)
 have a2:zP l[j - 1] l[j]=true:=by
  cases e:zP l[j - 1] l[j]
  ·
   exact (h3' (zhl a1 e)).elim
  ·
   rfl
 by_cases e:i=j - 1
 ·
  subst e; exact a2
 ·
  have a3:zP l[j - 1] l[i]=false:=List.pairwise_iff_getElem.1 h i (j - 1) hil hj1 (by omega)
  simp only [zP,decide_eq_false_iff_not,decide_eq_true_eq] at *
  omega
def ztD (l:List Id):List Id:=zf8 (Zv l)
theorem zqE {l:List Id} {x:Id}:x ∈ ztD l↔x ∈ l:=zn4.trans zet
theorem zqF (l:List Id):Asc (ztD l):=zn5 (zff l)
theorem zjl {l:List Id} (h:l.Nodup):Asc (Zv l):=by
 have h1:(Zv l).Nodup:=(List.mergeSort_perm l _).nodup_iff.2 h
 exact (List.Pairwise.and (zff l) h1).imp fun {a b} ⟨h1,h2⟩=>by
  cases e:zP a b
  ·
   exact (h2 (zhl e h1)).elim
  ·
   rfl
/-! finding -/
theorem zjm {α:Type} (p:α→Bool):∀ (l:List α) (k i:Nat),0≤zaH p (l.take k) i→zaH p l i=zaH p (l.take k) i∧zaH p l i < i + k
 | [],k,i,h=>by simp [zaH] at h
 | x :: l,0,i,h=>by simp [zaH] at h
 | x :: l,k + 1,i,h=>by
  simp only [List.take_succ_cons,zaH] at h ⊢
  split
  ·
   exact ⟨rfl,by omega⟩
  ·
   rename_i hx
   rw [if_neg hx] at h
   have:=zjm p l k (i + 1) h
   exact ⟨this.1,by omega⟩
theorem zf9 {α:Type} [Inhabited α] (p:α→Bool):∀ (l:List α) (i:Nat),0≤zaH p l i→∃ k:Nat,zaH p l i=i + k∧k < l.length∧p (nth l k)=true
 | [],i,h=>by simp [zaH] at h
 | x :: l,i,h=>by
  simp only [zaH] at h ⊢
  split
  ·
   rename_i hx
   exact ⟨0,by simp,by simp,by simpa [nth] using hx⟩
  ·
   rename_i hx
   rw [if_neg hx] at h
   obtain ⟨k,h1,h2,h3⟩:=zf9 p l (i + 1) h
   exact ⟨k + 1,by omega,by simp; omega,by simpa [nth] using h3⟩
theorem zmm {l:List Entry} {k:Nat} {x:Id} (h:0≤zz (l.take k) x):zz l x=zz (l.take k) x∧zz l x < k:=by
 have:=zjm (fun e:Entry=>decide (e.id=x)) l k 0 h
 exact ⟨this.1,by have:=this.2; unfold zz; omega⟩
theorem ZO {l:List Entry} {x:Id} (h:0≤zz l x):∃ k:Nat,zz l x=k∧k < l.length∧(nth l k).id=x:=by
 obtain ⟨k,h1,h2,h3⟩:=zf9 _ l 0 h
 exact ⟨k,by rw [zz,h1]; simp,h2,by simpa using h3⟩
theorem zaI {l:List Entry} {x:Id}:zz l x < 0↔∀ e ∈ l,e.id≠x:=by
 rcases zf7 (fun e:Entry=>decide (e.id=x)) l 0 with ⟨h1,h2⟩ | ⟨h1,h2⟩
 ·
  rw [zz,h1]
  rw [List.any_eq_false] at h2
  exact ⟨fun _ e he=>by simpa using h2 e he,fun _=>by omega⟩
 ·
  rw [List.any_eq_true] at h2
  obtain ⟨e,he,hx⟩:=h2
  exact ⟨fun h=>by rw [zz] at h; omega,fun h=>(h e he (by simpa using hx)).elim⟩
/-! right logs -/
structure LogOk (l:List Entry):Prop where
 len:l.length≤40
 chk:∀ k,k < l.length→zl (nth l k)=0
 new:∀ k,k < l.length→zz (l.take k) (nth l k).id < 0
 num:∀ k,k < l.length→(ZB (l.take k) (nth l k).id.r:Int) + 1=(nth l k).id.n
 lnk:∀ k,k < l.length→∀ x ∈ (nth l k).ls,0≤zz (l.take k) x
theorem zaQ {l:List Entry}:z8 l=0↔LogOk l:=by
 have key:∀ k,ZC l k=0↔zl (nth l k)=0∧zz (l.take k) (nth l k).id < 0∧(ZB (l.take k) (nth l k).id.r:Int) + 1=(nth l k).id.n∧∀ x ∈ (nth l k).ls,0≤zz (l.take k) x:=by
  intro k
  unfold ZC
  split
  ·
   rename_i h; exact ⟨fun e=>(h e).elim,fun e=>(h e.1).elim⟩
  ·
   rename_i h0
   have h0':zl (nth l k)=0:=by simpa using h0
   split
   ·
    rename_i h; exact ⟨fun e=>(by cases e),fun e=>by omega⟩
   ·
    rename_i h1
    split
    ·
     rename_i h; exact ⟨fun e=>(by cases e),fun e=>(h e.2.2.1).elim⟩
    ·
     rename_i h2
     have h2':(ZB (l.take k) (nth l k).id.r:Int) + 1=(nth l k).id.n:=by simpa using h2
     have hr:zV (l.take k) (nth l k)=true↔∀ x ∈ (nth l k).ls,0≤zz (l.take k) x:=by
      simp only [zV,h2',decide_true,Bool.true_and,Bool.not_eq_true',List.any_eq_false,decide_eq_true_eq]
      exact ⟨fun h x hx=>by have:=h x hx; omega,fun h x hx=>by have:=h x hx; omega⟩
     rw [← hr]
     split
     ·
      rename_i h; exact ⟨fun e=>(by cases e),fun e=>by rw [h] at e; simp at e⟩
     ·
      rename_i h; exact ⟨fun _=>⟨h0',by omega,h2',by simpa using h⟩,fun _=>rfl⟩
 unfold z8
 split
 ·
  rename_i h; exact ⟨fun e=>(by cases e),fun e=>by have:=e.len; omega⟩
 ·
  rename_i h
  rw [ZY]
  exact ⟨fun e=>⟨by omega,fun k hk=>((key k).1 (e k hk)).1,fun k hk=>((key k).1 (e k hk)).2.1,fun k hk=>((key k).1 (e k hk)).2.2.1,fun k hk=>((key k).1 (e k hk)).2.2.2⟩,
   fun e k hk=>(key k).2 ⟨e.chk k hk,e.new k hk,e.num k hk,e.lnk k hk⟩⟩
theorem LogOk.id_ok {l:List Entry} (h:LogOk l) {k:Nat} (hk:k < l.length):zeV (nth l k).id=true:=(Zd (h.chk k hk)).1
theorem LogOk.links {l:List Entry} (h:LogOk l) {k:Nat} (hk:k < l.length):(nth l k).ls.length≤6:=(Zd (h.chk k hk)).2.2.2.1
theorem LogOk.link_lt {l:List Entry} (h:LogOk l) {k:Nat} (hk:k < l.length) {x:Id} (hx:x ∈ (nth l k).ls):0≤zz l x∧zz l x < k:=by
 have h1:=h.lnk k hk x hx
 have h2:=zmm h1
 exact ⟨by omega,h2.2⟩
theorem LogOk.inj {l:List Entry} (h:LogOk l) {i k:Nat} (hi:i < l.length) (hk:k < l.length) (e:(nth l i).id=(nth l k).id):i=k:=by
 have aux:∀ i k,i < k→k < l.length→(nth l i).id=(nth l k).id→False:=fun i k hik hk e=>by
  have:=zaI.1 (h.new k hk) (nth l i) (by rw [List.mem_take_iff_getElem]; exact ⟨i,by omega,by rw [zy _ _ (by omega)]⟩)
  exact this e
 rcases Nat.lt_trichotomy i k with h1 | h1 | h1
 ·
  exact (aux i k h1 hk e).elim
 ·
  exact h1
 ·
  exact (aux k i h1 hi e.symm).elim
theorem LogOk.find {l:List Entry} (h:LogOk l) {k:Nat} (hk:k < l.length):zz l (nth l k).id=k:=by
 have h0:¬ zz l (nth l k).id < 0:=fun hn=>zaI.1 hn (nth l k) (by rw [zy _ _ hk]; exact List.getElem_mem hk) rfl
 obtain ⟨j,h1,h2,h3⟩:=ZO (by omega:0≤zz l (nth l k).id)
 rw [h1,h.inj h2 hk h3]
theorem LogOk.reg {l:List Entry} (h:LogOk l):zhW l:=by
 intro e he
 obtain ⟨k,hk,rfl⟩:=List.getElem_of_mem he
 rw [← zy l k hk]
 exact zaz (h.chk k hk)
/-! Z0 -/
def ZD (ps:List (List Id)) (l:List Entry) (x:Id):List Id:=nth ps (zz l x).toNat
def zcP (ps:List (List Id)) (l:List Entry) (ls:List Id):List Id:=ls.flatMap fun x=>x :: ZD ps l x
def Ze (l:List Entry):Nat→List (List Id)
 | 0 => []
 | k + 1=>Ze l k ++ [ztD (zcP (Ze l k) l (nth l k).ls)]
def Z0 (l:List Entry):List (List Id):=Ze l l.length
def ZE (l:List Entry) (k:Nat):List Id:=nth (Z0 l) k
@[simp] theorem pastsTo_length (l:List Entry):∀ k,(Ze l k).length=k
 | 0=>rfl
 | k + 1=>by simp [Ze,pastsTo_length l k]
theorem zbR (l:List Entry) {i k:Nat} (h:i < k):nth (Ze l k) i=nth (Ze l (i + 1)) i:=by
 induction k with
 | zero=>omega
 | succ k ih =>
  by_cases e:i=k
  ·
   rw [e]
  ·
   rw [← ih (by omega),zy _ _ (by simp; omega),zy _ _ (by simp; omega)]
   simp only [Ze]
   rw [List.getElem_append_left]
theorem zqG (l:List Entry) (k:Nat):nth (Ze l (k + 1)) k=ztD (zcP (Ze l k) l (nth l k).ls):=by
 rw [zy _ _ (by simp)]
 simp only [Ze]
 rw [List.getElem_append_right (by simp)]
 simp
theorem zqH {l:List Entry} (h:LogOk l) {k m:Nat} (hk:k < l.length) (hm:k≤m):zcP (Ze l m) l (nth l k).ls=zcP (Ze l k) l (nth l k).ls:=by
 unfold zcP
 have:∀ x ∈ (nth l k).ls,ZD (Ze l m) l x=ZD (Ze l k) l x:=fun x hx=>by
  have:=h.link_lt hk hx
  unfold ZD
  rw [zbR l (by omega:(zz l x).toNat < m),zbR l (by omega:(zz l x).toNat < k)]
 rw [List.flatMap_def,List.flatMap_def]
 congr 1
 exact List.map_congr_left fun x hx=>by rw [this x hx]
theorem zjn {l:List Entry} (h:LogOk l) {k:Nat} (hk:k < l.length):ZE l k=ztD (zcP (Z0 l) l (nth l k).ls):=by
 unfold ZE Z0
 rw [zbR l hk,zqG,zqH h hk (Nat.le_of_lt hk)]
theorem zmn {l:List Entry} (h:LogOk l) {k:Nat} (hk:k < l.length):Asc (ZE l k):=by
 rw [zjn h hk]; exact zqF _
theorem zaW {l:List Entry} (h:LogOk l) {k:Nat} (hk:k < l.length) {y:Id}:y ∈ ZE l k↔∃ x ∈ (nth l k).ls,y=x∨y ∈ ZE l (zz l x).toNat:=by
 rw [zjn h hk,zqE,zcP,List.mem_flatMap]
 simp only [List.mem_cons]
 rfl
theorem zn6 {l:List Entry} (h:LogOk l):∀ (k:Nat),k < l.length→∀ y ∈ ZE l k,∃ j,j < k∧(nth l j).id=y:=by
 intro k
 induction k using Nat.strongRecOn with
 | _ k ih =>
  intro hk y hy
  obtain ⟨x,hx,he⟩:=(zaW h hk).1 hy
  obtain ⟨h1,h2⟩:=h.link_lt hk hx
  obtain ⟨j,h3,h4,h5⟩:=ZO h1
  rcases he with rfl | he
  ·
   exact ⟨j,by omega,h5⟩
  ·
   obtain ⟨i,h6,h7⟩:=ih (zz l x).toNat (by omega) (by omega) y he
   exact ⟨i,by omega,h7⟩
theorem zn7 {l:List Entry} (h:LogOk l) {k:Nat} (hk:k < l.length):∀ y ∈ ZE l k,zeV y=true:=by
 intro y hy
 obtain ⟨j,h1,rfl⟩:=zn6 h k hk y hy
 exact h.id_ok (by omega)
theorem zbF {l:List Entry} (h:LogOk l) {k:Nat} (hk:k < l.length):(ZE l k).length≤40:=zsO (zmn h hk) (zn7 h hk)
theorem z6 {x : Cx} {nt : Nat} {st : St} (t id : Nat) {cells : List PV} {H' : List AObj} {cells' : List PV} (h : st.env t = .ptr id 0) (hid : st.heap[id]? = some (.box cells)) (hc : cells.map (frz st.heap) = cells') (hp : cells'.all PV.isPure = true) (hH : st.heap.set id .gone = H') :
    zbk x nt st (st.put (some t) (.rptr cells') H'):=by
  subst hc; subst hH
  intro a w ⟨⟨C,hr,he⟩,hdf,hs⟩
  have hlt:id < st.heap.length:=(List.getElem?_eq_some_iff.1 hid).1
  obtain ⟨cs,T,g1,g2,g3⟩:=hr.obj id _ hid
  have hb:C.blk id < w.heap.size:=(Array.getElem?_eq_some_iff.1 g1).1
  have hmp:∀ p v,RepP (zA x C st.heap w) w p v→RepP (zA x C (st.heap.set id .gone) w) w p v:=by
    intro p v h
    refine h.mono (fun b o h=>⟨h.1,h.2.1,fun i ob1 hi=>?_⟩) fun b o h=>rfl
    by_cases e:i=id
    · subst e; rw [List.getElem?_set_self hlt] at hi; cases hi; trivial
    · rw [List.getElem?_set_ne (Ne.symm e)] at hi; exact h.2.2 i ob1 hi
  obtain ⟨k1,k2⟩:=hr.change (C':=C) hid (ob' := .gone) (za5 w) rfl (fun _=>rfl) (fun _ _=>⟨rfl,rfl⟩) (.inl ⟨rfl,rfl⟩)
    (fun b o hb hf=>trivial) (fun b o hb hf=>rfl) (fun b hb=>hb.elim) (fun _ _=>trivial)
  have hfz:=ziM (vs:=cells) (us:=cs.toList) hr (fun j q u hq hu=>g3 j q u hq (by rw [← Array.getElem?_toList]; exact hu)) hp
  refine ⟨⟨C,k1,fun u=>?_⟩,hdf,hs⟩
  simp only [St.put,Option.some.injEq]
  by_cases e:t=u
  · subst e
    rw [if_pos rfl]
    have:=he t
    rw [h] at this
    rw [this.ptr_inv.1]
    refine .rptr _ (C.blk id) 0 (fun j=>cs[j]!) (fun j p hj=>?_) fun j p hj=>?_
    all_goals
      have hjl:j < cs.size:=by
        have:=(List.getElem?_eq_some_iff.1 hj).1
        rw [List.length_map] at this; omega
    · refine ⟨⟨?_,hb,fun i ob1 hi=>?_⟩,?_⟩
      · exact .inr ⟨hr.mine id _ _ hid rfl,.of g1⟩
      · by_cases e:i=id
        · subst e; rw [List.getElem?_set_self hlt] at hi; cases hi; trivial
        · rw [List.getElem?_set_ne (Ne.symm e)] at hi
          exact AObj.free_of_not (fun hb=>e (hr.apart i id ob1 _ _ hi hid hb rfl)) _
      · simp [World.cell?,g1,hjl]
    · exact hmp _ _ (hfz j p _ hj (by simp [hjl])).2
  · rw [if_neg e]; exact k2 _ _ (he u)
def zcy (ps:List (List Id)):List (List PV):=ps.map fun p => [.list (p.map cId)]
def zF (l:List Entry) (ps:List (List Id)):PV := .rptr [.list (l.map cE),.list (zcy ps)]
theorem zqI (l : List Entry) (ps : List (List Id)) (x : Id) (hl : l.length ≤ 9223372036854775806) (h0 : 0 ≤ zz l x) (h1 : zz l x < ps.length) :
    zg Tryz.prog 107 [zF l ps,.agg (cId x)] [] (.list ((ZD ps l x).map cId)) []:=by
  have hg:ps[(zz l x).toNat]? = some (ZD ps l x):=zk _ _ (by omega)
  refine zg.of_walk Tryz.func107 Tryz.ntmps107 zry zrz (by simp) fun xx hx=>?_
  simp only [go_sem,zum,zun,cId,zF,zcy]
  refine za (.pureE (ZN l x hl) (by simp [go_sem,cId])) ?_
  simp only [go_sem,h0,h1,hg]
  refine zb hx ?_
  simp [go_sem,zum,zun]
theorem zn8 (l : List Entry) (ps : List (List Id)) (x : Id) (v T : Nat) (hl : l.length ≤ 9223372036854775806) (h0 : 0 ≤ zz l x) (h1 : zz l x < ps.length) :
    zg Tryz.prog 107 [.ptr 0 0,.agg (cId x)] [.box [.list (l.map cE),.arr 1 v],.arr v false false T 1 (zcy ps)] (.list ((ZD ps l x).map cId)) [.box [.list (l.map cE),.arr 1 v],.arr v false false T 1 (zcy ps)]:=by
  have hg:ps[(zz l x).toNat]? = some (ZD ps l x):=zk _ _ (by omega)
  refine zg.of_walk Tryz.func107 Tryz.ntmps107 zry zrz (by simp) fun xx hx=>?_
  simp only [go_sem,zum,zun,cId,zcy]
  refine za (.pureE (ZN l x hl) (by simp [go_sem,cId])) ?_
  simp only [go_sem,h0,h1,hg]
  refine zG [] (by simp) (by simp) (by simp [hx]) ?_ ?_
  · simp [go_sem,zum,zun,hx,pos,List.range_succ]
  · simp [zc,zd,hx,go_sem,pos,List.range_succ]
theorem zhm {ps:List (List Id)} {l:List Entry} {ls:List Id} {j:Nat} (h:j < ls.length):zcP ps l (ls.take (j + 1))=zcP ps l (ls.take j) ++ [nth ls j] ++ ZD ps l (nth ls j):=by
 unfold zcP
 rw [List.take_succ_eq_append_getElem h,zy _ _ h,List.flatMap_append]
 simp only [List.flatMap_cons,List.flatMap_nil,List.append_nil,List.append_assoc,List.cons_append,List.nil_append]
theorem zjo {l:List Entry} {k:Nat} {x:Id} (hk:k≤l.length) (h0:0≤zz l x) (h1:zz l x < k):ZD (Ze l k) l x=ZE l (zz l x).toNat:=by
 unfold ZD ZE Z0
 rw [zbR l (by omega:(zz l x).toNat < k),zbR l (by omega:(zz l x).toNat < l.length)]
theorem zga {l:List Entry} (h:LogOk l) {k:Nat} (hk:k < l.length):∀ j,j≤(nth l k).ls.length→(zcP (Ze l k) l ((nth l k).ls.take j)).length≤41 * j
 | 0,_=>by simp [zcP]
 | j + 1,hj=>by
  have hlj:j < (nth l k).ls.length:=by omega
  obtain ⟨f1,f2⟩:=h.link_lt hk (x:=nth (nth l k).ls j) (by rw [zy _ _ hlj]; exact List.getElem_mem hlj)
  have:=zga h hk j (by omega)
  have h2:=zbF h (k:=(zz l (nth (nth l k).ls j)).toNat) (by omega)
  rw [zhm hlj,zjo (by omega) f1 f2]
  simp only [List.length_append,List.length_cons,List.length_nil]
  omega
theorem zc7 (l:List Entry) (h:LogOk l):zg Tryz.prog 106 [.list (l.map cE)] [] (zF l (Z0 l)) []:=by
 have hm:=h.len
 refine zg.of_walk Tryz.func106 Tryz.ntmps106 zuk zul (by simp) fun x hx=>?_
 simp only [go_sem,zy0,zy1]
 refine zaa (Z9 0 1 0 30 1 false false rfl rfl (by omega)) ?_
 refine zr [3,12,13,14] 2 (fun n st=>∃ k:Nat,k + n=l.length ∧
  st=⟨mkE .top [(3,.ptr 0 0),(12,.list (l.map cE)),(13,.int .i64 l.length),(14,.int .i64 k)],[.box [.list (l.map cE),.arr 1 k],.arr k false false 30 1 (zcy (Ze l k))]⟩) l.length (by simp [hx]) (by simp) ?_ ?_
 ·
  refine ⟨0,by omega,?_⟩
  simp [zi,go_sem,zc,zd,pos,List.range_succ,Ze,zcy]
 ·
  rintro n st ⟨k,hk,rfl⟩
  by_cases hlt:k < l.length
  ·
   have hg:l[k]? = some (nth l k):=zk _ _ hlt
   have wk:=zD (k:=k) (by omega)
   have hls:=h.links hlt
   simp only [go_sem,hlt,hg,cE]
   refine zaa (ZQ 6 0 29 2 true false rfl (by omega)) ?_
   refine zr [3,6,12,13,14,19,20,21] 4 (fun n st=>∃ j:Nat,j + n=(nth l k).ls.length ∧
    st=⟨mkE .top [(3,.ptr 0 0),(6,.arr 3 (2 * j)),(12,.list (l.map cE)),(13,.int .i64 l.length),(14,.int .i64 k),(19,.list ((nth l k).ls.map cId)),(20,.int .i64 (nth l k).ls.length),(21,.int .i64 j)],
     [.box [.list (l.map cE),.arr 1 k],.arr k false false 30 1 (zcy (Ze l k)),.box (cE (nth l k)),.arr (2 * j) true false 29 2 ((zcP (Ze l k) l ((nth l k).ls.take j)).map cId)]⟩) (nth l k).ls.length (by simp [hx]) (by simp [St.put]) ?_ ?_
   ·
    refine ⟨0,by omega,?_⟩
    simp [zi,go_sem,zc,zd,pos,List.range_succ,cE,zcP]
   ·
    rintro n2 st ⟨j,hj,rfl⟩
    by_cases hlj:j < (nth l k).ls.length
    ·
     have hgj:(nth l k).ls[j]? = some (nth (nth l k).ls j):=zk _ _ hlj
     have wj:=zD (k:=j) (by omega)
     have hmem:nth (nth l k).ls j ∈ (nth l k).ls:=by rw [zy _ _ hlj]; exact List.getElem_mem hlj
     obtain ⟨f1,f2⟩:=h.link_lt hlt hmem
     simp only [go_sem,hlj,hgj,cId]
     have b1:=zga h hlt j (by omega)
     have b2:=zbF h (k:=(zz l (nth (nth l k).ls j)).toNat) (by omega)
     rw [← zjo (k:=k) (by omega) f1 f2] at b2
     rw [zB rfl rfl (by simp) (by simp; omega)]
     simp only [go_sem]
     refine za (.heapE [0,1] (r' := .list ((ZD (Ze l k) l (nth (nth l k).ls j)).map cId)) (H' := [.box [.list (l.map cE),.arr 1 k],.arr k false false 30 1 (zcy (Ze l k)),.box (cE (nth l k)),.arr (2 * j + 1) true false 29 2 ((zcP (Ze l k) l ((nth l k).ls.take j)).map cId ++ [cId (nth (nth l k).ls j)]),.box (cId (nth (nth l k).ls j))]) (zn8 l (Ze l k) (nth (nth l k).ls j) k 30 (by omega) f1 (by simp; omega))
      (by simp) (by simp) (by simp [go_sem,pos,cId]) (by simp [zc,zd,go_sem,pos]) rfl (by simp [Zk,zH,zK,zd,pos,go_sem,List.range_succ,ZA,Zb,cE,cId])) ?_
     simp only [go_sem]
     rw [zB rfl rfl (by simp [cId]) (by simp; omega)]
     simp only [go_sem,wj]
     refine ⟨rfl,?_⟩
     refine ⟨by simp,n2 - 1,by omega,j + 1,by omega,?_⟩
     simp [zi,go_sem,zc,zd,pos,List.range_succ,cE,zhm hlj,show 2 * (j + 1)=2 * j + 1 + 1 by omega]
    ·
     have htl:(nth l k).ls.take j=(nth l k).ls:=List.take_of_length_le (by omega)
     have b1:=zga h hlt j (by omega)
     rw [htl] at b1
     simp only [go_sem,hlj,htl]
     have hso:=zcD (zcP (Ze l k) l (nth l k).ls) (2 * j) 29 (by omega)
     refine za (.heapE [3] (r' := .tup []) (H' := [.box [.list (l.map cE),.arr 1 k],.arr k false false 30 1 (zcy (Ze l k)),.box (cE (nth l k)),.arr (2 * j) true false 29 2 ((Zv (zcP (Ze l k) l (nth l k).ls)).map cId)]) hso
      (by simp) (by simp) (by simp [go_sem,pos]) (by simp [zc,zd,go_sem,pos]) rfl (by simp [Zk,zH,zK,zd,pos,go_sem,List.range_succ,ZA,Zb,cE])) ?_
     simp only [go_sem]
     have hco:=zfs (Zv (zcP (Ze l k) l (nth l k).ls)) (2 * j) 29 (by rw [zjk]; omega)
     refine zcv 3 hco rfl rfl rfl rfl (by simp [go_sem]) (by simp [go_sem,pos]) rfl ?_
     simp only [go_sem]
     rw [zB rfl rfl (by simp) (by simp [zcy]; omega)]
     simp only [go_sem,wk]
     refine ⟨rfl,rfl,rfl,?_⟩
     refine ⟨by simp,n - 1,by omega,k + 1,by omega,?_⟩
     simp [zi,go_sem,zc,zd,pos,List.range_succ,cE,zcy,Ze,ztD]
  ·
   have hke:k=l.length:=by omega
   subst hke
   simp only [go_sem,Nat.lt_irrefl]
   refine zt (z6 (cells' := [.list (l.map cE),.list (zcy (Ze l l.length))]) 2 0 rfl rfl (by simp [frz]) rfl rfl) ?_
   refine zb hx ?_
   simp [go_sem,zy0,zy1,zF,Z0]
section
variable {P:Program} {x:Cx} {nt:Nat}
theorem zgb {b : LC} {Q : AE → St → Prop} {st : St} (live : List Nat) (m : Nat) (I : Nat → St → Prop) (n : Nat) (h1 : x.H0.length ≤ m) (h2 : m ≤ st.heap.length) (h0 : I n (st.trim live m))
    (hstep:∀ n st,I n st→W P x nt b (@zeU ⟨zi3 live m I n⟩ Q) st):W P x nt (.loop b) Q st:=by
  have hi:W P x nt (.loop b) Q (st.trim live m):=by
    refine zlc (fun n st=>I n st∨(m≤st.heap.length∧I n (st.trim live m))) n (.inl h0) ?_
    intro n st hI
    have key:∀ st,I n st→W P x nt b (zef (fun st'=>∃ n',n' < n∧(I n' st'∨(m≤st'.heap.length∧I n' (st'.trim live m)))) Q) st:=fun st hI =>
      (hstep n st hI).mono fun e st' hq=>by
        cases e with
        | normal=>obtain ⟨g1,n',g2,g3⟩:=hq; exact ⟨n',g2,.inr ⟨g1,g3⟩⟩
        | exit id=>exact hq
        | ret=>exact hq
    rcases hI with hI | ⟨hm,hI⟩
    · exact key st hI
    · exact zb9 (fun a w hrel=>zeh live h1 hm hrel) (key _ hI)
  exact zb9 (fun a w hrel=>zeh live h1 h2 hrel) hi
end
theorem zaJ (l:List Entry) (hl:l.length * 64≤140737488355328) (hf:∀ e ∈ l,e.ls.length * 16≤140737488355328):zg Tryz.prog 8 [.list (l.map cE)] [] (.list (l.map cE)) []:=by
 refine zg.of_walk Tryz.func8 Tryz.ntmps8 zAw zAx (by simp) fun x hx=>?_
 simp only [go_sem,L8,R8]
 refine zaa (ZQ 3 0 32 5 true false rfl (by omega)) ?_
 rw [Zt]
 refine zgb [0,3,4] 1 (fun m st=>∃ k:Nat,k + m=l.length ∧
  st=⟨mkE .top [(0,.list (l.map cE)),(3,.arr 0 k),(4,.int .i64 k)],[.arr k true false 32 5 ((l.take k).map cE)]⟩) l.length (by simp [hx]) (by simp) ?_ ?_
 ·
  refine ⟨0,by omega,?_⟩
  simp [zi,go_sem,zc,zd,pos,List.range_succ]
 ·
  rintro m st ⟨k,hk,rfl⟩
  refine zl3 (zaC ?_)
  by_cases hlt:k < l.length
  ·
   have hg:l[k]? = some (nth l k):=zk _ _ hlt
   have wk:=zD (k:=k) (by omega)
   simp only [go_sem,hlt,zef]
   refine zl3 (zks (zl3 (zaC ?_)))
   simp only [go_sem,hlt,hg,cE,zef]
   refine zl3 (zaC ?_)
   simp only [go_sem,zef]
   rw [zB rfl rfl (by simp [cId]) (by simp only [List.length_nil,List.length_map,Nat.zero_add]; exact hf _ (List.mem_of_getElem? hg))]
   simp only [go_sem,zef]
   refine zaa (zx 2 rfl) (zaC ?_)
   simp only [go_sem,zef]
   rw [zqo rfl rfl (by simp) (by simp [frz,PV.isPure,cId]) (by simp; omega)]
   simp only [go_sem,zef]
   refine zaC ?_
   simp only [go_sem,wk]
   have htk:l.take (k + 1)=l.take k ++ [nth l k]:=by rw [List.take_add_one,hg]; rfl
   refine ⟨by simp,m - 1,by omega,k + 1,by omega,?_⟩
   simp [zi,go_sem,zc,zd,pos,List.range_succ,htk,cE,frz]
  ·
   obtain rfl:k=l.length:=by omega
   rw [List.take_length]
   simp only [go_sem,hlt,zef]
   refine zt (zx 0 rfl) ?_
   refine zb hx ?_
   simp [go_sem,L8,R8,pos,zu]
end Go.Proofs.YtkcahmbcpkjpiaaGreatDoor
namespace Go.Proofs.YtkcahmbcpkjpiaaGreatDoor
open Go.RowKit Go.Lib Go.Sort
open Go.Shelf
def zzO (k n i:Nat) (cs F:Array Value):Prop:=F.size=cs.size∧∀ t,t < (n - 1) * k→F[t]! = if t < i * k then cs[t]! else cs[t + k]!
def zrO (k n i:Nat) (w:World) (blk:Nat) (cs:Array Value) (w':World):Prop:=∃ (q:Nat) (F:Array Value),zzO k n i cs F∧w'=putRow id (Sort.ahead w q) blk 0 F
theorem zsP {k n i : Nat} {cs : Array Value} (hz : n * k ≤ cs.size) (hi : i < n) (news zs : List Value) (hn : news.length = (n - (i + 1)) * k) (hnew : ∀ t, t < news.length → news[t]! = cs[(i + 1) * k + t]!) :
    zzO k n i cs (setMany (setMany cs (i * k) news) ((n - 1) * k) zs):=by
  refine ⟨by simp,fun t ht=>?_⟩
  obtain ⟨m,rfl⟩:∃ m,n=i + 1 + m:=⟨n - (i + 1),by omega⟩
  have e1:i + 1 + m - (i + 1)=m:=by omega
  have e2:i + 1 + m - 1=i + m:=by omega
  rw [e1] at hn
  rw [e2] at ht ⊢
  have e3:(i + 1 + m) * k=i * k + k + m * k:=by rw [Nat.add_mul,Nat.add_mul,Nat.one_mul]
  have e4:(i + m) * k=i * k + m * k:=Nat.add_mul _ _ _
  have e5:(i + 1) * k=i * k + k:=by rw [Nat.add_mul,Nat.one_mul]
  rw [e3] at hz
  rw [e4] at ht ⊢
  rw [e5] at hnew
  rw [get_setMany _ _ _ t (by simp; omega),if_neg (by omega),get_setMany _ _ _ t (by omega)]
  by_cases h:t < i * k
  · rw [if_neg (by omega),if_pos h]
  · rw [if_pos (by omega),if_neg h,hnew _ (by omega),show i * k + k + (t - i * k)=t + k by omega]
theorem zhn {vs:Array Value} (h:vs.toList.length=3):∃ a b c,vs=#[a,b,c]∧vs.toList[0]? = some a∧vs.toList[1]? = some b∧vs.toList[2]? = some c:=by
 obtain ⟨l⟩:=vs
 match l,h with
 | [a,b,c],_=>exact ⟨a,b,c,rfl,rfl,rfl,rfl⟩
theorem zsQ {S : Nat → Nat → Prop} {w : World} {rows : List (List PV)} {cur cur' F : Array Value} {sz n i : Nat} (hn : rows.length = n) (hi : i < n) (hz : ∀ row ∈ rows, row.length = sz) (hcs : n * sz ≤ cur.size) (hF : zzO sz n i cur F)
    (hc':∀ t y,t < F.size→cur'[t]? = some y→y=F[t]!)
    (hrow:∀ (k:Nat) row (j:Nat) p,rows[k]? = some row→row[j]? = some p→∃ y,cur[k * sz + j]? = some y∧y.oneCell'=true∧RepP S w p y) :
    ∀ (k:Nat) row (j:Nat) p u,(rows.eraseIdx i)[k]? = some row→row[j]? = some p→cur'[k * sz + j]? = some u→u.oneCell'=true∧RepP S w p u:=by
  intro k row j p u a b c
  have hk:k < n - 1:=by
    have:=(List.getElem?_eq_some_iff.1 a).1
    rw [List.length_eraseIdx,if_pos (by omega)] at this; omega
  have hj:j < sz:=by rw [← hz row (List.mem_of_mem_eraseIdx (List.mem_of_getElem? a))]; exact (List.getElem?_eq_some_iff.1 b).1
  have hle:(k + 1) * sz≤(n - 1) * sz:=Nat.mul_le_mul_right _ (by omega)
  have hle2:(n - 1) * sz≤n * sz:=Nat.mul_le_mul_right _ (by omega)
  rw [Nat.add_mul,Nat.one_mul] at hle
  have hu:=hc' _ _ (by rw [hF.1]; omega) c
  rw [hF.2 _ (by omega)] at hu
  rw [List.getElem?_eraseIdx] at a
  by_cases hki:k < i
  · rw [if_pos hki] at a
    have:(k + 1) * sz≤i * sz:=Nat.mul_le_mul_right _ (by omega)
    rw [Nat.add_mul,Nat.one_mul] at this
    rw [if_pos (by omega)] at hu
    obtain ⟨y,y1,y2,y3⟩:=hrow k row j p a b
    obtain ⟨y4,y5⟩:=Array.getElem?_eq_some_iff.1 y1
    rw [getElem!_pos cur _ y4,y5] at hu
    subst hu
    exact ⟨y2,y3⟩
  · rw [if_neg hki] at a
    have:i * sz≤k * sz:=Nat.mul_le_mul_right _ (by omega)
    rw [if_neg (by omega)] at hu
    obtain ⟨y,y1,y2,y3⟩:=hrow (k + 1) row j p a b
    rw [show (k + 1) * sz + j=k * sz + j + sz by rw [Nat.add_mul,Nat.one_mul]; omega] at y1
    obtain ⟨y4,y5⟩:=Array.getElem?_eq_some_iff.1 y1
    rw [getElem!_pos cur _ y4,y5] at hu
    subst hu
    exact ⟨y2,y3⟩
theorem zjp {w:World} {g T:Nat} {cur:Array Value} (hc:w.heap[g]? = some (.cells cur T (0,0))):Holds id w g 0 cur:=by
 intro t ht
 refine ⟨?_,?_⟩
 ·
  simp [World.cell?,hc,getElem!_pos cur t ht,ht]
 ·
  simp [World.frozen?,hc]
set_option maxRecDepth 1000000 in
theorem zmo (blk off cap n i j : Nat) (cs : Array Value) (w : World) (h0 : off = 0) (hj : j = i + 1) (hH : Holds id w blk off cs) (hz : cs.size = cap * 5) (h1 : ∀ t, t < n * 5 → (cs[t]!).oneCell' = true) (hn : n ≤ cap) (hm : cap ≤ 9223372036854775807) (hi : i < n) :
    Calls Tryz.prog 218 #[.slice (some ⟨blk,off,none⟩) n cap,.int .i64 i,.int .i64 j] w fun e w'=>e = .returned (.slice (some ⟨blk,off,none⟩) (n - 1) cap)∧zrO 5 n i w blk cs w':=by
  have mixed:Tryz.prog.follows Departure.mixedOrders=true:=rfl
  have hcz:n * 5≤cs.size:=by rw [hz]; exact Nat.mul_le_mul_right _ hn
  obtain ⟨news,hnews⟩:∃ news:List Value,news=(List.range ((n - j) * 5)).map fun t=>cs[j * 5 + t]! := ⟨_,rfl⟩
  have hlen:news.length=(n - j) * 5:=by rw [hnews]; simp
  have hget:∀ t u,news[t]? = some u→t < (n - j) * 5∧u=cs[j * 5 + t]! := by
    intro t u hu
    have ht:t < news.length:=(List.getElem?_eq_some_iff.1 hu).1
    rw [hlen] at ht
    rw [hnews,List.getElem?_map,List.getElem?_range ht] at hu
    exact ⟨ht,(Option.some.inj hu).symm⟩
  obtain ⟨A,hA,hsrc⟩:∃ A:Addr,(if cap=j then some (⟨blk,off,none⟩:Addr) else some ⟨blk,off + j * 5,none⟩)=some A∧Hid (∀ t u,news[t]? = some u→w.drew.cell? (A.add t)=some u):=by
    by_cases h:cap=j
    · refine ⟨⟨blk,off,none⟩,by simp [h],fun t u hu=>?_⟩
      have:=(hget t u hu).1
      have e:n - j=0:=by omega
      rw [e] at this; omega
    · refine ⟨⟨blk,off + j * 5,none⟩,by simp [h],fun t u hu=>?_⟩
      obtain ⟨ht,rfl⟩:=hget t u hu
      rw [Addr.add_lit,Nat.add_assoc]
      exact (hH _ (by omega)).1
  have s1:Hid (news.length=(n - j) * 5):=hlen
  have s2:Hid (∀ u ∈ news,u.oneCell'=true):=by
    intro u hu
    obtain ⟨t,ht,rfl⟩:=List.getElem_of_mem hu
    obtain ⟨h2,h3⟩:=hget t _ (List.getElem?_eq_getElem ht)
    rw [h3]
    exact h1 _ (by omega)
  have s3:Hid (∀ t,t < news.length→(w.drew.cell? ⟨blk,off + i * 5 + t,none⟩).isSome=true∧w.drew.frozen? ⟨blk,off + i * 5 + t,none⟩=false):=by
    intro t ht
    rw [hlen] at ht
    rw [Nat.add_assoc]
    exact ⟨by show (w.cell? _).isSome=true; rw [(hH (i * 5 + t) (by omega)).1]; rfl,(hH (i * 5 + t) (by omega)).2⟩
  obtain ⟨W1,hW1⟩:∃ W1,W1=w.drew.setCells blk (off + i * 5) news:=⟨_,rfl⟩
  have hput:W1=putRow id (Sort.ahead w 1) blk off (setMany cs (i * 5) news):=by
    rw [hW1,← setCells_putRow _ _ _ _ _ _ (by omega),putRow_self id (Sort.ahead w 1) blk off cs (holds_ahead id w 1 blk off cs hH)]
    rfl
  have hH1:Holds id W1 blk off (setMany cs (i * 5) news):=by rw [hput]; exact holds_putRow id _ blk off cs _ (holds_ahead id w 1 blk off cs hH) (by simp)
  obtain ⟨zs,hzl,hcl⟩:∃ zs:List Value,zs.length=(n - (i + (n - j))) * 5∧∀ ty,(Builtin.clear_ #[34] ty #[.slice (some ⟨blk,off + (i + (n - j)) * 5,none⟩) (n - (i + (n - j))) (cap - (i + (n - j)))]).run Tryz.prog W1 = .ok (.tuple #[]) (W1.setCells blk (off + (i + (n - j)) * 5) zs):=by
    obtain ⟨zs,e1,e2⟩:=zbQ (P:=Tryz.prog) W1 34 32 0 (.agg #[.int .i64 0,.int .i64 0,.int .i64 0,.string ⟨#[]⟩,.slice none 0 0]) rfl (fun _=>by kernel_rfl) (by intro v hv; simp [Value.cells] at hv; first | (rcases hv with rfl | rfl | rfl <;> rfl) | (rcases hv with rfl | rfl | rfl | rfl | rfl <;> rfl)) blk (off + (i + (n - j)) * 5) (n - (i + (n - j))) (cap - (i + (n - j))) (by omega)
      (fun s hs=>by
        have hs':s < (n - (i + (n - j))) * 5:=hs
        have:=(hH1 ((i + (n - j)) * 5 + s) (by rw [size_setMany]; omega)).1
        rw [← Nat.add_assoc] at this
        rw [this]; rfl) (fun s hs=>by
        have hs':s < (n - (i + (n - j))) * 5:=hs
        have:=(hH1 ((i + (n - j)) * 5 + s) (by rw [size_setMany]; omega)).2
        rwa [← Nat.add_assoc] at this)
    exact ⟨zs,e1,fun ty=>e2⟩
  have fin:Aside (zrO 5 n i w blk cs (W1.setCells blk (off + (i + (n - j)) * 5) zs)):=by
    subst h0 hj
    refine ⟨1,_,zsP hcz hi news zs hlen (fun t ht=>?_),?_⟩
    · rw [getElem!_pos news t ht]
      exact (hget t _ (List.getElem?_eq_getElem ht)).2
    · rw [hput,setCells_putRow _ _ _ _ _ _ (by rw [size_setMany,hzl]; omega),show i + (n - (i + 1))=n - 1 by omega]
  have hW:Hid (W1=w.drew.setCells blk (off + i * 5) news):=hW1
  have hic:i≤cap:=by omega
  have hjc:j≤cap:=by omega
  obtain ⟨i0,hi0,hz0,hz1,hz2⟩:=info_parts (P:=Tryz.prog) (e:=32) (z := .agg #[.int .i64 0,.int .i64 0,.int .i64 0,.string ⟨#[]⟩,.slice none 0 0]) (size:=5) (bytes:=64) (by kernel_rfl)
  clear hput hW1 hH1 hH hget hnews hlen h1 hz hcz h0
  have hij:¬ i=j:=by omega
  have hijle:i≤j:=by omega
  have hjn:j≤n:=by omega
  have hA':Hid (j=i + 1):=hj
  clear hj
  go_enter Tryz.func218,Tryz.ntmps218
  go_wp2_with fail
  go_region_law_o (refine step_append_room rfl (.tmp 22) (.tmp 25) 34 rfl 32 i0 5 rfl hi0 hz1 blk off i cap (by simp [Act.eval,Act.put]) A (n - j) (cap - j) news (by simp [Act.eval,Act.put]) s1.out hsrc.out s2.out (by omega) s3.out ?_; rw [← hW.out])
  go_wp2
  go_ret
  have hj:=hA'.out
  exact ⟨by rw [show n - 1=i + (n - j) by omega]; rfl,fin.out⟩
theorem zeY (rows : List (List PV)) (v T i : Nat) (hi : i < rows.length) :
    zg Tryz.prog 218 [.arr 0 v,.int .i64 i,.int .i64 ((i + 1:Nat):Int)] [.arr v true false T 5 rows] (.arr 0 (v + 1)) [.arr (v + 1) true false T 5 (rows.eraseIdx i)]:=by
  intro x vs hx h0 hp
  obtain ⟨a,b,c,rfl,p1,p2,p3⟩:=zhn hp.1
  have ha:=hp.2 0 _ _ rfl p1
  obtain rfl:=(hp.2 1 _ _ rfl p2).int_inv
  obtain rfl:=(hp.2 2 _ _ rfl p3).int_inv
  obtain ⟨e1,e2,e3⟩:=h0.row (id:=0) rfl ha
  rcases e3 with ⟨rfl,hnil⟩ | ⟨g,cap,cur,rfl,hc,hcap,hm,hz,hrow⟩
  · subst hnil; simp at hi
  · have hH:=zjp hc
    have hcs:rows.length * 5≤cur.size:=by rw [hz]; exact Nat.mul_le_mul_right _ hcap
    have key:=zmo g 0 cap rows.length i (i + 1) cur x.w0 rfl rfl hH hz (fun t ht=>by
      have hk:t / 5 < rows.length:=Nat.div_lt_of_lt_mul (by omega)
      have hj:t % 5 < (rows[t / 5]'hk).length:=by rw [e2 _ (List.getElem_mem hk)]; exact Nat.mod_lt _ (by omega)
      obtain ⟨y,y1,y2,-⟩:=hrow (t / 5) _ (t % 5) _ (List.getElem?_eq_getElem hk) (List.getElem?_eq_getElem hj)
      rw [show t / 5 * 5 + t % 5=t by omega] at y1
      obtain ⟨y4,y5⟩:=Array.getElem?_eq_some_iff.1 y1
      rw [getElem!_pos cur _ y4,y5]; exact y2) hcap (by simp [maxLen] at hm; omega) hi
    refine key.mono ?_
    rintro e w' ⟨rfl,q,F,hF,rfl⟩
    obtain ⟨cur',c1,c2,c3,c4⟩:=zdt x.w0 g q F hc
    have hown:(x.C0.sv 0).ownBlock=some g:=by rw [← e1]; rfl
    have hlen:(rows.eraseIdx i).length=rows.length - 1:=by rw [List.length_eraseIdx,if_pos hi]
    obtain ⟨C',k1,k2,k3⟩:=h0.rerow (id:=0) (v':=v + 1) (g':=g) (cap':=cap) (rows':=rows.eraseIdx i) (cur':=cur') rfl (by
      refine ⟨c4.size,c4.os,c4.tape,c4.output,fun b hb hne=>c4.blk b hb fun e=>hne (by rw [hown,e])⟩) (.inl hown) (.inr (by omega)) c1 (by rw [hlen]; omega) hm (by rw [c2,hz])
      (fun row hr=>e2 row (List.mem_of_mem_eraseIdx hr)) (zsQ rfl hi e2 hcs hF c3 hrow)
    rw [hlen] at k3
    exact ⟨_,C',rfl,k1,k3⟩
end Go.Proofs.YtkcahmbcpkjpiaaGreatDoor
namespace Go.Proofs.YtkcahmbcpkjpiaaGreatDoor
open Go.RowKit Go.Lib Go.Sort
open Go.Shelf
def zqJ (k n i:Nat) (cs:Array Value) (vs:List Value) (F:Array Value):Prop:=∀ t,t < (n + 1) * k→F[t]! = if t < i * k then cs[t]! else if t < i * k + k then vs[t - i * k]! else cs[t - k]!
theorem zft {P : Program} (w : World) (tS tR e : TypeId) (ht : P.underlying tS = some (.slice e)) (size : Nat) (hz : ∀ w, (Go.sizeOf e).run P w = .ok size w)
    (a b:Addr) (la ca lb cb:Nat) (hne:a.block≠b.block) (tA tB:TypeId) (kA kB:Nat)
    (hsa:w.shape? a.block=some (tA,kA)) (hsb:w.shape? b.block=some (tB,kB)) (hkB:kB≠0) (hkA:kA≠0)
    (hfa:w.frozen? b=false) (hfe:w.frozen? { block:=b.block,off:=kB }=false) :
    (Extern.SlicesOverlaps.overlaps #[tS,tS] #[tR] #[.slice (some a) la ca,.slice (some b) lb cb]).run P w = .ok (.bool false) w:=by
  have hnb:(a.block != b.block)=true:=by simpa using hne
  have hnb':(a.block == b.block)=false:=by simpa using hne
  change Sem.run P (α:=Value) (do
    let some t := (#[tS, tS] : Array TypeId)[0]? | stuck "slices.overlaps: no parameter types"
    let .slice elem ← underlying t | stuck "slices.overlaps: slice type expected"
    let size ← sizeOf elem
    match (some a:Option Addr),(some b:Option Addr) with
    | some a,some b =>
      if la=0∨lb=0∨size=0 then pure (Value.bool false)
      else if a.block != b.block && (← frozen a) && (← frozen b) then unsupported .addressObserved
      else do
        if a.block != b.block then do
          noView a; noView b
          if ← mayBeOne a b then return Value.bool ((← choose (.extern "sameAddr.stringBytes" 2)) == 1)
        pure (Value.bool (a.block == b.block && a.off < b.off + lb * size && b.off < a.off + la * size))
    | _,_=>pure (Value.bool false)) w=_
  by_cases h0:la=0∨lb=0∨size=0
  · simp [run_underlying ht,hz,h0]
  · cases kB with
    | zero=>exact absurd rfl hkB
    | succ kB =>
     cases kA with
     | zero=>exact absurd rfl hkA
     | succ kA =>
      cases h1:w.frozen? a <;> cases h2:w.frozen? { block:=a.block,off:=kA + 1 } <;>
        simp [run_underlying ht,hz,h0,hnb,hnb',frozen,noView,viewAt,mayBeOne,stringish,shape,Sem.run,hsa,hsb,hfa,hfe,h1,h2]
theorem zaK {P : Program} (w : World) (dT sT ty elem : TypeId) (k : Nat) (b o dLen dCap : Nat) (a : Addr) (sLen sCap m : Nat) (cs : List Value)
    (hu:P.underlying dT=some (.slice elem)) (hs:(P.info? elem).map (·.size)=some k) (hm:m=Nat.min sLen dLen) (hn:cs.length=m * k)
    (hsrc:∀ j v,cs[j]? = some v→w.cell? (a.add j)=some v) (hc:∀ j,j < cs.length→(w.cell? ⟨b,o + j,none⟩).isSome=true) (hf:∀ j,j < cs.length→w.frozen? ⟨b,o + j,none⟩=false) (h1:∀ v ∈ cs,v.oneCell'=true) :
    (Builtin.copy_ #[dT,sT] ty #[.slice (some ⟨b,o,none⟩) dLen dCap,.slice (some a) sLen sCap]).run P w = .ok (goInt m) (w.setCells b o cs):=by
  have hl:=run_loadCells_list (P:=P) w a cs hsrc
  have hst:=run_storeCells_cells (P:=P) b o cs 0 w (by simpa using hc) (by simpa using hf) h1
  cases hq:P.info? elem with
  | none=>simp [hq] at hs
  | some i =>
    have hi:i.size=k:=by simpa [hq] using hs
    rw [hn] at hl
    simp [Builtin.copy_,run_underlying hu,Builtin.lenOf,Builtin.firstCells,sizeOf,typeInfo,hq,hi,← hm,hl,hst]
def seg (cs:Array Value) (s m:Nat):List Value:=(List.range m).map fun t=>cs[s + t]!
theorem zaj (cs:Array Value) (s m:Nat):(seg cs s m).length=m:=by simp [seg]
theorem zd1 {cs:Array Value} {s m t:Nat} {u:Value} (h:(seg cs s m)[t]? = some u):t < m∧u=cs[s + t]! := by
 have ht:t < (seg cs s m).length:=(List.getElem?_eq_some_iff.1 h).1
 rw [zaj] at ht
 rw [seg,List.getElem?_map,List.getElem?_range ht] at h
 exact ⟨ht,(Option.some.inj h).symm⟩
theorem zhY {cs:Array Value} {s m t:Nat} (h:t < m):(seg cs s m)[t]! = cs[s + t]! := by
 rw [getElem!_pos _ t (by rw [zaj]; exact h)]
 simp [seg]
theorem zn9 {cs:Array Value} {s m e:Nat} (h1:∀ t,t < e→(cs[t]!).oneCell'=true) (he:s + m≤e):∀ v ∈ seg cs s m,v.oneCell'=true:=by
 intro v hv
 obtain ⟨t,ht,rfl⟩:=List.getElem_of_mem hv
 obtain ⟨h2,h3⟩:=zd1 (List.getElem?_eq_getElem ht)
 rw [h3]; exact h1 _ (by omega)
theorem zsR {k n i : Nat} {cs : Array Value} {vs : List Value} (hz : (n + 1) * k ≤ cs.size) (hi : i ≤ n) (hv : vs.length = k) :
    zqJ k n i cs vs (setMany (setMany cs ((i + 1) * k) (seg cs (i * k) ((n - i) * k))) (i * k) vs):=by
  intro t ht
  obtain ⟨m,rfl⟩:∃ m,n=i + m:=⟨n - i,by omega⟩
  have e1:(i + m + 1) * k=i * k + m * k + k:=by rw [Nat.add_mul,Nat.add_mul,Nat.one_mul]
  have e2:(i + 1) * k=i * k + k:=by rw [Nat.add_mul,Nat.one_mul]
  have e3:i + m - i=m:=by omega
  rw [e1] at hz ht
  rw [e2,e3,get_setMany _ _ _ t (by simp; omega),hv]
  by_cases h1:t < i * k
  · rw [if_neg (by omega),if_pos h1,get_setMany _ _ _ t (by omega),if_neg (by omega)]
  · by_cases h2:t < i * k + k
    · rw [if_pos (by omega),if_neg h1,if_pos h2]
    · rw [if_neg (by omega),if_neg h1,if_neg h2,get_setMany _ _ _ t (by omega),zaj,if_pos (by omega),zhY (by omega),show i * k + (t - (i * k + k))=t - k by omega]
theorem zdH {P : Program} (w : World) {ops : Array Oper} {rest : List Oper} {o : Oper} {a : Act} {Q : Exit → Act → World → Prop}
    (hg:o.guard=none) (s x:Operand) (t:TypeId) (hop:o.op=Op.call { callee:=Callee.builtin Builtin.append,args:=#[s,x],argTypes:=#[t,t] })
    (e:TypeId) (i:TypeInfo) (size:Nat) (h1:P.underlying t=some (.slice e)) (h2:P.info? e=some i) (h4:i.size=size)
    (b off n cap:Nat) (hs:a.eval s = .slice (some ⟨b,off,none⟩) n cap) (ad:Addr) (m c:Nat) (news:List Value) (hx:a.eval x = .slice (some ad) m c) (hn:news.length=m * size)
    (hc:∀ j u,news[j]? = some u→w.cell? (ad.add j)=some u) (h1c:∀ u ∈ news,u.oneCell'=true) (hroom:n + m≤cap)
    (hspare:∀ j,j < news.length→(w.cell? ⟨b,off + n * size + j,none⟩).isSome=true∧w.frozen? ⟨b,off + n * size + j,none⟩=false)
    (hK:wpList P ops Q rest (a.put o.dst (.slice (some ⟨b,off,none⟩) (n + m) cap)) (w.setCells b (off + n * size) news)) :
    wpList P ops Q (o :: rest) a w:=by
  refine wpList_plain hg fun K hK'=>?_
  subst h4
  have hrun:=run_append_room_cells (P:=P) w t o.type e i h1 h2 b off n cap ad m c news hn hc h1c hroom (fun j hj=>(hspare j hj).1) (fun j hj=>(hspare j hj).2)
  unfold Oper.wp
  simp [execOp,hop,resolve,invoke,builtin,hs,hx,hrun,Result.andThen]
  exact hK' _ _ hK
set_option maxRecDepth 1000000 in
theorem zmp (blk off cap n i m vb voff vc tA kA : Nat) (cs : Array Value) (vs : List Value) (w : World) (h0 : off = 0) (hm1 : m = 1) (hH : Holds id w blk off cs) (hz : cs.size = cap * 5) (h1 : ∀ t, t < n * 5 → (cs[t]!).oneCell' = true)
    (hvl:vs.length=5) (hvs:∀ j v,vs[j]? = some v→w.cell? ⟨vb,voff + j,none⟩=some v) (h1v:∀ v ∈ vs,v.oneCell'=true) (hvb:vb≠blk) (hsa:w.shape? vb=some (tA,kA)) (hkA:kA≠0) (tB:TypeId) (hsb:w.shape? blk=some (tB,cap * 5)) (hfb:∀ o,w.frozen? ⟨blk,o,none⟩=false)
    (hm:cap≤9223372036854775807) (hi:i < n) (hroom:n + m≤cap) :
    Calls Tryz.prog 146 #[.slice (some ⟨blk,off,none⟩) n cap,.int .i64 i,.slice (some ⟨vb,voff,none⟩) m vc] w fun e w'=>e = .returned (.slice (some ⟨blk,off,none⟩) (n + m) cap)∧∃ (q:Nat) (F:Array Value),F.size=cs.size∧zqJ 5 n i cs vs F∧w'=putRow id (Sort.ahead w q) blk 0 F:=by
  have mixed:Tryz.prog.follows Departure.mixedOrders=true:=rfl
  have hz1:¬ ((m:Int)=0):=by omega
  have hz2:¬ ((i:Int)=(n:Int)):=by omega
  have hsz:(Tryz.prog.info? 32).map (·.size)=some 5:=by kernel_rfl
  have hov:∀ lb cb,(callFunc 215 #[.slice (some ⟨vb,voff,none⟩) m vc,.slice (some ⟨blk,off + (i + m) * 5,none⟩) lb cb]).run Tryz.prog w = .ok (.value (.bool false)) w:=fun lb cb=>by
    rw [run_callFunc_extern Tryz.func215 (by kernel_rfl) (by kernel_rfl) (by kernel_rfl) (e:=Extern.SlicesOverlaps.overlaps #[34,34] #[4]) (by kernel_rfl),
      zft w 34 4 32 rfl 5 (fun _=>by kernel_rfl) ⟨vb,voff,none⟩ ⟨blk,off + (i + m) * 5,none⟩ m vc lb cb hvb tA tB kA (cap * 5) hsa hsb (by omega) hkA (hfb _) (hfb _)]
    rfl
  have hw1:IntKind.i64.wrap ((i:Int) + (m:Int))=(i:Int) + (m:Int):=by rw [IntKind.wrap_i64]; omega
  have hb1:(0:Int)≤(i:Int) + (m:Int):=by omega
  have hin:i≤n:=by omega
  have htn:((i:Int) + (m:Int)).toNat=i + m:=by omega
  have hb2:¬ (cap=i + m):=by omega
  have hb3:(i:Int)≤(n:Int) + (m:Int):=by omega
  have hb4:¬ (cap=i):=by omega
  have hcz:n * 5≤cs.size:=by rw [hz]; exact Nat.mul_le_mul_right _ (by omega)
  have hcz1:(n + m) * 5≤cs.size:=by rw [hz]; exact Nat.mul_le_mul_right _ hroom
  obtain ⟨news,hnews⟩:∃ news,news=seg cs (i * 5) ((n - i) * 5):=⟨_,rfl⟩
  have hnl:news.length=(n - i) * 5:=by rw [hnews,zaj]
  have hcp1:∀ ty dc sc,(Builtin.copy_ #[34,34] ty #[.slice (some ⟨blk,off + (i + m) * 5,none⟩) (n + m - (i + m)) dc,.slice (some ⟨blk,off + i * 5,none⟩) (n + m - i) sc]).run Tryz.prog w.drew = .ok (goInt ((n - i:Nat):Int)) (w.drew.setCells blk (off + (i + m) * 5) news):=fun ty dc sc =>
    zaK w.drew _ _ ty 32 5 blk (off + (i + m) * 5) (n + m - (i + m)) dc ⟨blk,off + i * 5,none⟩ (n + m - i) sc (n - i) news rfl hsz (by simp only [Nat.min_def]; split <;> omega) hnl
      (fun j v hj=>by
        rw [hnews] at hj
        obtain ⟨ht,rfl⟩:=zd1 hj
        rw [Addr.add_lit,Nat.add_assoc]; exact (hH _ (by omega)).1)
      (fun j hj=>by rw [hnl] at hj; rw [Nat.add_assoc]; show (w.cell? _).isSome=true; rw [(hH _ (by omega)).1]; rfl) (fun j hj=>by exact hfb _)
      (by rw [hnews]; exact zn9 h1 (by omega))
  obtain ⟨W1,hW1⟩:∃ W1,W1=w.drew.setCells blk (off + (i + m) * 5) news:=⟨_,rfl⟩
  have hput:W1=putRow id (Sort.ahead w 1) blk off (setMany cs ((i + m) * 5) news):=by
    rw [hW1,← setCells_putRow _ _ _ _ _ _ (by omega),putRow_self id (Sort.ahead w 1) blk off cs (holds_ahead id w 1 blk off cs hH)]
    rfl
  have hH1:Holds id W1 blk off (setMany cs ((i + m) * 5) news):=by rw [hput]; exact holds_putRow id _ blk off cs _ (holds_ahead id w 1 blk off cs hH) (by simp)
  have hcp2:∀ (W:World),W=W1→∀ ty dc,(Builtin.copy_ #[34,34] ty #[.slice (some ⟨blk,off + i * 5,none⟩) (n + m - i) dc,.slice (some ⟨vb,voff,none⟩) m vc]).run Tryz.prog W = .ok (goInt m) (W.setCells blk (off + i * 5) vs):=fun W hWc ty dc=>by
    subst hWc
    refine zaK W _ _ ty 32 5 blk (off + i * 5) (n + m - i) dc ⟨vb,voff,none⟩ m vc m vs rfl hsz (by simp only [Nat.min_def]; split <;> omega) (by omega)
      (fun j v hj=>by
        rw [Addr.add_lit,hW1,World.cell?_setCells_out blk _ _ _ _ (fun h _=>absurd h hvb)]
        exact hvs j v hj)
      (fun j hj=>by rw [Nat.add_assoc,(hH1 _ (by rw [size_setMany]; omega)).1]; rfl) (fun j hj=>by rw [Nat.add_assoc]; exact (hH1 _ (by rw [size_setMany]; omega)).2) h1v
  have fin:Aside (∃ (q:Nat) (F:Array Value),F.size=cs.size∧zqJ 5 n i cs vs F∧W1.setCells blk (off + i * 5) vs=putRow id (Sort.ahead w q) blk 0 F):=by
    subst h0 hm1
    refine ⟨1,_,?_,zsR hcz1 (by omega) hvl,?_⟩
    · simp
    · rw [hput,setCells_putRow _ _ _ _ _ _ (by rw [size_setMany]; omega),hnews]
  rw [← hW1] at hcp1
  clear hkA hput hH hH1 hnews hnl hz hcz hcz1 h1 hvs h1v hsa hsb hfb hvl h0 hm1 hvb
  go_enter Tryz.func146,Tryz.ntmps146
  go_wp2_with (simp only [hov])
  go_region_law_o (refine step_copy_runI rfl _ _ 34 34 rfl _ _ (by simp [Act.eval,Act.put]) (by simp [Act.eval,Act.put]) (hcp1 _ _ _) ?_)
  go_wp2_with (at_builtin; refine wpList_copy_runI _ rfl _ _ 34 34 rfl _ _ rfl rfl (hcp2 _ rfl _ _) ?_)
  go_ret
  exact ⟨rfl,by rw [← hW1]; exact fin.out⟩
set_option maxRecDepth 1000000 in
theorem zhZ (blk off cap n m vb voff vc : Nat) (cs : Array Value) (vs : List Value) (w : World) (h0 : off = 0) (hm1 : m = 1) (hH : Holds id w blk off cs) (hz : cs.size = cap * 5)
    (hvl:vs.length=5) (hvs:∀ j v,vs[j]? = some v→w.cell? ⟨vb,voff + j,none⟩=some v) (h1v:∀ v ∈ vs,v.oneCell'=true)
    (hm:cap≤9223372036854775807) (hroom:n + m≤cap) :
    Calls Tryz.prog 146 #[.slice (some ⟨blk,off,none⟩) n cap,.int .i64 n,.slice (some ⟨vb,voff,none⟩) m vc] w fun e w'=>e = .returned (.slice (some ⟨blk,off,none⟩) (n + m) cap)∧∃ (q:Nat) (F:Array Value),F.size=cs.size∧zqJ 5 n n cs vs F∧w'=putRow id (Sort.ahead w q) blk 0 F:=by
  have mixed:Tryz.prog.follows Departure.mixedOrders=true:=rfl
  have hz1:¬ ((m:Int)=0):=by omega
  have hcz1:(n + m) * 5≤cs.size:=by rw [hz]; exact Nat.mul_le_mul_right _ hroom
  obtain ⟨i0,hi0,hz0,hzs,hzb⟩:=info_parts (P:=Tryz.prog) (e:=32) (z := .agg #[.int .i64 0,.int .i64 0,.int .i64 0,.string ⟨#[]⟩,.slice none 0 0]) (size:=5) (bytes:=64) (by kernel_rfl)
  have s1:Hid (∀ j u,vs[j]? = some u→w.cell? (Addr.add ⟨vb,voff,none⟩ j)=some u):=fun j u hj=>by rw [Addr.add_lit]; exact hvs j u hj
  have s2:Hid (∀ u ∈ vs,u.oneCell'=true):=h1v
  have s3:Hid (∀ j,j < vs.length→(w.cell? ⟨blk,off + n * 5 + j,none⟩).isSome=true∧w.frozen? ⟨blk,off + n * 5 + j,none⟩=false):=fun j hj=>by
    rw [Nat.add_assoc]; exact ⟨by rw [(hH _ (by omega)).1]; rfl,(hH _ (by omega)).2⟩
  have s5:Hid (vs.length=m * 5):=by show vs.length=m * 5; omega
  have s6:Hid (∀ j u,(seg cs 0 (n * 5))[j]? = some u→w.cell? ⟨blk,off + j,none⟩=some u):=fun j u hj=>by
    obtain ⟨ht,rfl⟩:=zd1 hj
    rw [Nat.zero_add]; exact (hH _ (by omega)).1
  have fin:Aside (∃ (q:Nat) (F:Array Value),F.size=cs.size∧zqJ 5 n n cs vs F∧w.setCells blk (off + n * 5) vs=putRow id (Sort.ahead w q) blk 0 F):=by
    subst h0 hm1
    refine ⟨0,setMany cs (n * 5) vs,by simp,fun t ht=>?_,?_⟩
    · rw [get_setMany _ _ _ t (by omega),hvl]
      by_cases h1:t < n * 5
      · rw [if_neg (by omega),if_pos h1]
      · rw [if_pos (by omega),if_neg h1,if_pos (by omega)]
    · rw [← setCells_putRow _ _ _ _ _ _ (by omega),putRow_self id (Sort.ahead w 0) blk 0 cs (holds_ahead id w 0 blk 0 cs hH)]
      rfl
  have hml:n + m≤maxLen:=by unfold maxLen; omega
  clear hH hz hcz1 hvs h1v hvl h0 hm1
  go_enter Tryz.func146,Tryz.ntmps146
  go_wp2_with (at_builtin; refine zdH _ rfl _ _ 34 rfl 32 i0 5 rfl hi0 hzs blk off n cap rfl ⟨vb,voff,none⟩ m vc vs rfl s5.out s1.out s2.out hroom s3.out ?_)
  go_ret
  exact ⟨rfl,fin.out⟩
set_option maxRecDepth 1000000 in
theorem zeu (ao : Option Addr) (cap n m vb voff vc : Nat) (olds vs : List Value) (w : World) (hm1 : m = 1) (hnone : ao = none → n = 0 ∧ cap = 0) (hlo : olds.length = n * 5) (holds : ∀ b, ao = some b → ∀ j u, olds[j]? = some u → w.cell? (b.add j) = some u)
    (hvl:vs.length=5) (hvs:∀ j v,vs[j]? = some v→w.cell? ⟨vb,voff + j,none⟩=some v) (h1v:∀ v ∈ vs,v.oneCell'=true)
    (hnc:n≤cap) (hfull:cap < n + m) (hbig:(n + m) * 64≤140737488355328) :
    Calls Tryz.prog 146 #[.slice ao n cap,.int .i64 n,.slice (some ⟨vb,voff,none⟩) m vc] w fun e w'=>∃ v',e = .returned v'∧w'.ownsRow w.heap.size 32 5 v' (n + m) (olds ++ vs)∧w.grownBy w' none:=by
  have mixed:Tryz.prog.follows Departure.mixedOrders=true:=rfl
  have hz1:¬ ((m:Int)=0):=by omega
  obtain ⟨i0,hi0,hz0,hzs,hzb⟩:=info_parts (P:=Tryz.prog) (e:=32) (z := .agg #[.int .i64 0,.int .i64 0,.int .i64 0,.string ⟨#[]⟩,.slice none 0 0]) (size:=5) (bytes:=64) (by kernel_rfl)
  have s1:Hid (∀ j u,vs[j]? = some u→w.cell? (Addr.add ⟨vb,voff,none⟩ j)=some u):=fun j u hj=>by rw [Addr.add_lit]; exact hvs j u hj
  have s2:Hid (∀ u ∈ vs,u.oneCell'=true):=h1v
  have s5:Hid (vs.length=m * 5):=by show vs.length=m * 5; omega
  have s6:Hid (∀ b,ao=some b→∀ j u,olds[j]? = some u→w.cell? (b.add j)=some u):=holds
  have s7:Hid (ao=none→n=0∧cap=0):=hnone
  have hml:n + m≤maxLen:=by unfold maxLen; omega
  clear hvs h1v hvl hm1 holds hnone
  go_enter Tryz.func146,Tryz.ntmps146
  go_wp2_with (at_builtin; refine wpList_append_grows _ rfl _ _ 34 rfl 32 i0 (.agg #[.int .i64 0,.int .i64 0,.int .i64 0,.string ⟨#[]⟩,.slice none 0 0]) 5 64 rfl hi0 hz0 hzs hzb rfl (by omega) ao n cap olds rfl s7.out hlo s6.out ⟨vb,voff,none⟩ m vc vs rfl s5.out s1.out s2.out hfull hml hbig (fun v' w' r1 r2=>?_))
  all_goals
    go_ret
    exact ⟨_,rfl,by assumption,by assumption⟩
end Go.Proofs.YtkcahmbcpkjpiaaGreatDoor
namespace Go.Proofs.YtkcahmbcpkjpiaaGreatDoor
open Go.RowKit Go.Lib Go.Sort
open Go.Shelf
theorem zoa {k n i : Nat} {cs ROW : Array Value} {vs : List Value} (hz : (n + 1) * k ≤ ROW.size) (hi : i ≤ n) (hv : vs.length = k) (hrow : ∀ t, t < i * k → ROW[t]! = cs[t]!) :
    zqJ k n i cs vs (setMany (setMany ROW (i * k) vs) ((i + 1) * k) (seg cs (i * k) ((n - i) * k))):=by
  intro t ht
  obtain ⟨m,rfl⟩:∃ m,n=i + m:=⟨n - i,by omega⟩
  have e1:(i + m + 1) * k=i * k + m * k + k:=by rw [Nat.add_mul,Nat.add_mul,Nat.one_mul]
  have e2:(i + 1) * k=i * k + k:=by rw [Nat.add_mul,Nat.one_mul]
  have e3:i + m - i=m:=by omega
  rw [e1] at hz ht
  rw [e2,e3,get_setMany _ _ _ t (by simp; omega),zaj]
  by_cases h1:t < i * k
  · rw [if_neg (by omega),if_pos h1,get_setMany _ _ _ t (by omega),if_neg (by omega),hrow t h1]
  · by_cases h2:t < i * k + k
    · rw [if_neg (by omega),if_neg h1,if_pos h2,get_setMany _ _ _ t (by omega),hv,if_pos (by omega)]
    · rw [if_pos (by omega),if_neg h1,if_neg h2,zhY (by omega),show i * k + (t - (i * k + k))=t - k by omega]
set_option maxRecDepth 1000000 in
theorem zob (blk off cap n i m vb voff vc : Nat) (cs : Array Value) (vs : List Value) (w : World) (h0 : off = 0) (hm1 : m = 1) (hH : Holds id w blk off cs) (hz : cs.size = cap * 5) (h1 : ∀ t, t < n * 5 → (cs[t]!).oneCell' = true)
    (hvl:vs.length=5) (hvs:∀ j v,vs[j]? = some v→w.cell? ⟨vb,voff + j,none⟩=some v) (h1v:∀ v ∈ vs,v.oneCell'=true)
    (hi:i < n) (hnc:n≤cap) (hroom:cap < n + m) (hbig:(n + m) * 64≤140737488355328) :
    Calls Tryz.prog 146 #[.slice (some ⟨blk,off,none⟩) n cap,.int .i64 i,.slice (some ⟨vb,voff,none⟩) m vc] w fun e w'=>∃ (q G:Nat) (ROW F:Array Value),e = .returned (.slice (some ⟨w.heap.size,0,none⟩) (n + m) G)∧n + m≤G∧G≤maxLen∧ROW.size=G * 5∧F.size=ROW.size∧zqJ 5 n i cs vs F∧w'=putRow id (Sort.ahead (w.alloc (.cells ROW 32)) q) w.heap.size 0 F:=by
  have mixed:Tryz.prog.follows Departure.mixedOrders=true:=rfl
  have hz1:¬ ((m:Int)=0):=by omega
  have hz2:¬ ((i:Int)=(n:Int)):=by omega
  have hz3:(cap:Int) < (n:Int) + (m:Int):=by omega
  have hsz:(Tryz.prog.info? 32).map (·.size)=some 5:=by kernel_rfl
  obtain ⟨i0,hi0,hz0,hzs,hzb⟩:=info_parts (P:=Tryz.prog) (e:=32) (z := .agg #[.int .i64 0,.int .i64 0,.int .i64 0,.string ⟨#[]⟩,.slice none 0 0]) (size:=5) (bytes:=64) (by kernel_rfl)
  have hcz:n * 5≤cs.size:=by rw [hz]; exact Nat.mul_le_mul_right _ hnc
  have hbw:blk < w.heap.size:=block_lt_of_cell (hH 0 (by omega)).1
  have hvw:vb < w.heap.size:=block_lt_of_cell (hvs 0 _ (List.getElem?_eq_getElem (by omega)))
  have hkk:(n:Int) + (m:Int) - (i:Int)=((n + m - i:Nat):Int):=by omega
  have hik:i + (n + m - i)=n + m:=by omega
  have hold:(Builtin.firstCells i0.size i (.slice (some ⟨blk,off,none⟩) i cap)).run Tryz.prog w.drew = .ok (seg cs 0 (i * 5)).toArray w.drew:=by
    rw [hzs]
    exact run_firstCells_some w.drew 5 i ⟨blk,off,none⟩ i cap (seg cs 0 (i * 5)) (zaj _ _ _) (fun j v hj=>by
      obtain ⟨ht,rfl⟩:=zd1 hj
      rw [Addr.add_lit,Nat.zero_add]
      exact (hH _ (by omega)).1)
  obtain ⟨G,hG⟩:∃ G,G=grownCap w (n + m) cap 32:=⟨_,rfl⟩
  obtain ⟨ROW,hROW⟩:∃ ROW:Array Value,ROW=(seg cs 0 (i * 5)).toArray ++ Builtin.zeroCells (Value.cells (.agg #[.int .i64 0,.int .i64 0,.int .i64 0,.string ⟨#[]⟩,.slice none 0 0])) (n + m - i) ++ Builtin.zeroCells (Value.cells (.agg #[.int .i64 0,.int .i64 0,.int .i64 0,.string ⟨#[]⟩,.slice none 0 0])) (G - (n + m)):=⟨_,rfl⟩
  have hrz : ∀ ty, (Builtin.append_ #[34, 3] ty #[.slice (some ⟨blk, off, none⟩) i cap, .int .i64 ((n : Int) + (m : Int) - (i : Int))]).run Tryz.prog w =
      .ok (.slice (some ⟨w.heap.size,0,none⟩) (n + m) G) (w.drew.alloc (.cells ROW 32)):=fun ty=>by
    have h:=Lib.run_append_grow_zeros w 34 3 ty 32 i0 _ .i64 .i64 rfl rfl hi0 hz0 (some ⟨blk,off,none⟩) i cap (seg cs 0 (i * 5)) hold (n + m - i) (by omega) (by omega) (by omega) (by omega) (by rw [hzb]; omega) (by rw [hzb,hik]; exact growslice_fits hroom hbig)
    rw [hik,← hG,← hROW] at h
    rw [hkk]
    exact h
  have hGn:n + m≤G:=by rw [hG]; exact grownCap_ge w _ _ _
  have hGm:G≤maxLen:=by rw [hG]; exact grownCap_le_maxLen w (n + m) cap 32 (by unfold maxLen; omega)
  have hG63:G≤9223372036854775807:=by have:=hGm; unfold maxLen at this; omega
  have hRs:ROW.size=G * 5:=by
    rw [hROW]
    simp [Builtin.zeroCells,Value.cells,zaj]
    omega
  have hRow:∀ t,t < i * 5→ROW[t]! = cs[t]! := fun t ht=>by
    rw [getElem!_pos ROW t (by omega)]
    simp only [hROW]
    rw [Array.getElem_append_left (by simp [zaj]; omega),Array.getElem_append_left (by simp [zaj]; omega)]
    have:=zhY (cs:=cs) (s:=0) ht
    rw [getElem!_pos _ t (by rw [zaj]; exact ht),Nat.zero_add] at this
    simpa using this
  obtain ⟨W1,hW1⟩:∃ W1,W1=w.drew.alloc (.cells ROW 32):=⟨_,rfl⟩
  have hN:Holds id W1 w.heap.size 0 ROW:=fun j hj=>by
    rw [Nat.zero_add,hW1]
    refine ⟨?_,World.frozen?_alloc_at (w:=w.drew) ROW _ w.heap.size j rfl⟩
    rw [World.cell?_alloc_at (w:=w.drew) ROW _ w.heap.size j rfl,Array.getElem?_eq_getElem hj,getElem!_pos ROW j hj]; rfl
  have hOb:∀ j v,w.cell? ⟨blk,j,none⟩=some v→W1.cell? ⟨blk,j,none⟩=some v:=fun j v h=>by rw [hW1,World.cell?_alloc_past (w:=w.drew) _ blk j hbw]; exact h
  have hOv:∀ j v,w.cell? ⟨vb,j,none⟩=some v→W1.cell? ⟨vb,j,none⟩=some v:=fun j v h=>by rw [hW1,World.cell?_alloc_past (w:=w.drew) _ vb j hvw]; exact h
  have hRn:(n + m) * 5≤ROW.size:=by rw [hRs]; exact Nat.mul_le_mul_right _ hGn
  have hcpA:∀ ty dc,(Builtin.copy_ #[34,34] ty #[.slice (some ⟨w.heap.size,i * 5,none⟩) (n + m - i) dc,.slice (some ⟨vb,voff,none⟩) m vc]).run Tryz.prog W1 = .ok (goInt m) (W1.setCells w.heap.size (i * 5) vs):=fun ty dc =>
    zaK W1 _ _ ty 32 5 w.heap.size (i * 5) (n + m - i) dc ⟨vb,voff,none⟩ m vc m vs rfl hsz (by simp only [Nat.min_def]; split <;> omega) (by omega)
      (fun j v hj=>by rw [Addr.add_lit]; exact hOv _ v (hvs j v hj))
      (fun j hj=>by have:=(hN (i * 5 + j) (by omega)).1; rw [Nat.zero_add] at this; rw [this]; rfl) (fun j hj=>by have:=(hN (i * 5 + j) (by omega)).2; rwa [Nat.zero_add] at this) h1v
  obtain ⟨news,hnews⟩:∃ news,news=seg cs (i * 5) ((n - i) * 5):=⟨_,rfl⟩
  have hnl:news.length=(n - i) * 5:=by rw [hnews,zaj]
  obtain ⟨W2,hW2⟩:∃ W2,W2=W1.setCells w.heap.size (i * 5) vs:=⟨_,rfl⟩
  have hself:putRow id W1 w.heap.size 0 ROW=W1:=putRow_self id W1 w.heap.size 0 ROW hN
  have hput:W2=putRow id W1 w.heap.size 0 (setMany ROW (i * 5) vs):=by
    rw [← setCells_putRow _ _ _ _ _ _ (by omega),hself,hW2,Nat.zero_add]
  have hN2:Holds id W2 w.heap.size 0 (setMany ROW (i * 5) vs):=by rw [hput]; exact holds_putRow id _ _ _ ROW _ hN (by simp)
  have hbN:blk≠w.heap.size:=by omega
  have hcpB:∀ ty dc sc,(Builtin.copy_ #[34,34] ty #[.slice (some ⟨w.heap.size,(i + m) * 5,none⟩) (n + m - (i + m)) dc,.slice (some ⟨blk,off + i * 5,none⟩) (n - i) sc]).run Tryz.prog W2.drew = .ok (goInt ((n - i:Nat):Int)) (W2.drew.setCells w.heap.size ((i + m) * 5) news):=fun ty dc sc =>
    zaK W2.drew _ _ ty 32 5 w.heap.size ((i + m) * 5) (n + m - (i + m)) dc ⟨blk,off + i * 5,none⟩ (n - i) sc (n - i) news rfl hsz (by simp only [Nat.min_def]; split <;> omega) hnl
      (fun j v hj=>by
        rw [hnews] at hj
        obtain ⟨ht,rfl⟩:=zd1 hj
        rw [Addr.add_lit,Nat.add_assoc]
        show W2.cell? _=_
        rw [hW2,World.cell?_setCells_out _ _ _ _ _ (fun h _=>absurd h hbN)]
        exact hOb _ _ (hH _ (by omega)).1)
      (fun j hj=>by have:=(hN2 ((i + m) * 5 + j) (by rw [size_setMany]; omega)).1; rw [Nat.zero_add] at this; show (W2.cell? _).isSome=true; rw [this]; rfl)
      (fun j hj=>by have:=(hN2 ((i + m) * 5 + j) (by rw [size_setMany]; omega)).2; rw [Nat.zero_add] at this; exact this) (by rw [hnews]; exact zn9 h1 (by omega))
  have fin:Aside (∃ (q:Nat) (F:Array Value),F.size=ROW.size∧zqJ 5 n i cs vs F∧W2.drew.setCells w.heap.size ((i + m) * 5) news=putRow id (Sort.ahead (w.alloc (.cells ROW 32)) q) w.heap.size 0 F):=by
    subst h0 hm1
    refine ⟨2,_,?_,zoa hRn (by omega) hvl hRow,?_⟩
    · simp
    · have e:W2.drew=putRow id (Sort.ahead (w.alloc (.cells ROW 32)) 2) w.heap.size 0 (setMany ROW (i * 5) vs):=by rw [hput,hW1]; rfl
      rw [← setCells_putRow _ _ _ _ _ _ (by rw [size_setMany,zaj]; omega),← e,hnews,Nat.zero_add]
  rw [← hW1] at hrz
  rw [← hW2] at hcpA
  have B:Aside (ROW.size=G * 5∧G≤maxLen):=⟨hRs,hGm⟩
  have hGi:¬ (G=i):=by omega
  have hGim:¬ (G=i + m):=by omega
  have hci:¬ (cap=i):=by omega
  have hw1:IntKind.i64.wrap ((i:Int) + (m:Int))=(i:Int) + (m:Int):=by rw [IntKind.wrap_i64]; omega
  have hb1:(0:Int)≤(i:Int) + (m:Int):=by omega
  have hin:i≤n:=by omega
  have htn:((i:Int) + (m:Int)).toNat=i + m:=by omega
  have hb3:(i:Int)≤(n:Int):=by omega
  clear hself hput hN2 hW1 hW2 hnews hnl hOb hOv hN hRow hRn hRs hROW hG hold hH hz hcz h1 hvs h1v hvl h0 hm1 hkk hik hGm hbig hzb hzs hz0 hi0
  go_enter Tryz.func146,Tryz.ntmps146
  go_wp2_with (first
    | (at_builtin; refine Lib.wpList_append_run _ rfl _ _ _ _ rfl _ _ rfl rfl _ _ (hrz _) ?_)
    | (at_builtin; refine wpList_copy_runI _ rfl _ _ 34 34 rfl _ _ rfl rfl (hcpA _ _) ?_))
  go_region_law_o (refine step_copy_runI rfl _ _ 34 34 rfl (.slice (some ⟨w.heap.size,(i + m) * 5,none⟩) (n + m - (i + m)) (G - (i + m))) (.slice (some ⟨blk,off + i * 5,none⟩) (n - i) (cap - i)) (by simp [Act.eval,Act.put]) (by simp [Act.eval,Act.put]) (hcpB _ _ _) ?_)
  go_wp2
  go_ret
  obtain ⟨q,F,f1,f2,f3⟩:=fin.out
  exact ⟨q,G,ROW,F,rfl,hGn,B.out.2,B.out.1,f1,f2,f3⟩
end Go.Proofs.YtkcahmbcpkjpiaaGreatDoor
namespace Go.Proofs.YtkcahmbcpkjpiaaGreatDoor
open Go.RowKit Go.Lib Go.Sort
open Go.Shelf
theorem zh0 {S : Nat → Nat → Prop} {w : World} {rows : List (List PV)} {row0 : List PV} {cs cur' : Array Value} {vs : List Value} {sz n i : Nat} (hn : rows.length = n) (hi : i ≤ n) (hz : ∀ row ∈ rows, row.length = sz) (hz0 : row0.length = sz)
    (hget:∀ t y,t < (n + 1) * sz→cur'[t]? = some y→y=if t < i * sz then cs[t]! else if t < i * sz + sz then vs[t - i * sz]! else cs[t - sz]!)
    (hrow:∀ (k:Nat) row (j:Nat) p,rows[k]? = some row→row[j]? = some p→∃ y,cs[k * sz + j]? = some y∧y.oneCell'=true∧RepP S w p y)
    (hnew:∀ (j:Nat) p,row0[j]? = some p→∃ y,vs[j]? = some y∧y.oneCell'=true∧RepP S w p y) :
    ∀ (k:Nat) row (j:Nat) p u,(rows.insertIdx i row0)[k]? = some row→row[j]? = some p→cur'[k * sz + j]? = some u→u.oneCell'=true∧RepP S w p u:=by
  intro k row j p u a b c
  have hk:k < n + 1:=by
    have:=(List.getElem?_eq_some_iff.1 a).1
    rw [List.length_insertIdx,if_pos (by omega)] at this; omega
  have hrl:row.length=sz:=by
    rw [List.getElem?_insertIdx] at a
    split at a
    · exact hz _ (List.mem_of_getElem? a)
    · split at a
      · split at a
        · cases a; exact hz0
        · cases a
      · exact hz _ (List.mem_of_getElem? a)
  have hj:j < sz:=by rw [← hrl]; exact (List.getElem?_eq_some_iff.1 b).1
  have hle:(k + 1) * sz≤(n + 1) * sz:=Nat.mul_le_mul_right _ (by omega)
  rw [Nat.add_mul,Nat.one_mul] at hle
  have hu:=hget _ _ (by omega) c
  rw [List.getElem?_insertIdx] at a
  by_cases h1:k < i
  · rw [if_pos h1] at a
    have:(k + 1) * sz≤i * sz:=Nat.mul_le_mul_right _ (by omega)
    rw [Nat.add_mul,Nat.one_mul] at this
    rw [if_pos (by omega)] at hu
    obtain ⟨y,y1,y2,y3⟩:=hrow k row j p a b
    obtain ⟨y4,y5⟩:=Array.getElem?_eq_some_iff.1 y1
    rw [getElem!_pos cs _ y4,y5] at hu
    subst hu
    exact ⟨y2,y3⟩
  · rw [if_neg h1] at a
    have hik:i * sz≤k * sz:=Nat.mul_le_mul_right _ (by omega)
    by_cases h2:k=i
    · subst h2
      rw [if_pos rfl,if_pos (by omega)] at a
      cases a
      rw [if_neg (by omega),if_pos (by omega),show k * sz + j - k * sz=j by omega] at hu
      obtain ⟨y,y1,y2,y3⟩:=hnew j p b
      obtain ⟨y4,y5⟩:=List.getElem?_eq_some_iff.1 y1
      rw [getElem!_pos vs _ y4,y5] at hu
      subst hu
      exact ⟨y2,y3⟩
    · rw [if_neg h2] at a
      have h3:(i + 1) * sz≤k * sz:=Nat.mul_le_mul_right _ (by omega)
      rw [Nat.add_mul,Nat.one_mul] at h3
      rw [if_neg (by omega),if_neg (by omega)] at hu
      obtain ⟨y,y1,y2,y3⟩:=hrow (k - 1) row j p a b
      obtain ⟨k',rfl⟩:∃ k',k=k' + 1:=⟨k - 1,by omega⟩
      rw [Nat.add_sub_cancel] at y1
      rw [show (k' + 1) * sz + j - sz=k' * sz + j by rw [Nat.add_mul,Nat.one_mul]; omega] at hu
      obtain ⟨y4,y5⟩:=Array.getElem?_eq_some_iff.1 y1
      rw [getElem!_pos cs _ y4,y5] at hu
      subst hu
      exact ⟨y2,y3⟩
theorem RepV.list_one {S : Nat → Nat → Prop} {w : World} {C : Conc} {row : List PV} {v : Value} (h : RepV S w C (.list [row]) v) (h0 : 0 < row.length) :
    ∃ (b o c:Nat) (x:Nat→Value),v = .slice (some ⟨b,o,none⟩) 1 c∧∀ (j:Nat) p,row[j]? = some p→S b (o + j)∧w.cell? ⟨b,o + j,none⟩=some (x j)∧RepP S w p (x j):=by
  cases h.list_inv with
  | list _ a c sz x hc hm hsz hz hl hr =>
    obtain ⟨b,o,ha,-,-⟩:=hl 0 row 0 row[0] rfl (List.getElem?_eq_getElem h0)
    refine ⟨b,o,c,x 0,by rw [ha]; rfl,fun j p hp=>?_⟩
    obtain ⟨b',o',ha',h1,h2⟩:=hl 0 row j p rfl hp
    rw [ha] at ha'
    cases ha'
    rw [Nat.zero_mul,Nat.add_zero] at h1 h2
    exact ⟨h1,h2,hr 0 row j p rfl hp⟩
theorem zho (rows : List (List PV)) (row0 : List PV) (v i : Nat) (hi : i ≤ rows.length) (hr0 : row0.length = 5) (hbig : (rows.length + 1) * 64 ≤ 140737488355328) :
    zg Tryz.prog 146 [.arr 0 v,.int .i64 i,.list [row0]] [.arr v true false 32 5 rows] (.arr 0 (v + 1)) [.arr (v + 1) true false 32 5 (rows.insertIdx i row0)]:=by
  intro x vs hx h0 hp
  obtain ⟨a,b,c,rfl,p1,p2,p3⟩:=zhn hp.1
  have ha:=hp.2 0 _ _ rfl p1
  obtain rfl:=(hp.2 1 _ _ rfl p2).int_inv
  obtain ⟨vb,vo,vc,xv,rfl,hxv⟩:=(hp.2 2 _ _ rfl p3).list_one (by omega)
  obtain ⟨e1,e2,e3⟩:=h0.row (id:=0) rfl ha
  have hlen:(rows.insertIdx i row0).length=rows.length + 1:=by rw [List.length_insertIdx,if_pos hi]
  have hrl:∀ row ∈ rows.insertIdx i row0,row.length=5:=fun row hr=>by
    rcases (List.mem_insertIdx hi).1 hr with rfl | hr
    · exact hr0
    · exact e2 row hr
  obtain ⟨ws,hws⟩:∃ ws:List Value,ws=(List.range 5).map xv:=⟨_,rfl⟩
  have hwl:ws.length=5:=by rw [hws]; simp
  have hwg:∀ j u,ws[j]? = some u→∃ p,row0[j]? = some p∧u=xv j:=fun j u hu=>by
    have hj:j < 5:=by rw [← hwl]; exact (List.getElem?_eq_some_iff.1 hu).1
    rw [hws,List.getElem?_map,List.getElem?_range hj] at hu
    exact ⟨_,List.getElem?_eq_getElem (by omega),(Option.some.inj hu).symm⟩
  have hwc:∀ j u,ws[j]? = some u→x.w0.cell? ⟨vb,vo + j,none⟩=some u:=fun j u hu=>by
    obtain ⟨p,hp,rfl⟩:=hwg j u hu
    exact (hxv j p hp).2.1
  have hw1:∀ u ∈ ws,u.oneCell'=true:=fun u hu=>by
    obtain ⟨j,hj,rfl⟩:=List.getElem_of_mem hu
    obtain ⟨p,hp,e⟩:=hwg j _ (List.getElem?_eq_getElem hj)
    rw [e]; exact (hxv j p hp).2.2.one
  have hnew:∀ (j:Nat) p,row0[j]? = some p→∃ y,ws[j]? = some y∧y.oneCell'=true∧RepP (zA x x.C0 _ x.w0) x.w0 p y:=fun j p hp=>by
    have hj:j < 5:=by rw [← hr0]; exact (List.getElem?_eq_some_iff.1 hp).1
    refine ⟨xv j,by rw [hws,List.getElem?_map,List.getElem?_range hj]; rfl,(hxv j p hp).2.2.one,(hxv j p hp).2.2⟩
  rcases e3 with ⟨rfl,hnil⟩ | ⟨g,cap,cur,rfl,hc,hcap,hm,hz,hrow⟩
  · subst hnil
    obtain rfl:i=0:=by simpa using hi
    refine (zeu none 0 0 1 vb vo vc [] ws x.w0 rfl (fun _=>⟨rfl,rfl⟩) rfl (fun b h=>by cases h) hwl hwc hw1 (by omega) (by omega) (by omega)).mono ?_
    rintro e w' ⟨v',rfl,hown,hgr⟩
    obtain ⟨o1,⟨-,o2⟩ | ⟨g',cap',cur',rfl,o3,o4,o5,o6,o7,o8⟩⟩:=hown
    · simp at o2
    · obtain ⟨C',k1,k2,k3⟩:=h0.rerow (id:=0) (v':=v + 1) (g':=g') (cap':=cap') (rows' := [row0]) (cur':=cur') rfl
        ⟨hgr.size,hgr.os,hgr.tape,hgr.output,fun b hb _=>hgr.block b hb (by simp)⟩ (.inr ⟨o3,fun b hb h=>h.same (hgr.block b (h0.blk_lt (id:=0) rfl hb) (by simp))⟩) (.inr (by omega)) o4 o5 o6 o7 (fun row hr=>by simp at hr; subst hr; exact hr0)
        (zh0 (rows := []) (row0:=row0) (cs:=#[]) (vs:=ws) (n:=0) (i:=0) rfl (by omega) (fun row hr=>by simp at hr) hr0 (fun t y ht hy=>by
          rw [if_neg (by omega),if_pos (by omega),Nat.zero_mul,Nat.sub_zero]
          have:=congrArg (fun l=>l[t]?) o8
          simp only [List.nil_append] at this
          rw [List.getElem?_take,if_pos (by omega),Array.getElem?_toList,hy] at this
          obtain ⟨h1,h2⟩:=List.getElem?_eq_some_iff.1 this.symm
          rw [getElem!_pos ws t h1,h2]) (fun k row j p h=>by simp at h) hnew)
      exact ⟨_,C',rfl,k1,k3⟩
  · have hH:=zjp hc
    have hown:(x.C0.sv 0).ownBlock=some g:=by rw [← e1]; rfl
    have hcs:rows.length * 5≤cur.size:=by rw [hz]; exact Nat.mul_le_mul_right _ hcap
    have hcap63:cap≤9223372036854775807:=by simp [maxLen] at hm; omega
    have hone:∀ t,t < rows.length * 5→(cur[t]!).oneCell'=true:=fun t ht=>by
      have hk:t / 5 < rows.length:=Nat.div_lt_of_lt_mul (by omega)
      have hj:t % 5 < (rows[t / 5]'hk).length:=by rw [e2 _ (List.getElem_mem hk)]; exact Nat.mod_lt _ (by omega)
      obtain ⟨y,y1,y2,-⟩:=hrow (t / 5) _ (t % 5) _ (List.getElem?_eq_getElem hk) (List.getElem?_eq_getElem hj)
      rw [show t / 5 * 5 + t % 5=t by omega] at y1
      obtain ⟨y4,y5⟩:=Array.getElem?_eq_some_iff.1 y1
      rw [getElem!_pos cur _ y4,y5]; exact y2
    have hcell0:=hwc 0 _ (List.getElem?_eq_getElem (by omega))
    have hvb:vb≠g:=fun e=>by
      have:=((hxv 0 _ (List.getElem?_eq_getElem (by omega))).1.2.2 0 _ rfl) (by rw [hown,e])
      exact absurd this.1 (by decide)
    have hfb:∀ o,x.w0.frozen? ⟨g,o,none⟩=false:=fun o=>by simp [World.frozen?,hc]
    have hsb:x.w0.shape? g=some (32,cap * 5):=by simp [World.shape?,hc,hz]
    obtain ⟨tA,kA,hsa,hkA⟩:∃ tA kA,x.w0.shape? vb=some (tA,kA)∧kA≠0:=by
      unfold World.cell? at hcell0
      unfold World.shape?
      split at hcell0
      · rename_i cc ee ff hh
        refine ⟨ee,cc.size,by rw [hh],fun e=>?_⟩
        simp at hcell0
        obtain ⟨h1,-⟩:=Array.getElem?_eq_some_iff.1 hcell0
        omega
      · cases hcell0
    -- in place
    have inplace : ∀ (q : Nat) (F : Array Value), F.size = cur.size → zqJ 5 rows.length i cur ws F → rows.length + 1 ≤ cap →
        ∃ C',HR x C' [.arr (v + 1) true false 32 5 (rows.insertIdx i row0)] (putRow id (Sort.ahead x.w0 q) g 0 F)∧RepV (zA x C' [.arr (v + 1) true false 32 5 (rows.insertIdx i row0)] (putRow id (Sort.ahead x.w0 q) g 0 F)) (putRow id (Sort.ahead x.w0 q) g 0 F) C' (.arr 0 (v + 1)) (.slice (some ⟨g,0,none⟩) (rows.length + 1) cap):=fun q F hFs hF hr=>by
      obtain ⟨cur',c1,c2,c3,c4⟩:=zdt x.w0 g q F hc
      have hcs1:(rows.length + 1) * 5≤cur.size:=by rw [hz]; exact Nat.mul_le_mul_right _ hr
      obtain ⟨C',k1,k2,k3⟩:=h0.rerow (id:=0) (v':=v + 1) (g':=g) (cap':=cap) (rows':=rows.insertIdx i row0) (cur':=cur') rfl
        ⟨c4.size,c4.os,c4.tape,c4.output,fun b hb hne=>c4.blk b hb fun e=>hne (by rw [hown,e])⟩ (.inl hown) (.inr (by omega)) c1 (by rw [hlen]; omega) hm (by rw [c2,hz]) hrl
        (zh0 rfl hi e2 hr0 (fun t y ht hy=>(c3 t y (by omega) hy).trans (hF t ht)) hrow hnew)
      rw [hlen] at k3
      exact ⟨C',k1,k3⟩
    by_cases hroom:rows.length + 1≤cap
    · by_cases hin:i=rows.length
      · subst hin
        refine Calls.mono (zhZ g 0 cap rows.length 1 vb vo vc cur ws x.w0 rfl rfl hH hz hwl hwc hw1 hcap63 hroom) ?_
        rintro e w' ⟨rfl,q,F,f1,f2,rfl⟩
        obtain ⟨C',k1,k3⟩:=inplace q F f1 f2 hroom
        exact ⟨_,C',rfl,k1,k3⟩
      · refine Calls.mono (zmp g 0 cap rows.length i 1 vb vo vc tA kA cur ws x.w0 rfl rfl hH hz hone hwl hwc hw1 hvb hsa hkA _ hsb hfb hcap63 (by omega) hroom) ?_
        rintro e w' ⟨rfl,q,F,f1,f2,rfl⟩
        obtain ⟨C',k1,k3⟩:=inplace q F f1 f2 hroom
        exact ⟨_,C',rfl,k1,k3⟩
    · by_cases hin:i=rows.length
      · subst hin
        refine Calls.mono (zeu (some ⟨g,0,none⟩) cap rows.length 1 vb vo vc (seg cur 0 (rows.length * 5)) ws x.w0 rfl (fun h=>by cases h) (zaj _ _ _) (fun b hb j u hu=>by
          cases hb
          obtain ⟨ht,rfl⟩:=zd1 hu
          rw [Addr.add_lit]
          have:=(hH j (by omega)).1
          simp only [Nat.zero_add] at this ⊢
          exact this) hwl hwc hw1 hcap (by omega) hbig) ?_
        rintro e w' ⟨v',rfl,how,hgr⟩
        obtain ⟨o1,⟨-,o2⟩ | ⟨g',cap',cur',rfl,o3,o4,o5,o6,o7,o8⟩⟩:=how
        · omega
        · obtain ⟨C',k1,k2,k3⟩:=h0.rerow (id:=0) (v':=v + 1) (g':=g') (cap':=cap') (rows':=rows.insertIdx rows.length row0) (cur':=cur') rfl
            ⟨hgr.size,hgr.os,hgr.tape,hgr.output,fun b hb _=>hgr.block b hb (by simp)⟩ (.inr ⟨o3,fun b hb h=>h.same (hgr.block b (h0.blk_lt (id:=0) rfl hb) (by simp))⟩) (.inr (by omega)) o4 (by rw [hlen]; exact o5) o6 o7 hrl
            (zh0 rfl hi e2 hr0 (cs:=cur) (vs:=ws) (fun t y ht hy=>by
              have:=congrArg (fun l=>l[t]?) o8
              rw [List.getElem?_take,if_pos (by omega),Array.getElem?_toList,hy] at this
              by_cases h1:t < rows.length * 5
              · rw [if_pos h1]
                rw [List.getElem?_append_left (by rw [zaj]; exact h1)] at this
                obtain ⟨-,h2⟩:=zd1 this.symm
                rw [h2,Nat.zero_add]
              · rw [if_neg h1,if_pos (by omega)]
                rw [List.getElem?_append_right (by rw [zaj]; omega),zaj] at this
                obtain ⟨h3,h2⟩:=List.getElem?_eq_some_iff.1 this.symm
                rw [getElem!_pos ws _ h3,h2]) hrow hnew)
          rw [hlen] at k3
          exact ⟨_,C',rfl,k1,k3⟩
      · refine Calls.mono (zob g 0 cap rows.length i 1 vb vo vc cur ws x.w0 rfl rfl hH hz hone hwl hwc hw1 (by omega) hcap (by omega) hbig) ?_
        rintro e w' ⟨q,G,ROW,F,rfl,f1,f2,f3,f4,f5,rfl⟩
        have hcA:(x.w0.alloc (.cells ROW 32)).heap[x.w0.heap.size]? = some (.cells ROW 32 (0,0)):=heap_alloc_new _ _
        obtain ⟨cur',c1,c2,c3,c4⟩:=zdt (x.w0.alloc (.cells ROW 32)) x.w0.heap.size q F hcA
        have hg1:=World.grownBy_alloc x.w0 (.cells ROW 32) none
        have hFs:(rows.length + 1) * 5≤F.size:=by rw [f4,f3]; exact Nat.mul_le_mul_right _ f1
        obtain ⟨C',k1,k2,k3⟩:=h0.rerow (id:=0) (v':=v + 1) (g':=x.w0.heap.size) (cap':=G) (rows':=rows.insertIdx i row0) (cur':=cur') rfl
          ⟨Nat.le_trans hg1.size c4.size,c4.os.trans hg1.os,c4.tape.trans hg1.tape,c4.output.trans hg1.output,fun b hb _=>(c4.blk b (Nat.lt_of_lt_of_le hb hg1.size) (by omega)).trans (hg1.block b hb (by simp))⟩ (.inr ⟨Nat.le_refl _,fun b hb h=>h.same ((c4.blk b (Nat.lt_of_lt_of_le (h0.blk_lt (id:=0) rfl hb) hg1.size) (by have:=h0.blk_lt (id:=0) rfl hb; omega)).trans (hg1.block b (h0.blk_lt (id:=0) rfl hb) (by simp)))⟩) (.inr (by omega)) c1 (by rw [hlen]; exact f1) f2 (by rw [c2,f3]) hrl
          (zh0 rfl hi e2 hr0 (fun t y ht hy=>(c3 t y (by omega) hy).trans (f5 t ht)) hrow hnew)
        rw [hlen] at k3
        exact ⟨_,C',rfl,k1,k3⟩
end Go.Proofs.YtkcahmbcpkjpiaaGreatDoor
namespace Go.Proofs.YtkcahmbcpkjpiaaGreatDoor
open Go.RowKit
theorem zby (l:List Entry) (h:zhW l) (hl:l.length≤1000000000000000):zg Tryz.prog 134 [.list (l.map cE)] [] (.agg [.int .i64 (ZB l 0),.int .i64 (ZB l 1)]) []:=by
 refine zg.of_walk Tryz.func134 Tryz.ntmps134 zuM zuN (by simp) fun x hx=>?_
 simp only [go_sem,zzc,zzd]
 refine zr [0,2,3,4] 2 (fun n st=>∃ k:Nat,k + n=l.length ∧
  st=⟨mkE .top [(0,.list (l.map cE)),(2,.ptr 0 0),(3,.ptr 1 0),(4,.int .i64 k)],[.box [.int .i64 0,.int .i64 0],.box [.int .i64 (ZB (l.take k) 0),.int .i64 (ZB (l.take k) 1)]]⟩) l.length (by simp [hx]) (by simp) ?_ ?_
 ·
  refine ⟨0,by omega,?_⟩
  simp [zi,go_sem,zc,zd,pos,List.range_succ,ZB]
 ·
  rintro n st ⟨k,hk,rfl⟩
  by_cases hlt:k < l.length
  ·
   have hg:l[k]? = some (nth l k):=zk _ _ hlt
   have wk:=zD (k:=k) (by omega)
   have hle:∀ r,ZB (l.take k) r≤1000000000000000:=fun r=>by have:=zbm (l.take k) r; rw [List.length_take] at this; omega
   have w0:=zD (k:=ZB (l.take k) 0) (by have:=hle 0; omega)
   have w1:=zD (k:=ZB (l.take k) 1) (by have:=hle 1; omega)
   have c0:=zbP l k 0 hlt
   have c1:=zbP l k 1 hlt
   rcases h (nth l k) (by rw [zy _ _ hlt]; exact List.getElem_mem hlt) with hr | hr
   ·
    rw [hr] at c0 c1
    simp only [go_sem,hlt,hg,cE,hr,w0,w1,wk,Int.reduceLE,Int.reduceLT,Int.reduceToNat,Int.cast_ofNat_Int,Int.ofNat_zero,Int.toNat_zero,Int.le_refl]
    refine ⟨by simp,n - 1,by omega,k + 1,by omega,?_⟩
    simp [zi,go_sem,zc,zd,pos,List.range_succ,c0,c1]
   ·
    rw [hr] at c0 c1
    simp only [go_sem,hlt,hg,cE,hr,w0,w1,wk,Int.reduceLE,Int.reduceLT,Int.reduceToNat,Int.cast_ofNat_Int,Int.ofNat_zero,Int.toNat_zero,Int.le_refl]
    refine ⟨by simp,n - 1,by omega,k + 1,by omega,?_⟩
    simp [zi,go_sem,zc,zd,pos,List.range_succ,c0,c1]
  ·
   have:l.take k=l:=List.take_of_length_le (by omega)
   simp only [go_sem,hlt]
   refine zb hx ?_
   simp [go_sem,zzc,zzd,this]
theorem Zf (l:List Entry) (y:Id) (hl:l.length≤9223372036854775806):zg Tryz.prog 96 [.list (l.map cE),.agg (cId y)] [] (.int .i64 (zz l y)) []:=by
 refine zg.of_walk Tryz.func96 Tryz.ntmps96 zyS zyT (by simp) fun x hx=>?_
 simp only [go_sem,L96,R96,cId]
 refine zr [0,3,5] 1 (fun n st=>∃ k:Nat,k + n=l.length∧zaH (fun e=>decide (e.id=y)) (l.drop k) k=zz l y ∧
  st=⟨mkE .top [(0,.list (l.map cE)),(3,.ptr 0 0),(5,.int .i64 k)],[.box (cId y)]⟩) l.length (by simp [hx]) (by simp) ?_ ?_
 ·
  refine ⟨0,by omega,by simp [zz],?_⟩
  simp [zi,go_sem,zc,zd,pos,List.range_succ,cId]
 ·
  rintro n st ⟨k,hk,hi,rfl⟩
  by_cases hlt:k < l.length
  ·
   have hg:l[k]? = some (nth l k):=zk _ _ hlt
   have wk:=zD (k:=k) (by omega)
   rw [za9 _ l k hlt] at hi
   by_cases he:(nth l k).id=y
   ·
    simp only [go_sem,hlt,hg,cE,cId,zd0,he]
    refine zb hx ?_
    simp [he] at hi
    simp [go_sem,L96,R96,hi]
   ·
    simp only [go_sem,hlt,hg,cE,cId,zd0,he,wk]
    refine ⟨by simp,n - 1,by omega,k + 1,by omega,by simpa [he] using hi,?_⟩
    simp [zi,go_sem,zc,zd,pos,List.range_succ,cId]
  ·
   have:l.drop k = []:=List.drop_eq_nil_of_le (by omega)
   rw [this] at hi
   simp only [go_sem,hlt]
   refine zb hx ?_
   simp [go_sem,L96,R96,← hi,zaH]
theorem zgX (l:List Entry) (hm:l.length≤9223372036854775806):zg Tryz.prog 94 [.list (l.map cE)] [] (.int .i64 (z8 l)) []:=by
 refine zg.of_walk Tryz.func94 Tryz.ntmps94 zyQ zyR (by simp) fun x hx=>?_
 by_cases h40:40 < l.length
 ·
  have d40:decide ((40:Int) < (l.length:Nat))=true:=by simp; omega
  simp only [go_sem,L94,R94,d40]
  refine zb hx ?_
  simp [go_sem,L94,R94,z8,h40]
 have d40:decide ((40:Int) < (l.length:Nat))=false:=by simp; omega
 have hcl:z8 l=zw (ZC l) l.length:=by simp [z8,h40]
 simp only [go_sem,L94,R94,d40,hcl]
 refine zr [0,3] 0 (fun n st=>∃ k:Nat,k + n=l.length∧zw (ZC l) k=0 ∧
  st=⟨mkE .top [(0,.list (l.map cE)),(3,.int .i64 k)],[]⟩) l.length (by simp [hx]) (by simp) ?_ ?_
 ·
  refine ⟨0,by omega,rfl,?_⟩
  simp [zi,go_sem,zc,zd,pos]
 ·
  rintro n st ⟨k,hk,hz,rfl⟩
  by_cases hlt:k < l.length
  ·
   have hg:l[k]? = some (nth l k):=zk _ _ hlt
   have wk:=zD (k:=k) (by omega)
   have hle:k≤l.length:=by omega
   have hrow:(∀ row ∈ List.map cE l,row.length=5)=True:=eq_true (zba l)
   have htk:List.take k (List.map cE l)=List.map cE (List.take k l):=List.map_take.symm
   have hlk:(l.take k).length≤40:=by rw [List.length_take]; omega
   have hreg:=zhk hz hle
   have fin:∀ r:Int,ZC l k=r→r≠0→zw (ZC l) l.length=r:=fun r h1 h2=>by rw [zZ hz (by rw [h1]; exact h2) hlt,h1]
   simp only [go_sem,hlt,hg,cE]
   refine za (.pureE (zbl (nth l k)) (by simp [go_sem,cE])) ?_
   by_cases h1:zl (nth l k)=0
   ·
    have hr:=zaz h1
    have hls:=(Zd h1).2.2.2.1
    simp only [go_sem,h1,hlt,hg,hle,hrow,htk,Int.le_refl,Int.sub_zero,Int.toNat_zero,Int.natCast_nonneg,cE]
    refine za (.pureE (Zf (l.take k) (nth l k).id (by omega)) (by simp [go_sem,cId])) ?_
    by_cases h2:0≤zz (l.take k) (nth l k).id
    ·
     simp only [go_sem,h2]
     refine zb hx ?_
     have:ZC l k=6:=by simp [ZC,h1,h2]
     simp [go_sem,L94,R94,fin _ this (by decide)]
    simp only [go_sem,h2,hlt,hg,hle,hrow,htk,Int.le_refl,Int.sub_zero,Int.toNat_zero,Int.natCast_nonneg,cE]
    refine za (.pureE (zby (l.take k) hreg (by omega)) (by simp [go_sem])) ?_
    have hw:∀ r,IntKind.i64.wrap ((ZB (l.take k) r:Int) + 1)=(ZB (l.take k) r:Int) + 1:=fun r=>by have:=zbm (l.take k) r; rw [IntWalk.i64_in _ (by omega)]
    by_cases h3:(ZB (l.take k) (nth l k).id.r:Int) + 1=(nth l k).id.n
    ·
     have h3e:ZC l k=if zV (l.take k) (nth l k)=false then 5 else 0:=by simp [ZC,h1,h2,h3]
     have hrb:zV (l.take k) (nth l k) = !((nth l k).ls.any fun x=>decide (zz (l.take k) x < 0)):=by simp [zV,h3]
     have looped:∀ j,(nth l k).ls.any (fun x=>decide (zz (l.take k) x < 0))=false∨j≤(nth l k).ls.length→True:=fun _ _=>trivial
     rcases hr with hr | hr
     all_goals
      have h3':=h3
      rw [hr] at h3'
      have dc:=decide_eq_true h3'
      simp only [go_sem,hr,hw,dc,hlt,hg,hle,hrow,htk,Int.sub_zero,Int.natCast_nonneg,cE,Int.reduceLE,Int.reduceLT,Int.reduceToNat,Int.cast_ofNat_Int,Int.ofNat_zero,Int.toNat_zero,Int.le_refl]
      refine zr [0,3,5] 0 (fun n st=>∃ j:Nat,j + n=(nth l k).ls.length∧((nth l k).ls.take j).any (fun x=>decide (zz (l.take k) x < 0))=false ∧
       st=⟨mkE .top [(0,.list (l.map cE)),(3,.int .i64 k),(5,.int .i64 j)],[]⟩) (nth l k).ls.length (by simp [hx]) (by simp) ?_ ?_
      ·
       refine ⟨0,by omega,by simp,?_⟩
       simp [zi,go_sem,zc,zd,pos]
      ·
       rintro n2 st ⟨j,hj,ha,rfl⟩
       by_cases hlj:j < (nth l k).ls.length
       ·
        have hgj:(nth l k).ls[j]? = some (nth (nth l k).ls j):=zk _ _ hlj
        have wj:=zD (k:=j) (by omega)
        simp only [go_sem,hlt,hg,hlj,hgj,hle,hrow,htk,Int.sub_zero,Int.natCast_nonneg,Int.toNat_zero,Int.le_refl,cE,cId]
        refine za (.pureE (Zf (l.take k) (nth (nth l k).ls j) (by omega)) (by simp [go_sem,cId])) ?_
        have hsucc:((nth l k).ls.take (j + 1)).any (fun x=>decide (zz (l.take k) x < 0))=decide (zz (l.take k) (nth (nth l k).ls j) < 0):=by
         rw [List.take_succ_eq_append_getElem hlj,List.any_append,ha,zy _ _ hlj]; simp
        by_cases h5:zz (l.take k) (nth (nth l k).ls j) < 0
        ·
         simp only [go_sem,h5]
         refine zb hx ?_
         have hall:(nth l k).ls.any (fun x=>decide (zz (l.take k) x < 0))=true:=by
          rw [List.any_eq_true]
          exact ⟨nth (nth l k).ls j,by rw [zy _ _ hlj]; exact List.getElem_mem hlj,by simp [h5]⟩
         have:ZC l k=5:=by rw [h3e,hrb,hall]; rfl
         simp [go_sem,L94,R94,fin _ this (by decide)]
        ·
         simp only [go_sem,h5,wj]
         refine ⟨by simp,n2 - 1,by omega,j + 1,by omega,by rw [hsucc]; simp [h5],?_⟩
         simp [zi,go_sem,zc,zd,pos]
       ·
        have htl:(nth l k).ls.take j=(nth l k).ls:=List.take_of_length_le (by omega)
        rw [htl] at ha
        simp only [go_sem,hlt,hg,hlj,cE,wk]
        refine ⟨by simp,n - 1,by omega,k + 1,by omega,zQ hz (by rw [h3e,hrb,ha]; rfl),?_⟩
        simp [zi,go_sem,zc,zd,pos]
    ·
     rcases hr with hr | hr
     all_goals
      have h3':=h3
      rw [hr] at h3'
      have dc:=decide_eq_false h3'
      simp only [go_sem,hr,hw,dc,hlt,hg,cE,Int.reduceLE,Int.reduceLT,Int.reduceToNat,Int.cast_ofNat_Int,Int.ofNat_zero,Int.toNat_zero,Int.le_refl]
      refine zb hx ?_
      have:ZC l k=4:=by simp [ZC,h1,h2,h3]
      simp [go_sem,L94,R94,fin _ this (by decide)]
   ·
    simp only [go_sem,h1]
    refine zb hx ?_
    have:ZC l k=zl (nth l k):=by simp [ZC,h1]
    simp [go_sem,L94,R94,fin _ this h1]
  ·
   have hke:k=l.length:=by omega
   subst hke
   simp only [go_sem,Nat.lt_irrefl,hz]
   refine zb hx ?_
   simp [go_sem,L94,R94,hz]
end Go.Proofs.YtkcahmbcpkjpiaaGreatDoor
