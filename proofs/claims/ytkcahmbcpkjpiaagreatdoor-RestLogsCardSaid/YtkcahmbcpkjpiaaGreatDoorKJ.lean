/- Joined texts of this claim: L15 F4 F5 F13 F14 F15 F16 F17 F18 R3 C7 C8 K16 K17 K18 K19 K20 K21 K22 E11 U25 Open Op1 Op2 Op6 Op4 Op9 Op3 Op12 Card. -/
import Derived.Test.YtkcahmbcpkjpiaaGreatDoorKI
import Derived.Test.YtkcahmbcpkjpiaaGreatDoorKH
import Derived.Test.YtkcahmbcpkjpiaaGreatDoorKF
import Derived.Test.YtkcahmbcpkjpiaaGreatDoorKG
import Derived.Test.YtkcahmbcpkjpiaaGreatDoorProg
import Derived.Test.YtkcahmbcpkjpiaaGreatDoorKB
import Derived.ProofKit
import Derived.OpenShut
import Derived.Carry
import Derived.SizedLaws
import Derived.Test.YtkcahmbcpkjpiaaGreatDoorKD
import Derived.LaidMore
import Derived.Lay
import Derived.SevenTiedAt
import Derived.Stop.Joined
import Derived.JoinedCond
set_option linter.unusedSimpArgs false
set_option linter.unusedVariables false
set_option linter.unusedSectionVars false
set_option maxHeartbeats 8000000
set_option maxRecDepth 100000
namespace Go.Proofs.YtkcahmbcpkjpiaaGreatDoor
open Go.RowKit
open Tryz
theorem zBj:zkR eL 2 2=eL:=by kernel_rfl
theorem zDW:zx eL 1 []=0:=zfY 1 [] (by decide +kernel) (by decide +kernel) (by decide +kernel) (by decide +kernel)
theorem zBk:zx eL 1 [⟨0,1⟩,⟨1,1⟩]=0:=zfY 1 _ (by decide +kernel) (by decide +kernel) (by decide +kernel) (by decide +kernel)
theorem zBl:zx eL 1 [⟨0,1⟩,⟨1,1⟩,⟨0,2⟩]=0:=zfY 1 _ (by decide +kernel) (by decide +kernel) (by decide +kernel) (by decide +kernel)
theorem zy2:ZA eL 1 [] 1 1=0:=by rw [ZA,if_neg (by rw [zDW]; simp),if_neg (by decide),if_pos (by decide +kernel)]
theorem zy3:ZA eL 1 [⟨0,1⟩,⟨1,1⟩] 2 2=0:=by rw [ZA,if_neg (by rw [zBk]; simp),if_neg (by decide),if_pos (by decide +kernel)]
theorem zy4:ZA eL 1 [⟨0,1⟩,⟨1,1⟩] 1 2=4:=by rw [ZA,if_neg (by rw [zBk]; simp),if_neg (by decide),if_neg (by decide +kernel)]
theorem zDX:zcY eL 1 [] 1 1 = [⟨0,1⟩,⟨1,1⟩]:=by rw [zcY,if_pos zy2]; decide +kernel
theorem zDY:zcY eL 1 [⟨0,1⟩,⟨1,1⟩] 2 2 = [⟨0,1⟩,⟨1,1⟩,⟨0,2⟩]:=by
 rw [zcY,if_pos zy3,zBj,zf1,zn3,zer]; decide +kernel
theorem zDZ:zcY eL 1 [⟨0,1⟩,⟨1,1⟩] 1 2 = []:=by rw [zcY,if_neg (by rw [zy4]; decide)]
theorem zD0:zcX eL 1 [] 1 1=1:=by rw [zcX,if_pos zy2]
theorem zD1:zcX eL 1 [⟨0,1⟩,⟨1,1⟩] 2 2=1:=by rw [zcX,if_pos zy3]
theorem zD2:zcX eL 1 [⟨0,1⟩,⟨1,1⟩] 1 2=0:=by rw [zcX,if_neg (by rw [zy4]; decide)]
theorem zEl:zqu eL 1 [⟨0,1⟩,⟨1,1⟩,⟨0,2⟩] = [e0.t,e1.t,e2.t]:=by rw [zqu,if_pos zBl]; kernel_rfl
theorem zgv:zg prog 24 [] [] (.bool true) []:=by
 have hent:=ZE
 rw [znp] at hent
 have hp1:=zy2
 have hp2:=zy3
 have hp3:=zy4
 have hi1:=zDX
 have hi2:=zDY
 have hi3:=zDZ
 have hc1:=zD0
 have hc2:=zD1
 have hc3:=zD2
 have hb3:=zBl
 have htx:=zEl
 refine zg.of_walk func24 ntmps24 zzN.1 zzN.2 (by simp) fun x hx=>?_
 simp only [go_sem,L24,R24]
 refine zc (.pure hent) ?_
 simp only [go_sem]
 refine zc (.pureE (zgu eL 1 [] 1 1 (by decide) (by decide)) (by simp [go_sem,cCl])) ?_
 simp only [go_sem,hp1,hi1,hc1,cCl]
 refine zc (.pure hent) ?_
 simp only [go_sem]
 refine zc (.pureE (zgu eL 1 [⟨0,1⟩,⟨1,1⟩] 2 2 (by decide) (by decide)) (by simp [go_sem,cCl])) ?_
 simp only [go_sem,hp2,hi2,hc2,cCl]
 repeat refine ⟨rfl,?_⟩
 refine zc (.pure hent) ?_
 simp only [go_sem]
 refine zc (.pureE (zn5 eL 1 [⟨0,1⟩,⟨1,1⟩,⟨0,2⟩] (by decide) (by decide)) (by simp [go_sem,cCl])) ?_
 simp only [go_sem,hb3,htx]
 repeat refine ⟨rfl,?_⟩
 refine zc (.pure hent) ?_
 simp only [go_sem]
 refine zc (.pureE (zgu eL 1 [⟨0,1⟩,⟨1,1⟩] 1 2 (by decide) (by decide)) (by simp [go_sem,cCl])) ?_
 simp only [go_sem,hp3,hi3,hc3,cCl]
 repeat refine ⟨rfl,?_⟩
 refine zc (.pure hent) ?_
 simp only [go_sem]
 refine zc (.pureE (zcd eL 1 [⟨0,1⟩,⟨1,1⟩,⟨0,2⟩] (by decide) (by decide)) (by simp [go_sem,cCl])) ?_
 simp only [go_sem,hb3]
 iterate 2
  refine zc (.pure (Zx _ _)) ?_
  simp only [go_sem]
 refine zc (.pureE (ZS [⟨0,1⟩,⟨1,1⟩] [⟨0,1⟩,⟨1,1⟩] (by decide)) (by simp [go_sem,cId])) ?_
 simp only [go_sem]
 refine zc (.scalarE (ziq [e0.t,e1.t,e2.t] [e0.t,e1.t,e2.t] (by decide)) rfl (by simp [go_sem,ztG,e0,e1,e2,BA,zt,pos])) ?_
 simp only [go_sem]
 repeat refine ⟨rfl,?_⟩
 refine zd hx ?_
 simp [go_sem,L24,R24]
theorem zmz (a b:List ByteArray) (ha:a.length≤9223372036854775806):zg prog 80 [.list (a.map zbY),.list (b.map zbY)] [] (.bool (decide (a=b))) []:=by
 refine zg.of_walk func80 ntmps80 zuv.1 zuv.2 (by simp) fun x hx=>?_
 by_cases hl:a.length=b.length
 ·
  have hl':((a.length:Int)=(b.length:Int))=True:=eq_true (by omega)
  simp only [go_sem,zab,Int.reduceLT,Int.reduceLE,Int.reduceToNat,Int.reduceAdd,frz,L80,R80,yah,hl']
  refine zy [0,1,5] 0 (fun n st=>∃ k:Nat,k + n=a.length∧a.take k=b.take k∧st=⟨mkE .top [(0,.list (a.map zbY)),(1,.list (b.map zbY)),(5,.int .i64 k)],[]⟩) a.length (by simp [hx]) (by simp) ?_ ?_
  ·
   refine ⟨0,by omega,rfl,?_⟩
   simp [zh,go_sem,ze,zf,pos,yaa]
  ·
   rintro n st ⟨k,hk,htk,rfl⟩
   by_cases hlt:k < a.length
   ·
    have hlb:k < b.length:=by omega
    have hga:a[k]? = some (nth a k):=zk _ _ hlt
    have hgb:b[k]? = some (nth b k):=zk _ _ hlb
    have wk:=zM (k:=k) (by omega)
    by_cases he:nth a k=nth b k
    ·
     simp only [go_sem,zab,Int.reduceLT,Int.reduceLE,Int.reduceToNat,Int.reduceAdd,frz,hlt,hlb,hga,hgb,zbY,yav,yaM,yah,he,decide_true,wk]
     repeat refine ⟨rfl,?_⟩
     try simp only [go_sem,zab,Int.reduceLT,Int.reduceLE,Int.reduceToNat,Int.reduceAdd,frz,wk]
     refine ⟨by simp,n - 1,by omega,k + 1,by omega,?_,?_⟩
     ·
      rw [yby,yby,htk,hga,hgb,he]
     ·
      simp [zh,go_sem,ze,zf,pos,yaa]
    ·
     simp only [go_sem,zab,Int.reduceLT,Int.reduceLE,Int.reduceToNat,Int.reduceAdd,frz,hlt,hlb,hga,hgb,zbY,yav,yaM,yah,he,decide_false]
     repeat refine ⟨rfl,?_⟩
     try simp only [go_sem,zab,Int.reduceLT,Int.reduceLE,Int.reduceToNat,Int.reduceAdd,frz]
     refine zd hx ?_
     have:¬ a=b:=fun e=>he (by rw [e])
     simp [go_sem,L80,R80,this]
   ·
    have:a=b:=by
     rw [yan (by omega),yan (by omega)] at htk
     exact htk
    simp only [go_sem,zab,Int.reduceLT,Int.reduceLE,Int.reduceToNat,Int.reduceAdd,frz,hlt,yah]
    refine zd hx ?_
    simp [go_sem,L80,R80,this]
 ·
  have hl':((a.length:Int)=(b.length:Int))=False:=eq_false (by omega)
  have:¬ a=b:=fun e=>hl (by rw [e])
  simp only [go_sem,zab,Int.reduceLT,Int.reduceLE,Int.reduceToNat,Int.reduceAdd,frz,L80,R80,yah,hl']
  refine zd hx ?_
  simp [go_sem,L80,R80,this]
def zcy (s:ByteArray) (r:List ByteArray × Bool) (y:ByteArray):List ByteArray × Bool :=
 ((if r.2=false∧leB s y=true then r.1 ++ [s] else r.1) ++ (if y=s then [] else [y]),r.2 || leB s y)
def wtF (s:ByteArray) (l:List ByteArray):List ByteArray × Bool:=l.foldl (zcy s) ([],false)
def zvn (l:List ByteArray) (s:ByteArray):List ByteArray:=if (wtF s l).2=true then (wtF s l).1 else (wtF s l).1 ++ [s]
def zqL (l:List Entry) (c:Int) (key:ByteArray) (i:Nat):Bool:=decide ((zdG (nth l i).t).1=1) && (decide ((zdG (nth l i).t).2.1=key) && zan (nth l i).c c)
def zBm (l:List Entry) (c:Int) (key:ByteArray) (i n:Nat):Bool:=decide (¬ (zdG (nth l n).t).1=0) && (decide ((zdG (nth l n).t).2.1=key) && (zan (nth l n).c c && nth (zao l n) i))
def ztl (l:List Entry) (c:Int) (key:ByteArray) (i k:Nat):Bool:=(List.range k).all fun n => !zBm l c key i n
def zkX (l:List Entry) (c:Int) (key:ByteArray) (out:List ByteArray) (i:Nat):List ByteArray:=if (zqL l c key i && ztl l c key i l.length)=true then zvn out (zdG (nth l i).t).2.2 else out
def zec (l:List Entry) (c:Int) (key:ByteArray) (k:Nat):List ByteArray:=(List.range k).foldl (zkX l c key) []
def ztm (l:List Entry) (c:Int) (key:ByteArray):List ByteArray:=zec l c key l.length
theorem zir (l:List Entry) (c:Int) (key:ByteArray) (k:Nat):zec l c key (k + 1)=zkX l c key (zec l c key k) k:=by
 rw [zec,yaa,ybM]; rfl
theorem ztn:∀ a b:List UInt8,Go.Op.bytesLess a b=decide (Lib.compareBytes a b < 0)
 | [],[]=>rfl
 | [],_ :: _=>rfl
 | _ :: _,[]=>rfl
 | x :: a,y :: b=>by
  rw [Go.Op.bytesLess,Lib.compareBytes]
  by_cases h1:x < y
  ·
   rw [if_pos h1]; simp [h1]
  ·
   rw [if_neg h1]
   by_cases h2:y < x
   ·
    have:¬ x=y:=by intro e; rw [e] at h1 h2; exact h1 h2
    rw [if_pos h2]; simp [h1,this]
   ·
    have:x=y:=by
     rw [UInt8.lt_iff_toNat_lt] at h1 h2
     exact UInt8.toNat.inj (by omega)
    rw [if_neg h2,ztn a b]
    simp [h1,this]
theorem zto (a b:ByteArray):leB a b=decide (zd8 a b≤0):=by
 have ha:a.toList=a.data.toList:=ByteArray.toList_eq a
 have hb:b.toList=b.data.toList:=ByteArray.toList_eq b
 rw [leB,ha,hb,ztn]
 unfold zd8
 by_cases h:Lib.compareBytes a.data.toList b.data.toList < 0
 ·
  simp [h]; omega
 ·
  by_cases h2:Lib.compareBytes a.data.toList b.data.toList=0
  ·
   have:=znI h2
   simp [this,zkH]
  ·
   have:¬ a.data.toList=b.data.toList:=fun e=>h2 (by rw [e]; exact zkH _)
   have h3:¬ Lib.compareBytes a.data.toList b.data.toList≤0:=by omega
   have h4:¬ a.data=b.data:=fun e=>this (by rw [e])
   simp [h,h4,h3]
def Up (l:List ByteArray):Prop:=l.Pairwise fun a b=>zd8 a b < 0
def zpg (s:ByteArray):List ByteArray→List ByteArray
 | [] => [s]
 | y :: l=>if zd8 s y < 0 then s :: y :: l else if y=s then s :: l else y :: zpg s l
theorem zkY (s:ByteArray):∀ (l r:List ByteArray),l.foldl (zcy s) (r,true)=(r ++ l.filter (fun y => !decide (y=s)),true)
 | [],r=>by simp
 | y :: l,r=>by
  rw [List.foldl_cons]
  by_cases h:y=s
  ·
   have:zcy s (r,true) y=(r,true):=by simp [zcy,h]
   rw [this,zkY s l r]; simp [h]
  ·
   have:zcy s (r,true) y=(r ++ [y],true):=by simp [zcy,h]
   rw [this,zkY s l _]; simp [h]
theorem zph (s:ByteArray):∀ (l r:List ByteArray),Up l→(if (l.foldl (zcy s) (r,false)).2=true then (l.foldl (zcy s) (r,false)).1 else (l.foldl (zcy s) (r,false)).1 ++ [s])=r ++ zpg s l
 | [],r,_=>by simp [zpg]
 | y :: l,r,hu=>by
  obtain ⟨h1,h2⟩:=ya7.1 hu
  rw [List.foldl_cons,zpg]
  by_cases hle:leB s y=true
  ·
   have hc:zd8 s y≤0:=by rw [zto] at hle; exact of_decide_eq_true hle
   have hf:l.filter (fun y => !decide (y=s))=l:=List.filter_eq_self.2 fun z hz=>by
    have hyz:=h1 z hz
    have:z≠s:=by
     rintro rfl
     have:=zfM z y
     omega
    simp [this]
   by_cases hy:y=s
   ·
    have h0:¬ zd8 s y < 0:=by rw [hy,zcw]; omega
    have:zcy s (r,false) y=(r ++ [s],true):=by
     rw [zcy]; simp [hle,hy]
     rw [← hy]; rw [hy] at hle ⊢; simp [hle]
    rw [this,zkY,hf,if_neg h0,if_pos hy]
    simp
   ·
    have h0:zd8 s y < 0:=by
     rcases Int.lt_or_eq_of_le hc with h | h
     ·
      exact h
     ·
      exact (hy (zbJ h).symm).elim
    have:zcy s (r,false) y=(r ++ [s] ++ [y],true):=by rw [zcy]; simp [hle,hy]
    rw [this,zkY,hf,if_pos h0]
    simp
  ·
   have hle':leB s y=false:=by simpa using hle
   have hc:¬ zd8 s y≤0:=by rw [zto] at hle'; exact of_decide_eq_false hle'
   have hy:¬ y=s:=by rintro rfl; rw [zcw] at hc; omega
   have:zcy s (r,false) y=(r ++ [y],false):=by rw [zcy]; simp [hle',hy]
   rw [this,zph s l _ h2,if_neg (by omega),if_neg hy]
   simp
theorem zfZ {l:List ByteArray} (s:ByteArray) (h:Up l):zvn l s=zpg s l:=by
 have:=zph s l [] h
 rw [zvn,wtF,this]; simp
theorem zkZ (s:ByteArray):∀ {l:List ByteArray} {z:ByteArray},z ∈ zpg s l↔z=s∨z ∈ l
 | [],z=>by simp [zpg]
 | y :: l,z=>by
  rw [zpg]
  split
  ·
   simp
  ·
   split
   ·
    rename_i h; subst h; simp
   ·
    rw [yaN,zkZ s,yaN]
    constructor
    ·
     rintro (h | h | h)
     ·
      exact .inr (.inl h)
     ·
      exact .inl h
     ·
      exact .inr (.inr h)
    ·
     rintro (h | h | h)
     ·
      exact .inr (.inl h)
     ·
      exact .inl h
     ·
      exact .inr (.inr h)
theorem ztp (s:ByteArray):∀ {l:List ByteArray},Up l→Up (zpg s l)
 | [],_=>by simp [Up,zpg]
 | y :: l,hu=>by
  obtain ⟨h1,h2⟩:=ya7.1 hu
  rw [zpg]
  split
  ·
   rename_i h
   refine ya7.2 ⟨fun z hz=>?_,hu⟩
   rcases yaN.1 hz with rfl | hz
   ·
    exact h
   ·
    exact zce h (h1 z hz)
  ·
   split
   ·
    rename_i h; subst h; exact hu
   ·
    rename_i h0 hy
    refine ya7.2 ⟨fun z hz=>?_,ztp s h2⟩
    rcases (zkZ s).1 hz with rfl | hz
    ·
     have a:=zfM y z
     by_cases e:zd8 y z=0
     ·
      exact (hy (zbJ e)).elim
     ·
      omega
    ·
     exact h1 z hz
theorem zk0 (s:ByteArray):∀ l:List ByteArray,(zpg s l).length≤l.length + 1
 | []=>by simp [zpg]
 | y :: l=>by
  rw [zpg]
  split
  ·
   simp
  ·
   split
   ·
    simp
   ·
    have:=zk0 s l
    simp; omega
theorem zis {α:Type} {r:α→α→Prop} (hi:∀ x,¬ r x x) (ht:∀ x y z,r x y→r y z→r x z):∀ {a b:List α},a.Pairwise r→b.Pairwise r→(∀ x,x ∈ a↔x ∈ b)→a=b
 | [],[],_,_,_=>rfl
 | [],y :: b,_,_,h=>by have:=(h y).2 (by simp); simp at this
 | x :: a,[],_,_,h=>by have:=(h x).1 (by simp); simp at this
 | x :: a,y :: b,h1,h2,h=>by
  obtain ⟨a1,a2⟩:=ya7.1 h1
  obtain ⟨b1,b2⟩:=ya7.1 h2
  have e:x=y:=by
   rcases yaN.1 ((h x).1 (by simp)) with e | hx
   ·
    exact e
   ·
    rcases yaN.1 ((h y).2 (by simp)) with e | hy
    ·
     exact e.symm
    ·
     exact (hi _ (ht _ _ _ (b1 x hx) (a1 y hy))).elim
  subst e
  rw [zis hi ht a2 b2 fun z=>?_]
  constructor
  ·
   intro hz
   rcases yaN.1 ((h z).1 (ybu _ hz)) with rfl | hz'
   ·
    exact (hi _ (a1 _ hz)).elim
   ·
    exact hz'
  ·
   intro hz
   rcases yaN.1 ((h z).2 (ybu _ hz)) with rfl | hz'
   ·
    exact (hi _ (b1 _ hz)).elim
   ·
    exact hz'
theorem zD3 {a b:List ByteArray} (h1:Up a) (h2:Up b) (h:∀ x,x ∈ a↔x ∈ b):a=b :=
 zis (r:=fun a b=>zd8 a b < 0) (fun x=>by rw [zcw]; omega) (fun x y z=>zce) h1 h2 h
structure GoodM (m:List KV):Prop where
 keys:m.Pairwise fun p q=>zd8 p.1 q.1 < 0
 vals:∀ p ∈ m,Up p.2∧p.2 ≠ []
def inM (m:List KV) (k v:ByteArray):Prop:=∃ p ∈ m,p.1=k∧v ∈ p.2
theorem GoodM.one {m:List KV} (h:GoodM m) {p q:KV} (hp:p ∈ m) (hq:q ∈ m) (e:p.1=q.1):p=q:=by
 obtain ⟨i,hi,rfl⟩:=yaq hp
 obtain ⟨j,hj,rfl⟩:=yaq hq
 have hk:=yaT.1 h.keys
 rcases Nat.lt_trichotomy i j with hij | rfl | hij
 ·
  have:=hk i j hi hj hij; rw [e,zcw] at this; omega
 ·
  rfl
 ·
  have:=hk j i hj hi hij; rw [e,zcw] at this; omega
theorem zy5 {a b:List KV} (ha:GoodM a) (hb:GoodM b) (h:∀ k v,inM a k v↔inM b k v):a=b:=by
 have half:∀ {a b:List KV},GoodM a→GoodM b→(∀ k v,inM a k v↔inM b k v)→∀ p ∈ a,p ∈ b:=by
  intro a b ha hb h p hp
  obtain ⟨hu,hne⟩:=ha.vals p hp
  obtain ⟨v,hv⟩:=List.exists_mem_of_ne_nil _ hne
  obtain ⟨q,hq,hk,-⟩:=(h p.1 v).1 ⟨p,hp,rfl,hv⟩
  have:p.2=q.2:=zD3 hu (hb.vals q hq).1 fun x=>by
   constructor
   ·
    intro hx
    obtain ⟨q',hq',hk',hx'⟩:=(h p.1 x).1 ⟨p,hp,rfl,hx⟩
    rw [hb.one hq hq' (by rw [hk,hk'])]; exact hx'
   ·
    intro hx
    obtain ⟨p',hp',hk',hx'⟩:=(h p.1 x).2 ⟨q,hq,hk,hx⟩
    rw [ha.one hp hp' hk'.symm]; exact hx'
  rw [show p=q from Prod.ext hk.symm this]; exact hq
 refine zis (r:=fun p q:KV=>zd8 p.1 q.1 < 0) (fun x=>by rw [zcw]; omega) (fun x y z=>zce) ha.keys hb.keys fun p=>⟨half ha hb h p,half hb ha (fun k v=>(h k v).symm) p⟩
theorem zit (l:List Entry) (c:Int) (key:ByteArray):∀ k,Up (zec l c key k)∧(zec l c key k).length≤k
 | 0=>⟨by simp [zec,Up],by simp [zec]⟩
 | k + 1=>by
  obtain ⟨h1,h2⟩:=zit l c key k
  rw [zir,zkX]
  split
  ·
   rw [zfZ _ h1]
   exact ⟨ztp _ h1,by have:=zk0 (zdG (nth l k).t).2.2 (zec l c key k); omega⟩
  ·
   exact ⟨h1,by omega⟩
theorem zes {l:List Entry} {c:Int} {key v:ByteArray}:∀ {k:Nat},v ∈ zec l c key k↔∃ i,i < k∧zqL l c key i=true∧ztl l c key i l.length=true∧v=(zdG (nth l i).t).2.2
 | 0=>by simp [zec]
 | k + 1=>by
  rw [zir,zkX]
  split
  ·
   rename_i hc
   rw [yat] at hc
   rw [zfZ _ (zit l c key k).1,zkZ,zes]
   constructor
   ·
    rintro (h | ⟨i,h1,h2⟩)
    ·
     exact ⟨k,by omega,hc.1,hc.2,h⟩
    ·
     exact ⟨i,by omega,h2⟩
   ·
    rintro ⟨i,h1,h2,h3,h4⟩
    by_cases e:i=k
    ·
     subst e; exact .inl h4
    ·
     exact .inr ⟨i,by omega,h2,h3,h4⟩
  ·
   rename_i hc
   rw [zes]
   constructor
   ·
    rintro ⟨i,h1,h2⟩; exact ⟨i,by omega,h2⟩
   ·
    rintro ⟨i,h1,h2,h3,h4⟩
    by_cases e:i=k
    ·
     subst e; exact (hc (by rw [h2,h3]; rfl)).elim
    ·
     exact ⟨i,by omega,h2,h3,h4⟩
def ziu (ks:List ByteArray) (e:Entry):List ByteArray:=if (zdG e.t).1=1 then zvn ks (zdG e.t).2.1 else ks
def zcP (l:List Entry):List ByteArray:=l.foldl ziu []
theorem zqM (l:List Entry) (e:Entry):zcP (l ++ [e])=ziu (zcP l) e:=by rw [zcP,ybM]; rfl
theorem ziv {l:List Entry} {k:Nat} (h:k < l.length):zcP (l.take (k + 1))=ziu (zcP (l.take k)) (nth l k):=by
 rw [yby,zk _ _ h,Option.toList_some,zqM]
theorem ziw {l:List Entry}:∀ k,k≤l.length→Up (zcP (l.take k))∧(zcP (l.take k)).length≤k
 | 0,_=>⟨by simp [zcP,Up],by simp [zcP]⟩
 | k + 1,h=>by
  obtain ⟨h1,h2⟩:=ziw (l:=l) k (by omega)
  rw [ziv (by omega),ziu]
  split
  ·
   rw [zfZ _ h1]
   exact ⟨ztp _ h1,by have:=zk0 (zdG (nth l k).t).2.1 (zcP (l.take k)); omega⟩
  ·
   exact ⟨h1,by omega⟩
theorem zgw {l:List Entry} {v:ByteArray}:∀ {k:Nat},k≤l.length→(v ∈ zcP (l.take k)↔∃ i,i < k∧(zdG (nth l i).t).1=1∧v=(zdG (nth l i).t).2.1)
 | 0,_=>by simp [zcP]
 | k + 1,h=>by
  rw [ziv (by omega),ziu]
  split
  ·
   rename_i hc
   rw [zfZ _ (ziw k (by omega)).1,zkZ,zgw (by omega)]
   constructor
   ·
    rintro (h | ⟨i,h1,h2⟩)
    ·
     exact ⟨k,by omega,hc,h⟩
    ·
     exact ⟨i,by omega,h2⟩
   ·
    rintro ⟨i,h1,h2,h3⟩
    by_cases e:i=k
    ·
     subst e; exact .inl h3
    ·
     exact .inr ⟨i,by omega,h2,h3⟩
  ·
   rename_i hc
   rw [zgw (by omega)]
   constructor
   ·
    rintro ⟨i,h1,h2⟩; exact ⟨i,by omega,h2⟩
   ·
    rintro ⟨i,h1,h2,h3⟩
    by_cases e:i=k
    ·
     subst e; exact (hc h2).elim
    ·
     exact ⟨i,by omega,h2,h3⟩
def zmA (l:List Entry) (c:Int) (key:ByteArray):Option KV:=if ztm l c key = [] then none else some (key,ztm l c key)
def zCs (l:List Entry) (c:Int):List KV:=(zcP l).filterMap (zmA l c)
theorem zvo {m : List KV} {k v : ByteArray} (h : GoodM m) (hle : ∀ p ∈ m, ∀ y ∈ p.2, zmi (p.1, y) (k, v) ≤ 0) :
    GoodM (zmM m (k,v))∧∀ k' v',inM (zmM m (k,v)) k' v'↔inM m k' v'∨(k'=k∧v'=v):=by
  cases hl:m.getLast? with
  | none =>
    have hm:m = []:=List.getLast?_eq_none_iff.1 hl
    subst hm
    have e:zmM [] (k,v) = [(k,[v])]:=rfl
    rw [e]
    refine ⟨⟨by simp,fun p hp=>?_⟩,fun k' v'=>?_⟩
    · obtain rfl:p=(k,[v]):=by simpa using hp
      exact ⟨by simp [Up],by simp⟩
    · simp only [inM,List.mem_singleton,List.not_mem_nil,false_and,exists_false,false_or]
      constructor
      · rintro ⟨p,rfl,h1,h2⟩
        exact ⟨h1.symm,by simpa using h2⟩
      · rintro ⟨h1,h2⟩
        exact ⟨_,rfl,h1.symm,by simpa using h2⟩
  | some p =>
    obtain ⟨o,rfl⟩:=List.getLast?_eq_some_iff.1 hl
    obtain ⟨key,vs⟩:=p
    obtain ⟨k1,k2,k3⟩:=ybf.1 h.keys
    have hp:(key,vs) ∈ o ++ [(key,vs)]:=by simp
    obtain ⟨u1,u2⟩:=h.vals _ hp
    simp only at u1 u2
    by_cases hk:key=k
    · subst hk
      have hvle:∀ y ∈ vs,zd8 y v≤0:=fun y hy=>by
        have:=hle _ hp y hy
        rw [zmi,if_pos (zcw _)] at this
        exact this
      cases hv:vs.any fun x=>decide (v=x)
      · rw [zkK hv]
        have hlt:∀ y ∈ vs,zd8 y v < 0:=fun y hy=>by
          have h1:=hvle y hy
          have h2:=yaZ.1 hv y hy
          have h3:¬ zd8 y v=0:=fun e=>h2 (by rw [zbJ e]; simp)
          omega
        refine ⟨⟨?_,fun p hp'=>?_⟩,fun k' v'=>?_⟩
        · refine ybf.2 ⟨k1,by simp,fun a ha b hb=>?_⟩
          obtain rfl:b=(key,vs ++ [v]):=by simpa using hb
          exact k3 a ha (key,vs) (by simp)
        · rcases yai.1 hp' with h1 | h1
          · exact h.vals p (yb1 _ h1)
          · obtain rfl:p=(key,vs ++ [v]):=by simpa using h1
            refine ⟨ybf.2 ⟨u1,by simp,fun a ha b hb=>?_⟩,by simp⟩
            obtain rfl:b=v:=by simpa using hb
            exact hlt a ha
        · constructor
          · rintro ⟨p,hp',e1,e2⟩
            rcases yai.1 hp' with h1 | h1
            · exact .inl ⟨p,yb1 _ h1,e1,e2⟩
            · obtain rfl:p=(key,vs ++ [v]):=by simpa using h1
              rcases yai.1 e2 with e2 | e2
              · exact .inl ⟨_,hp,e1,e2⟩
              · exact .inr ⟨e1.symm,by simpa using e2⟩
          · rintro (⟨p,hp',e1,e2⟩ | ⟨rfl,rfl⟩)
            · rcases yai.1 hp' with h1 | h1
              · exact ⟨p,yb1 _ h1,e1,e2⟩
              · obtain rfl:p=(key,vs):=by simpa using h1
                exact ⟨(key,vs ++ [v]),by simp,e1,yb1 _ e2⟩
            · exact ⟨(k',vs ++ [v']),by simp,rfl,by simp⟩
      · rw [znK hv]
        refine ⟨h,fun k' v'=>?_⟩
        constructor
        · exact .inl
        · rintro (h1 | ⟨rfl,rfl⟩)
          · exact h1
          · obtain ⟨y,hy,e⟩:=ybn.1 hv
            have e:v'=y:=by simpa using e
            exact ⟨_,hp,rfl,by rw [e]; exact hy⟩
    · rw [zkL hk]
      have hlast:zd8 key k < 0:=by
        obtain ⟨y,hy⟩:=List.exists_mem_of_ne_nil _ u2
        have:=hle _ hp y hy
        have h0:¬ zd8 key k=0:=fun e=>hk (zbJ e)
        rw [zmi,if_neg h0] at this
        simp only at this
        omega
      refine ⟨⟨?_,fun p hp'=>?_⟩,fun k' v'=>?_⟩
      · refine ybf.2 ⟨h.keys,by simp,fun a ha b hb=>?_⟩
        obtain rfl:b=(k,[v]):=by simpa using hb
        rcases yai.1 ha with h1 | h1
        · exact zce (k3 a h1 (key,vs) (by simp)) hlast
        · obtain rfl:a=(key,vs):=by simpa using h1
          exact hlast
      · rcases yai.1 hp' with h1 | h1
        · exact h.vals p h1
        · obtain rfl:p=(k,[v]):=by simpa using h1
          exact ⟨by simp [Up],by simp⟩
      · constructor
        · rintro ⟨p,hp',e1,e2⟩
          rcases yai.1 hp' with h1 | h1
          · exact .inl ⟨p,h1,e1,e2⟩
          · obtain rfl:p=(k,[v]):=by simpa using h1
            exact .inr ⟨e1.symm,by simpa using e2⟩
        · rintro (⟨p,hp',e1,e2⟩ | ⟨rfl,rfl⟩)
          · exact ⟨p,yb1 _ hp',e1,e2⟩
          · exact ⟨(k',[v']),by simp,rfl,by simp⟩
theorem zpi:∀ (n:Nat) (L:List (ByteArray × ByteArray)),L.length=n→(L.Pairwise fun x y=>¬ zmi y x < 0)→GoodM (zjL L)∧∀ k v,inM (zjL L) k v↔(k,v) ∈ L
 | 0,L,hn,_=>by
  obtain rfl:L = []:=ybs.1 hn
  exact ⟨⟨by simp [zjL],fun p hp=>by simp [zjL] at hp⟩,fun k v=>by simp [zjL,inM]⟩
 | n + 1,L,hn,hL=>by
  have hne:L ≠ []:=by intro e; rw [e] at hn; simp at hn
  obtain ⟨L0,x,rfl⟩:∃ L0 x,L=L0 ++ [x]:=⟨L.dropLast,L.getLast hne,(List.dropLast_concat_getLast hne).symm⟩
  obtain ⟨p1,-,p3⟩:=ybf.1 hL
  obtain ⟨g1,g2⟩:=zpi n L0 (by simpa using hn) p1
  obtain ⟨k,v⟩:=x
  have e:zjL (L0 ++ [(k,v)])=zmM (zjL L0) (k,v):=by rw [zjL,ybM]; rfl
  have hst:=zvo (k:=k) (v:=v) g1 (fun p hp y hy=>by
   have hm:(p.1,y) ∈ L0:=(g2 p.1 y).1 ⟨p,hp,rfl,hy⟩
   have:=p3 _ hm (k,v) (by simp)
   have h2:=zd9 (p.1,y) (k,v)
   omega)
  rw [e]
  refine ⟨hst.1,fun k' v'=>?_⟩
  rw [hst.2,g2,yai,List.mem_singleton,ybd]
theorem zvp (l:List Entry) (c:Int):GoodM (ziZ l c)∧∀ k v,inM (ziZ l c) k v↔∃ o ∈ ZP l c,o.k=k∧o.v=v:=by
 obtain ⟨h1,h2⟩:=zdg (ZP l c)
 obtain ⟨g1,g2⟩:=zpi _ ((zca (ZP l c)).map FOp.kv) rfl (yca.2 h2)
 refine ⟨g1,fun k v=>?_⟩
 rw [ziZ,g2,yaG]
 constructor
 ·
  rintro ⟨o,ho,e⟩
  simp only [FOp.kv,ybd] at e
  exact ⟨o,h1.mem_iff.1 ho,e⟩
 ·
  rintro ⟨o,ho,e⟩
  exact ⟨o,h1.mem_iff.2 ho,by simp only [FOp.kv,ybd]; exact e⟩
theorem ztq (l:List Entry) (c:Int):GoodM (zCs l c)∧∀ k v,inM (zCs l c) k v↔∃ i,i < l.length∧zqL l c k i=true∧ztl l c k i l.length=true∧v=(zdG (nth l i).t).2.2:=by
 have hup:=(ziw l.length (yag _)).1
 rw [ybF] at hup
 refine ⟨⟨?_,fun p hp=>?_⟩,fun k v=>?_⟩
 ·
  refine List.pairwise_filterMap.2 (hup.imp fun {a b} hab x hx y hy=>?_)
  unfold zmA at hx hy
  split at hx
  ·
   cases hx
  ·
   split at hy
   ·
    cases hy
   ·
    cases hx; cases hy; exact hab
 ·
  obtain ⟨k,-,hk⟩:=yb8.1 hp
  unfold zmA at hk
  split at hk
  ·
   cases hk
  ·
   rename_i hne
   cases hk
   exact ⟨(zit l c k l.length).1,hne⟩
 ·
  constructor
  ·
   rintro ⟨p,hp,rfl,hv⟩
   obtain ⟨k,-,hk⟩:=yb8.1 hp
   unfold zmA at hk
   split at hk
   ·
    cases hk
   ·
    cases hk
    exact zes.1 hv
  ·
   rintro ⟨i,h1,h2,h3,h4⟩
   have hv:v ∈ ztm l c k:=zes.2 ⟨i,h1,h2,h3,h4⟩
   have hne:ztm l c k ≠ []:=List.ne_nil_of_mem hv
   have hcr:=h2
   simp only [zqL,yat,decide_eq_true_eq] at hcr
   have hk:k ∈ zcP l:=by
    have:=(zgw (l:=l) (v:=k) (yag _)).2 ⟨i,h1,hcr.1,hcr.2.1.symm⟩
    rwa [ybF] at this
   exact ⟨(k,ztm l c k),yb8.2 ⟨k,hk,by rw [zmA,if_neg hne]⟩,rfl,hv⟩
theorem zEg {l:List Entry} {e:Entry}:e ∈ l↔∃ k,k < l.length∧nth l k=e:=by
 constructor
 ·
  intro h
  obtain ⟨k,hk,rfl⟩:=yaq h
  exact ⟨k,hk,zv _ _ hk⟩
 ·
  rintro ⟨k,hk,rfl⟩
  rw [zv _ _ hk]; exact yaw hk
theorem zk1 {l:List Entry} {c:Int} {o:FOp}:o ∈ zdj l c↔∃ i,i < l.length∧zan (nth l i).c c=true∧(zdG (nth l i).t).1≠0∧o=⟨(nth l i).id,(zdG (nth l i).t).2.1,(zdG (nth l i).t).2.2,decide ((zdG (nth l i).t).1=1)⟩:=by
 constructor
 ·
  intro h
  obtain ⟨e,he,hi,hm,hs⟩:=zoX h
  obtain ⟨i,hi',rfl⟩:=zEg.1 he
  unfold opE at hs
  split at hs
  ·
   cases hs
  ·
   rename_i hne; cases hs; exact ⟨i,hi',hm,hne,rfl⟩
 ·
  rintro ⟨i,hi,hm,hne,rfl⟩
  refine yb8.2 ⟨nth l i,ya1.2 ⟨zEg.2 ⟨i,hi,rfl⟩,hm⟩,?_⟩
  rw [opE,if_neg hne]
theorem zmB {l:List Entry} (h:LogOk l) {i n:Nat} (hi:i < l.length) (hn:n < l.length):zaG (z8 (zQ l) l (nth l n).id) (nth l i).id=nth (zao l n) i:=by
 rw [Z7,h.find hn,yaB,ybJ,zam,za1 h hn hi]
theorem zy6 {l:List Entry} {c:Int} (h:LogOk l):zCs l c=ziZ l c:=by
 obtain ⟨a1,a2⟩:=ztq l c
 obtain ⟨b1,b2⟩:=zvp l c
 refine zy5 a1 b1 fun k v=>?_
 rw [a2,b2]
 constructor
 ·
  rintro ⟨i,hi,hc,hs,rfl⟩
  simp only [zqL,yat,decide_eq_true_eq] at hc
  obtain ⟨c1,c2,c3⟩:=hc
  refine ⟨⟨(nth l i).id,(zdG (nth l i).t).2.1,(zdG (nth l i).t).2.2,decide ((zdG (nth l i).t).1=1)⟩,ya1.2 ⟨zk1.2 ⟨i,hi,c3,by omega,rfl⟩,?_⟩,c2,rfl⟩
  rw [zeK]
  simp only [c1,decide_true,ycg,yaQ,yaZ,yat,decide_eq_true_eq,not_and,ybt]
  intro y hy hyk
  obtain ⟨n,hn,m1,m2,rfl⟩:=zk1.1 hy
  rw [zmB h hi hn]
  have:=yar.1 hs n (yaW.2 hn)
  simp only at hyk
  have hb:zBm l c k i n=false:=by simpa using this
  cases hm:nth (zao l n) i
  ·
   rfl
  ·
   simp [zBm,m1,m2,hm,hyk,c2] at hb
 ·
  rintro ⟨o,ho,rfl,rfl⟩
  obtain ⟨ho,hsb⟩:=ya1.1 ho
  obtain ⟨i,hi,m1,m2,rfl⟩:=zk1.1 ho
  rw [zeK] at hsb
  simp only [yat,decide_eq_true_eq,yaQ,yaZ,not_and,ybt] at hsb
  obtain ⟨s1,s2⟩:=hsb
  refine ⟨i,hi,by simp [zqL,s1,m1],?_,rfl⟩
  refine yar.2 fun n hn=>?_
  have hn:=yaW.1 hn
  cases hb:zBm l c (zdG (nth l i).t).2.1 i n
  ·
   rfl
  ·
   exfalso
   simp only [zBm,yat,decide_eq_true_eq] at hb
   obtain ⟨d1,d2,d3,d4⟩:=hb
   have:=s2 _ (zk1.2 ⟨n,hn,d3,d1,rfl⟩) d2
   simp only at this
   rw [zmB h hi hn,d4] at this
   cases this
def zix:List Entry := [e0,e1,e2,e3]
theorem zqN:zJ zix=0:=by decide +kernel
theorem zvq:zCs zix 3 = [(⟨#[97]⟩,[⟨#[121]⟩]),(⟨#[98]⟩,[⟨#[122]⟩])]:=by decide +kernel
theorem zpj:ziZ zix 3 = [(⟨#[97]⟩,[⟨#[121]⟩]),(⟨#[98]⟩,[⟨#[122]⟩])]:=by rw [← zy6 (zaE.1 zqN),zvq]
theorem ziy:zg prog 22 [] [] (.bool true) []:=by
 have hme:zaT zix 3=0:=by decide +kernel
 have hge:zfO zix 3 ⟨#[97]⟩=0:=by decide +kernel
 have hml:zqw zix 3 = [(⟨#[97]⟩,[⟨#[121]⟩]),(⟨#[98]⟩,[⟨#[122]⟩])]:=by rw [zqw,if_pos hme,zpj]
 have hgl:zyH zix 3 ⟨#[97]⟩ = [⟨#[121]⟩]:=by rw [zyH,if_pos hge,zpj]; decide +kernel
 have ho1:zdG ⟨#[112,117,116,32,97,98,32,99,49]⟩=(1,⟨#[97,98]⟩,⟨#[99,49]⟩):=by decide +kernel
 have ho2:zdG ⟨#[112,117,116,32,97,98]⟩=(0,⟨#[]⟩,⟨#[]⟩):=by decide +kernel
 have m1:=zml zix 3 (by decide)
 have m2:=zsR zix 3 ⟨#[97]⟩ (by decide) (by decide)
 have m3:=zkE ⟨#[112,117,116,32,97,98,32,99,49]⟩ (by decide)
 have m4:=zkE ⟨#[112,117,116,32,97,98]⟩ (by decide)
 have m5:=zmz [⟨#[121]⟩] [⟨#[121]⟩] (by decide)
 rw [hme,hml] at m1
 rw [hge,hgl] at m2
 rw [ho1] at m3
 rw [ho2] at m4
 refine zg.of_walk func22 ntmps22 zzL.1 zzL.2 (by simp) fun x hx=>?_
 simp only [go_sem,L22,R22]
 refine zc (.pure ZE) ?_
 simp only [go_sem]
 refine zc (.pureE m1 (by simp [go_sem,zix])) ?_
 simp only [go_sem]
 refine zc (.pure ZE) ?_
 simp only [go_sem]
 refine zc (.pureE m2 (by simp [go_sem,zix])) ?_
 simp only [go_sem]
 refine zc (.pureE m3 (by simp [go_sem])) ?_
 simp only [go_sem,zqs]
 refine zc (.pureE m4 (by simp [go_sem])) ?_
 have hb:((⟨#[98]⟩:ByteArray)=⟨#[98]⟩)=True:=eq_self _
 simp only [go_sem,zab,Int.reduceLT,Int.reduceLE,Int.reduceToNat,Int.reduceAdd,frz,zqs,ZO,yaA,ya3,yax,yaS,decide_true,PV.isPure,ybN,ycc,Bool.and_self]
 refine zc (.scalarE m5 rfl (by simp [go_sem,zt,pos,zbY])) ?_
 simp only [go_sem,zab,Int.reduceLT,Int.reduceLE,Int.reduceToNat,Int.reduceAdd,frz,decide_true]
 refine zd hx ?_
 simp [go_sem,L22,R22]
theorem zy7 (e:Entry) (s:List UInt8):ziD e ++ s ≠ []:=by
 have:=zo9 e
 intro h
 have h2:=congrArg List.length h
 simp at h2
 rw [h2.1] at this
 simp at this
 omega
theorem ziz:∀ (l:List Entry) (s:List UInt8) (es:List Entry),(∀ e ∈ l,zm e=0)→es.length + l.length≤40→zcc (pkB l ++ s).length (pkB l ++ s) es=zcc s.length s (es ++ l)
 | [],s,es,_,_=>by simp [pkB]
 | e :: l,s,es,h,hl=>by
  have he:=h e ybZ
  have e1:pkB (e :: l) ++ s=ziD e ++ (pkB l ++ s):=by simp [pkB]
  have hd:=zqJ he (pkB l ++ s)
  rw [e1,zjP (m:=(ziD e).length) (zy7 e _) (by rw [hd]) (by simp only [yax] at hl; omega) (by rw [hd]),hd,List.drop_left]
  rw [ziz l s (es ++ [e]) (fun x hx=>h x (ybu _ hx)) (by simp only [yaR,yax,yaS] at hl ⊢; omega),ybb]
  rfl
theorem zpk {l:List Entry}:zik l=0↔l.length≤40∧∀ e ∈ l,zm e=0:=by
 unfold zik
 by_cases h:40 < l.length
 ·
  rw [if_pos h]; constructor
  ·
   intro h; cases h
  ·
   rintro ⟨h1,-⟩; omega
 ·
  rw [if_neg h,zai]
  constructor
  ·
   intro h2
   refine ⟨by omega,fun e he=>?_⟩
   obtain ⟨k,hk,rfl⟩:=zzq.1 he
   exact h2 k hk
  ·
   rintro ⟨-,h2⟩ k hk
   exact h2 _ (zjB hk)
theorem zvr {l:List Entry} (h:zik l=0):zcc (pkB l).length (pkB l) []=(l,0):=by
 obtain ⟨h1,h2⟩:=zpk.1 h
 have:=ziz l [] [] h2 (by simpa using h1)
 simpa [zcc] using this
def pbL:List Entry := [e0,e1,e2,e3]
theorem ztr:zik pbL=0:=by decide +kernel
theorem zts:(pkB pbL).length=53:=by decide +kernel
theorem zy8:zcc (pkB pbL ++ [0]).length (pkB pbL ++ [0]) []=([],1):=by
 obtain ⟨h1,h2⟩:=zpk.1 ztr
 rw [ziz pbL [0] [] h2 (by simpa using h1)]
 exact zmu (by simp) (by decide +kernel)
theorem zBn:zcx pbL 1 2=0:=by decide +kernel
theorem zy9:zil pbL 1 2 = [e2]:=by decide +kernel
theorem zgx:zg prog 23 [] [] (.bool true) []:=by
 have hent:zg prog 43 [] [] (.list (pbL.map cE)) []:=ZE
 have henc:=zi2 pbL (by decide)
 rw [ztr,if_pos rfl] at henc
 have hdec:=zcO (pkB pbL) (by rw [zts]; decide)
 rw [zvr ztr] at hdec
 have hdec2:=zcO (pkB pbL ++ [0]) (by rw [yaR,zts]; decide)
 rw [zy8] at hdec2
 have hmis:=zkT pbL 1 2 (by decide)
 rw [zBn,if_pos rfl,zy9] at hmis
 have hz:((pkB pbL).length + 1≤4611686018427387904)=True:=eq_true (by rw [zts]; decide)
 have hb0:(⟨#[0]⟩:ByteArray)=BA [0]:=rfl
 have hsl:((pbL.map cE).drop 2).take 1 = [e2].map cE:=rfl
 have hl4:pbL.length=4:=rfl
 have hrow:(∀ row ∈ List.map cE pbL,row.length=5)=True:=eq_true (zrL pbL)
 have hsame:=zdt pbL (by decide)
 have hsame2:=zdt [e2] (by decide)
 generalize pkB pbL=s at *
 refine zg.of_walk func23 ntmps23 zzM.1 zzM.2 (by simp) fun x hx=>?_
 simp only [go_sem,L23,R23]
 refine zc (.pure hent) ?_
 simp only [go_sem]
 refine zc (.pureE henc (by simp [go_sem])) ?_
 simp only [go_sem]
 refine zc (.pureE hdec (by simp [go_sem])) ?_
 simp only [go_sem,hb0,zvL,zcT,yax,yaS,hz]
 refine zc (.pureE hdec2 (by simp [go_sem])) ?_
 simp only [go_sem]
 refine zc (.pure hent) ?_
 simp only [go_sem]
 refine zc (.pureE hmis (by simp [go_sem])) ?_
 simp only [go_sem]
 refine zc (.pure hent) ?_
 simp only [go_sem]
 refine zc (.pureE hsame (by simp [go_sem])) ?_
 simp only [go_sem]
 refine zc (.pure hent) ?_
 simp only [go_sem,zab,Int.reduceLT,Int.reduceLE,Int.reduceToNat,Int.reduceAdd,frz,yah,hl4,hrow,Int.reduceSub,hsl]
 refine zc (.pureE hsame2 (by simp [go_sem])) ?_
 simp only [go_sem]
 refine zd hx ?_
 simp [go_sem,L23,R23]
def bsx:ByteArray:=⟨#[120]⟩
def ch1:Chain:=⟨0,false,0,[zC,⟨true,false,bsx⟩]⟩
def ch2:Chain:=⟨0,false,0,[⟨false,true,⟨#[]⟩⟩,⟨true,false,bsx⟩]⟩
def ch3:Chain := { ch2 with se:=true }
def ch4:Chain := { ch2 with ep:=1 }
def ch5:Chain:=⟨1,false,1,[⟨true,false,bsx⟩]⟩
theorem cb1:zaN zCh 0 1 ⟨true,false,bsx⟩ ziW=(ch1,0):=by decide +kernel
theorem cb2:(zaN ch1 0 1 ⟨true,false,⟨#[121]⟩⟩ ziW).2=6:=by decide +kernel
theorem cb3:zaN ch1 0 0 ⟨false,true,⟨#[]⟩⟩ zsu=(ch2,0):=by decide +kernel
theorem cb4:zdu ch2 1=(bsx,0):=by decide +kernel
theorem cb5:(zdu ch2 0).2=7:=by decide +kernel
theorem cb6:zh2 ch2 0=(ch3,0):=by decide +kernel
theorem cb7:(zaN ch3 0 2 ⟨true,false,⟨#[122]⟩⟩ ziW).2=4:=by decide +kernel
theorem cb8:zgj ch3=(ch4,0):=by decide +kernel
theorem cb9:zbn ch4 1=(ch5,0):=by decide +kernel
theorem zEm:zh1 ch5=(2,0):=by decide +kernel
theorem zEn:zK ch5=0:=by decide +kernel
theorem zg5:zg prog 25 [] [] (.bool true) []:=by
 refine zg.of_walk func25 ntmps25 zzO.1 zzO.2 (by simp) fun x hx=>?_
 simp only [go_sem,L25,R25]
 refine zc (.pureE (ze6 zCh 0 1 bsx (by decide)) (by simp [go_sem,cCh,zCh,bsx])) ?_
 simp only [go_sem,ZF,cb1,cCh]
 refine zc (.pure (ze6 ch1 0 1 ⟨#[121]⟩ (by decide))) ?_
 simp only [go_sem,ZF,cb2,cCh]
 refine zc (.pure (zqf ch1 0 0 (by decide))) ?_
 simp only [go_sem,ZF,cb3,cCh]
 refine zc (.pure (zjF ch2 1 (by decide))) ?_
 simp only [go_sem,cb4]
 refine zc (.pure (zjF ch2 0 (by decide))) ?_
 simp only [go_sem,cb5]
 refine zc (.pure (zqh ch2 0 (by decide))) ?_
 simp only [go_sem,ZF,cb6,cCh]
 refine zc (.pure (ze6 ch3 0 2 ⟨#[122]⟩ (by decide))) ?_
 simp only [go_sem,ZF,cb7,cCh]
 refine zc (.pure (zqi ch3 (by decide))) ?_
 simp only [go_sem,ZF,cb8,cCh]
 refine zc (.pure (zqj ch4 1 (by decide))) ?_
 simp only [go_sem,ZF,cb9,cCh]
 refine zc (.pure (zqg ch5 (by decide))) ?_
 simp only [go_sem,zEm]
 refine zc (.pure (Zw ch5 (by decide))) ?_
 have hbs:(bsx=(⟨#[120]⟩:ByteArray))=True:=eq_true rfl
 have h5:ch5.ep=1∧ch5.cut=1∧(ch5.cs.length:Int)=1∧ch4.ep=1:=⟨rfl,rfl,rfl,rfl⟩
 simp only [go_sem,zEn,hbs,h5.1,h5.2.1,h5.2.2.1,h5.2.2.2]
 refine zd hx ?_
 simp only [go_sem,L25,R25]
structure KS where
 a:Nat
 b:Nat
 c:Int
 ws:List Wt
 ds:List Int
def hK (s:KS):List AObj:=hSv s.a s.b s.c s.ws s.ds
def ziA (s:KS) (n:Int):KS:=if Zp s.c s.ws s.ds n=0 then ⟨s.a + 1,s.b,s.c + 1,s.ws.insertIdx (zel s.ws n) ⟨n,s.c + 1,false⟩,s.ds⟩ else s
def zn6 (s:KS) (n t:Int):KS :=
 if zdF s.ws n t≠0 then s else ⟨s.a + (s.ws.length - (za9 (zfH s.ws n t) s.ds).1.length),s.b + (s.ws.length - (za9 (zfH s.ws n t) s.ds).1.length),znz s.c t,(za9 (zfH s.ws n t) s.ds).1,(za9 (zfH s.ws n t) s.ds).2⟩
theorem zza (s:KS) (n t:Int):zgk s.a s.b s.c s.ws s.ds n t=hK (zn6 s n t):=by
 unfold zgk zn6 hK; split <;> rfl
theorem zmC (s : KS) (n t : Int) (hu : upW s.ws) (hc : ZI s.c 0 999 = true) (hwl : s.ws.length ≤ 8) (hdl : s.ds.length ≤ 30) :
    zg prog 160 [.ptr 0 0,.ptr 3 0,.ptr 4 0] (hK s ++ [.box [.int .i64 n],.box [.int .i64 t]]) (.int .i64 (Zp s.c s.ws s.ds n)) (hK (ziA s n) ++ [.box [.int .i64 n],.box [.int .i64 (znz t (ziA s n).c)]]):=by
  refine zg.of_walk func160 ntmps160 zwk.1 zwk.2 (by simp) fun x hx=>?_
  have hp:zg prog 121 [.ptr 0 0,.int .i64 n] (hK s) (.int .i64 (Zp s.c s.ws s.ds n)) (hK (ziA s n)):=by
    have:=zcv s.a s.b s.c s.ws s.ds n hu hc hwl hdl
    unfold ziA hK
    split
    · rename_i h; rw [if_pos h] at this; exact this
    · rename_i h; rw [if_neg h] at this; exact this
  generalize ziA s n=s' at hp ⊢
  simp only [go_sem,zBS,zBT,hK,hSv]
  refine zc (.heapE [0,1,2] (r' := .int .i64 (Zp s.c s.ws s.ds n)) (H':=hK s' ++ [.box [.int .i64 n],.box [.int .i64 t]]) hp (by simp) (by simp) (by simp [go_sem,pos]) rfl rfl rfl) ?_
  by_cases h:t < s'.c
  · simp only [go_sem,hK,hSv,h]
    repeat refine ⟨rfl,?_⟩
    refine zI [] (by simp) (by simp) (by simp [hx,hK,hSv]) ?_ ?_
    · simp [go_sem,zBS,zBT,hx,pos]
    · simp [ze,zf,hx,pos,go_sem,hK,hSv,yaa,znz,h]
  · simp only [go_sem,hK,hSv,h]
    repeat refine ⟨rfl,?_⟩
    refine zI [] (by simp) (by simp) (by simp [hx,hK,hSv]) ?_ ?_
    · simp [go_sem,zBS,zBT,hx,pos]
    · simp [ze,zf,hx,pos,go_sem,hK,hSv,yaa,znz,h]
theorem zmD (s : KS) (n t : Int) (hu : upW s.ws) (hwl : s.ws.length ≤ 9) (hdl : s.ds.length ≤ 30) :
    zg prog 161 [.ptr 0 0,.ptr 3 0,.ptr 4 0] (hK s ++ [.box [.int .i64 n],.box [.int .i64 t]]) (.int .i64 (zaq s.ws s.ds n t)) (hK (zn6 s n t) ++ [.box [.int .i64 n],.box [.int .i64 t]]):=by
  refine zg.of_walk func161 ntmps161 zwl.1 zwl.2 (by simp) fun x hx=>?_
  have hp:zg prog 122 [.ptr 0 0,.int .i64 n,.int .i64 t] (hK s) (.int .i64 (zaq s.ws s.ds n t)) (hK (zn6 s n t)):=by
    rw [← zza]; exact zcW s.a s.b s.c s.ws s.ds n t hu hwl hdl
  generalize zn6 s n t=s' at hp ⊢
  simp only [go_sem,zC0,zC1,hK,hSv]
  refine zc (.heapE [0,1,2] (r' := .int .i64 (zaq s.ws s.ds n t)) (H':=hK s' ++ [.box [.int .i64 n],.box [.int .i64 t]]) hp (by simp) (by simp) (by simp [go_sem,pos]) rfl rfl rfl) ?_
  simp only [go_sem,hK,hSv]
  refine zI [] (by simp) (by simp) (by simp [hx,hK,hSv]) ?_ ?_
  · simp [go_sem,zC0,zC1,hx,pos]
  · simp [ze,zf,hx,pos,go_sem,hK,hSv,yaa]
def zba (i:Nat) (s:KS):List AObj := [.box [.int .i64 s.c,.arr (i + 1) s.a,.arr (i + 2) s.b],.arr s.a true false 106 3 (s.ws.map cW),.arr s.b true false 3 1 (s.ds.map cN)]
def upd {α:Type} (T:Nat→α) (k:Nat) (s:α):Nat→α:=fun i=>if i=k then s else T i
theorem wr1:IntKind.i64.wrap 1=1:=by decide +kernel
theorem wr2:IntKind.i64.wrap 2=2:=by decide +kernel
theorem wr3:IntKind.i64.wrap 3=3:=by decide +kernel
theorem zet {b b':Bool} {A B:Bx} (h:b=b') (hk:@zpH (.bool b') A B):@zpH (.bool b) A B:=h ▸ hk
def hA (v:Nat) (n t:Int) (T:Nat→KS):List AObj := [.box [.int .i64 n],.box [.int .i64 t],.arr v true true 184 1 [[.ptr 3 0],[.ptr 6 0],[.ptr 9 0]]] ++ (zba 3 (T 0) ++ (zba 6 (T 1) ++ zba 9 (T 2)))
section
variable (E:KS→Int→Int) (N:KS→Int→KS) (U:KS→Int→Int) (bit:Nat→Bool)
def zn7:Nat→(Nat→KS)→Int→Int × (Nat→KS) × Int
 | 0,T,t=>(0,T,t)
 | m + 1,T,t=>if bit (2 - m)=false then zn7 m T t else if E (T (2 - m)) t≠0 then (E (T (2 - m)) t,upd T (2 - m) (N (T (2 - m)) t),U (T (2 - m)) t) else zn7 m (upd T (2 - m) (N (T (2 - m)) t)) (U (T (2 - m)) t)
end
theorem zn8 {c:Int} (h:ZI c 1 7=true):∀ k:Nat,k < 3→(decide (IntKind.i64.wrap (((BitVec.ofInt 64 (c.fdiv (2 ^ min (k:Int).toNat 64))) &&& (BitVec.ofInt 64 1)).toNat:Int)=0)) = !zgE c k:=by
 rw [zY] at h
 intro k hk
 have hc:c=1∨c=2∨c=3∨c=4∨c=5∨c=6∨c=7:=by omega
 have hk':k=0∨k=1∨k=2:=by omega
 rcases hk' with rfl | rfl | rfl <;> rcases hc with rfl | rfl | rfl | rfl | rfl | rfl | rfl <;> decide +kernel
theorem ziB (f : Nat) (hb : ZU prog f = true) (E : KS → Int → Int) (N : KS → Int → KS) (U : KS → Int → Int) (T : Nat → KS) (v : Nat) (n t c : Int) (hc : ZI c 1 7 = true)
    (hf:∀ k,k < 3→∀ t,zg prog f [.ptr 0 0,.ptr 3 0,.ptr 4 0] (hK (T k) ++ [.box [.int .i64 n],.box [.int .i64 t]]) (.int .i64 (E (T k) t)) (hK (N (T k) t) ++ [.box [.int .i64 n],.box [.int .i64 (U (T k) t)]])) :
    zg prog 159 [.arr 2 v,.int .i64 c,.clo f [.ptr 0 0,.ptr 1 0]] (hA v n t T) (.int .i64 (zn7 E N U (zgE c) 3 T t).1) (hA v n (zn7 E N U (zgE c) 3 T t).2.2 (zn7 E N U (zgE c) 3 T t).2.1):=by
  refine zg.of_walk func159 ntmps159 zwj.1 zwj.2 (by simp) fun x hx=>?_
  simp only [go_sem,zzm,zzn,hA,zba]
  refine zcm [1,2,10,11,12] (fun m st=>∃ (k:Nat) (T':Nat→KS) (t':Int),m + k=3∧(∀ j,k≤j→T' j=T j)∧zn7 E N U (zgE c) m T' t'=zn7 E N U (zgE c) 3 T t ∧
    st=⟨mkE .top [(1,.int .i64 c),(2,.clo f [.ptr 0 0,.ptr 1 0]),(10,.arr 2 v),(11,.int .i64 3),(12,.int .i64 k)],hA v n t' T'⟩) 3 ?_ ?_
  · refine ⟨0,T,t,rfl,fun _ _=>rfl,rfl,?_⟩
    simp [ZX,zaW,zbR,hA,zba]
  · rintro m st ⟨k,T',t',hmk,hTe,hrun,rfl⟩
    have hk:k=0∨k=1∨k=2∨k=3:=by omega
    rcases hk with rfl | rfl | rfl | rfl
    · skip
      have hk3:m=3 - 0:=by omega
      subst hk3
      have hbk:decide (IntKind.i64.wrap (((BitVec.ofInt 64 (c.fdiv (2 ^ min 0 64))) &&& (BitVec.ofInt 64 1)).toNat:Int)=0) = !zgE c 0:=zn8 hc 0 (by decide)
      have hTk:T' 0=T 0:=hTe 0 (by decide)
      have hrun':=hrun
      rw [show (3 - 0:Nat)=2 - 0 + 1 from rfl,zn7] at hrun'
      simp only [Nat.reduceSub] at hrun'
      cases hbit:zgE c 0
      · rw [hbit] at hbk
        rw [hbit,if_pos rfl] at hrun'
        simp only [go_sem,hA,zba,yaX,ybr,yao,Int.reduceLT,Int.reduceLE,Int.reduceToNat,Nat.reduceLT,yaD]
        refine zet hbk ?_
        simp only [go_sem]
        refine ⟨2 - 0,by decide,0 + 1,T',t',rfl,fun j hj=>hTe j (by omega),hrun',?_⟩
        simp [ZX,zaW,zbR,hA,zba,wr1,wr2,wr3]
      · rw [hbit] at hbk
        rw [hbit,if_neg (by decide),hTk] at hrun'
        simp only [go_sem,hA,zba,yaX,ybr,yao,Int.reduceLT,Int.reduceLE,Int.reduceToNat,Nat.reduceLT,yaD]
        refine zet hbk ?_
        simp only [go_sem]
        have hcall:=hf 0 (by decide) t'
        by_cases he:E (T 0) t'=0
        · rw [if_neg (by simp [he])] at hrun'
          rw [he] at hcall
          refine Zm rfl hb (.heapE [3,3 + 1,3 + 2,0,1] (r' := .int .i64 0) (H':=hA v n (U (T 0) t') (upd T' 0 (N (T 0) t'))) hcall (by simp) (by simp) (by simp [go_sem,pos]) (by simp [ze,zf,go_sem,pos,hK,hSv,hTk]) rfl rfl) ?_
          · simp only [go_sem,hA,zba]
            refine ⟨2 - 0,by decide,0 + 1,upd T' 0 (N (T 0) t'),U (T 0) t',rfl,fun j hj=>?_,hrun',?_⟩
            · rw [upd,if_neg (by omega)]; exact hTe j (by omega)
            · simp [ZX,zaW,zbR,hA,zba,wr1,wr2,wr3]
        · rw [if_pos he] at hrun'
          refine Zm rfl hb (.heapE [3,3 + 1,3 + 2,0,1] (r' := .int .i64 (E (T 0) t')) (H':=hA v n (U (T 0) t') (upd T' 0 (N (T 0) t'))) hcall (by simp) (by simp) (by simp [go_sem,pos]) (by simp [ze,zf,go_sem,pos,hK,hSv,hTk]) rfl rfl) ?_
          simp only [go_sem,hA,zba,he]
          rw [← hrun']
          refine zI [] (by simp) (by simp) (by simp [hx,hA,zba]) ?_ ?_
          · simp [go_sem,zzm,zzn,hx,pos]
          · simp [ze,zf,hx,pos,go_sem,hA,zba,yaa]
    · skip
      have hk3:m=3 - 1:=by omega
      subst hk3
      have hbk:decide (IntKind.i64.wrap (((BitVec.ofInt 64 (c.fdiv (2 ^ min 1 64))) &&& (BitVec.ofInt 64 1)).toNat:Int)=0) = !zgE c 1:=zn8 hc 1 (by decide)
      have hTk:T' 1=T 1:=hTe 1 (by decide)
      have hrun':=hrun
      rw [show (3 - 1:Nat)=2 - 1 + 1 from rfl,zn7] at hrun'
      simp only [Nat.reduceSub] at hrun'
      cases hbit:zgE c 1
      · rw [hbit] at hbk
        rw [hbit,if_pos rfl] at hrun'
        simp only [go_sem,hA,zba,yaX,ybr,yao,Int.reduceLT,Int.reduceLE,Int.reduceToNat,Nat.reduceLT,yaD]
        refine zet hbk ?_
        simp only [go_sem]
        refine ⟨2 - 1,by decide,1 + 1,T',t',rfl,fun j hj=>hTe j (by omega),hrun',?_⟩
        simp [ZX,zaW,zbR,hA,zba,wr1,wr2,wr3]
      · rw [hbit] at hbk
        rw [hbit,if_neg (by decide),hTk] at hrun'
        simp only [go_sem,hA,zba,yaX,ybr,yao,Int.reduceLT,Int.reduceLE,Int.reduceToNat,Nat.reduceLT,yaD]
        refine zet hbk ?_
        simp only [go_sem]
        have hcall:=hf 1 (by decide) t'
        by_cases he:E (T 1) t'=0
        · rw [if_neg (by simp [he])] at hrun'
          rw [he] at hcall
          refine Zm rfl hb (.heapE [6,6 + 1,6 + 2,0,1] (r' := .int .i64 0) (H':=hA v n (U (T 1) t') (upd T' 1 (N (T 1) t'))) hcall (by simp) (by simp) (by simp [go_sem,pos]) (by simp [ze,zf,go_sem,pos,hK,hSv,hTk]) rfl rfl) ?_
          · simp only [go_sem,hA,zba]
            refine ⟨2 - 1,by decide,1 + 1,upd T' 1 (N (T 1) t'),U (T 1) t',rfl,fun j hj=>?_,hrun',?_⟩
            · rw [upd,if_neg (by omega)]; exact hTe j (by omega)
            · simp [ZX,zaW,zbR,hA,zba,wr1,wr2,wr3]
        · rw [if_pos he] at hrun'
          refine Zm rfl hb (.heapE [6,6 + 1,6 + 2,0,1] (r' := .int .i64 (E (T 1) t')) (H':=hA v n (U (T 1) t') (upd T' 1 (N (T 1) t'))) hcall (by simp) (by simp) (by simp [go_sem,pos]) (by simp [ze,zf,go_sem,pos,hK,hSv,hTk]) rfl rfl) ?_
          simp only [go_sem,hA,zba,he]
          rw [← hrun']
          refine zI [] (by simp) (by simp) (by simp [hx,hA,zba]) ?_ ?_
          · simp [go_sem,zzm,zzn,hx,pos]
          · simp [ze,zf,hx,pos,go_sem,hA,zba,yaa]
    · skip
      have hk3:m=3 - 2:=by omega
      subst hk3
      have hbk:decide (IntKind.i64.wrap (((BitVec.ofInt 64 (c.fdiv (2 ^ min 2 64))) &&& (BitVec.ofInt 64 1)).toNat:Int)=0) = !zgE c 2:=zn8 hc 2 (by decide)
      have hTk:T' 2=T 2:=hTe 2 (by decide)
      have hrun':=hrun
      rw [show (3 - 2:Nat)=2 - 2 + 1 from rfl,zn7] at hrun'
      simp only [Nat.reduceSub] at hrun'
      cases hbit:zgE c 2
      · rw [hbit] at hbk
        rw [hbit,if_pos rfl] at hrun'
        simp only [go_sem,hA,zba,yaX,ybr,yao,Int.reduceLT,Int.reduceLE,Int.reduceToNat,Nat.reduceLT,yaD]
        refine zet hbk ?_
        simp only [go_sem]
        refine ⟨2 - 2,by decide,2 + 1,T',t',rfl,fun j hj=>hTe j (by omega),hrun',?_⟩
        simp [ZX,zaW,zbR,hA,zba,wr1,wr2,wr3]
      · rw [hbit] at hbk
        rw [hbit,if_neg (by decide),hTk] at hrun'
        simp only [go_sem,hA,zba,yaX,ybr,yao,Int.reduceLT,Int.reduceLE,Int.reduceToNat,Nat.reduceLT,yaD]
        refine zet hbk ?_
        simp only [go_sem]
        have hcall:=hf 2 (by decide) t'
        by_cases he:E (T 2) t'=0
        · rw [if_neg (by simp [he])] at hrun'
          rw [he] at hcall
          refine Zm rfl hb (.heapE [9,9 + 1,9 + 2,0,1] (r' := .int .i64 0) (H':=hA v n (U (T 2) t') (upd T' 2 (N (T 2) t'))) hcall (by simp) (by simp) (by simp [go_sem,pos]) (by simp [ze,zf,go_sem,pos,hK,hSv,hTk]) rfl rfl) ?_
          · simp only [go_sem,hA,zba]
            refine ⟨2 - 2,by decide,2 + 1,upd T' 2 (N (T 2) t'),U (T 2) t',rfl,fun j hj=>?_,hrun',?_⟩
            · rw [upd,if_neg (by omega)]; exact hTe j (by omega)
            · simp [ZX,zaW,zbR,hA,zba,wr1,wr2,wr3]
        · rw [if_pos he] at hrun'
          refine Zm rfl hb (.heapE [9,9 + 1,9 + 2,0,1] (r' := .int .i64 (E (T 2) t')) (H':=hA v n (U (T 2) t') (upd T' 2 (N (T 2) t'))) hcall (by simp) (by simp) (by simp [go_sem,pos]) (by simp [ze,zf,go_sem,pos,hK,hSv,hTk]) rfl rfl) ?_
          simp only [go_sem,hA,zba,he]
          rw [← hrun']
          refine zI [] (by simp) (by simp) (by simp [hx,hA,zba]) ?_ ?_
          · simp [go_sem,zzm,zzn,hx,pos]
          · simp [ze,zf,hx,pos,go_sem,hA,zba,yaa]
    · obtain rfl:m=0:=by omega
      simp only [go_sem,hA,zba,yaX,ybr,yao,Int.reduceLT,Int.lt_irrefl]
      rw [← hrun,zn7]
      refine zI [] (by simp) (by simp) (by simp [hx,hA,zba]) ?_ ?_
      · simp [go_sem,zzm,zzn,hx,pos]
      · simp [ze,zf,hx,pos,go_sem,hA,zba,yaa]
theorem zvs {l:List Wt} (hu:upW l) (n:Int):zel l n≤l.length∧(∀ k,k < zel l n→(nth l k).n < n)∧∀ k,zel l n≤k→k < l.length→¬ (nth l k).n < n:=by
 have key:∀ m,m≤l.length→∃ i,i≤m∧(∀ k,k < i→(nth l k).n < n)∧∀ k,i≤k→k < m→¬ (nth l k).n < n:=by
  intro m
  induction m with
  | zero=>intro _; exact ⟨0,yag _,fun k h=>by omega,fun k a b=>by omega⟩
  | succ m ih =>
   intro hm
   by_cases h:(nth l m).n < n
   ·
    refine ⟨m + 1,yag _,fun k hk=>?_,fun k a b=>by omega⟩
    by_cases e:k=m
    ·
     subst e; exact h
    ·
     have:=hu k m (by omega) (by omega); omega
   ·
    obtain ⟨i,h1,h2,h3⟩:=ih (by omega)
    refine ⟨i,by omega,h2,fun k a b=>?_⟩
    by_cases e:k=m
    ·
     subst e; exact h
    ·
     exact h3 k a (by omega)
 obtain ⟨i,h1,h2,h3⟩:=key l.length (yag _)
 have hp:=znx h1 h2 h3
 rw [hp]
 exact ⟨h1,h2,h3⟩
theorem zvt {l:List Wt} {n:Int} (hf:zbX l n=false):∀ j,j < l.length→(nth l j).n≠n:=fun j hj e=>by
 have:=yaZ.1 hf (nth l j) (zjB hj)
 simp [e] at this
theorem zn9 {l:List Wt} {i:Nat} (hi:i≤l.length) (w:Wt) {k:Nat} (hk:k < l.length + 1):nth (l.insertIdx i w) k=if k < i then nth l k else if k=i then w else nth l (k - 1):=by
 refine zyC ?_
 rw [List.getElem?_insertIdx]
 split
 ·
  exact zk _ _ (by omega)
 ·
  split
  ·
   rw [if_pos (by omega)]
  ·
   exact zk _ _ (by omega)
theorem zzb {l:List Wt} (hu:upW l) {w:Wt} (hf:zbX l w.n=false):upW (l.insertIdx (zel l w.n) w):=by
 obtain ⟨p1,p2,p3⟩:=zvs hu w.n
 have hn:=zvt hf
 intro a b hab hb
 rw [zny l w p1] at hb
 rw [zn9 p1 w (by omega),zn9 p1 w hb]
 generalize zel l w.n=p at *
 by_cases h1:a < p
 ·
  rw [if_pos h1]
  have a1:=p2 a h1
  by_cases h2:b < p
  ·
   rw [if_pos h2]; exact hu a b hab (by omega)
  ·
   rw [if_neg h2]
   by_cases h3:b=p
   ·
    rw [if_pos h3]; exact a1
   ·
    rw [if_neg h3]
    have:=p3 (b - 1) (by omega) (by omega); omega
 ·
  rw [if_neg h1]
  rw [if_neg (by omega:¬ b < p),if_neg (by omega:¬ b=p)]
  by_cases h3:a=p
  ·
   rw [if_pos h3]
   have:=p3 (b - 1) (by omega) (by omega)
   have:=hn (b - 1) (by omega); omega
  ·
   rw [if_neg h3]; exact hu _ _ (by omega) (by omega)
theorem zzc {l:List Wt} (hb:inW l) {w:Wt} {i:Nat} (hi:i≤l.length) (hw:1≤w.n∧w.n≤20∧1≤w.t∧w.t≤999):inW (l.insertIdx i w):=by
 intro k hk
 rw [zny l w hi] at hk
 rw [zn9 hi w hk]
 split
 ·
  exact hb k (by omega)
 ·
  split
  ·
   exact hw
  ·
   exact hb _ (by omega)
def rK (s:KS):List PV:=cSv s.c s.ws s.ds
def okK (s:KS):Prop:=Z9 s.c s.ws s.ds=0
theorem ztt {s:KS} (h:okK s):ZI s.c 0 999=true∧s.ws.length≤8∧s.ds.length≤30∧upW s.ws∧inW s.ws:=by
 obtain ⟨a,b,c,d,e,-⟩:=zfJ h
 exact ⟨a,b,c,e,zuW a d⟩
def zD4 (s:KS):Prop:=s.ws.length≤9∧s.ds.length≤30∧upW s.ws∧inW s.ws
theorem zqO {c:Int} {ws:List Wt} {ds:List Int} {n:Int} (h:Zp c ws ds n=0):ZI n 1 20=true∧zbX ws n=false∧(ds.any fun y=>decide (y=n))=false∧ws.length≠8∧c≠999:=by
 unfold Zp at h
 split at h
 ·
  cases h
 ·
  rename_i h1
  split at h
  ·
   cases h
  ·
   rename_i h2
   split at h
   ·
    cases h
   ·
    rename_i h3
    simp only [ybI,not_or,ybt] at h2
    exact ⟨by simpa using h1,h2.1,h2.2,by omega,by omega⟩
theorem zvu {s:KS} (h:okK s) (n:Int):zD4 (ziA s n):=by
 obtain ⟨a,b,c,d,e⟩:=ztt h
 unfold ziA
 split
 ·
  rename_i h0
  obtain ⟨q1,q2,-,q4,q5⟩:=zqO h0
  rw [zY] at a q1
  have hp:=zsz s.ws n
  exact ⟨by simp only [zny s.ws _ hp]; omega,c,zzb (w:=⟨n,s.c + 1,false⟩) d q2,zzc e hp (by simp only; omega)⟩
 ·
  exact ⟨by omega,c,d,e⟩
theorem zk2 {E : KS → Int → Int} {N : KS → Int → KS} {U : KS → Int → Int} {bit : Nat → Bool} {V : KS → Prop} {V' : KS → Prop} (h1 : ∀ s, V s → V' s) (h2 : ∀ s t, V s → V' (N s t)) :
    ∀ m (T:Nat→KS) (t:Int),m≤3→(∀ j,j < 3 - m→V' (T j))→(∀ j,3 - m≤j→j < 3→V (T j))→∀ j,j < 3→V' ((zn7 E N U bit m T t).2.1 j)
  | 0,T,t,_,ha,hb,j,hj=>ha j (by omega)
  | m + 1,T,t,hm,ha,hb,j,hj=>by
    have hVm:V (T (2 - m)):=hb _ (by omega) (by omega)
    have hup:∀ i,i < 3→i < 3 - m→V' (upd T (2 - m) (N (T (2 - m)) t) i):=fun i hi hi2=>by
      unfold upd
      split
      · exact h2 _ _ hVm
      · exact ha i (by omega)
    have hup2:∀ i,3 - m≤i→i < 3→V (upd T (2 - m) (N (T (2 - m)) t) i):=fun i hi hi2=>by
      unfold upd
      rw [if_neg (by omega)]
      exact hb i (by omega) hi2
    rw [zn7]
    split
    · refine zk2 h1 h2 m T t (by omega) (fun i hi=>?_) (fun i a b=>hb i (by omega) b) j hj
      by_cases e:i=2 - m
      · subst e; exact h1 _ hVm
      · exact ha i (by omega)
    · split
      · show V' (upd T (2 - m) (N (T (2 - m)) t) j)
        by_cases e:j < 3 - m
        · exact hup j hj e
        · exact h1 _ (hup2 j (by omega) hj)
      · exact zk2 h1 h2 m _ _ (by omega) (fun i hi=>hup i (by omega) hi) hup2 j hj
def zed (n c:Int) (T:Nat→KS):Int × (Nat→KS) × Int:=zn7 (fun s _=>Zp s.c s.ws s.ds n) (fun s _=>ziA s n) (fun s t=>znz t (ziA s n).c) (zgE c) 3 T 0
def zmE (n c:Int) (T:Nat→KS) (t:Int):Int × (Nat→KS) × Int:=zn7 (fun s t=>zaq s.ws s.ds n t) (fun s t=>zn6 s n t) (fun _ t=>t) (zgE c) 3 T t
def ztH (T:Nat→KS):Int:=if Z9 (T 0).c (T 0).ws (T 0).ds≠0 then Z9 (T 0).c (T 0).ws (T 0).ds else if Z9 (T 1).c (T 1).ws (T 1).ds≠0 then Z9 (T 1).c (T 1).ws (T 1).ds else Z9 (T 2).c (T 2).ws (T 2).ds
def zpl (n c:Int) (T:Nat→KS):Int :=
 if ztH T≠0 then ztH T else if ZI c 1 7=false then 3 else if (zed n c T).1≠0 then (zed n c T).1 else (zmE n c (zed n c T).2.1 (zed n c T).2.2).1
def zCt (n c:Int) (T:Nat→KS):Nat→KS:=(zmE n c (zed n c T).2.1 (zed n c T).2.2).2.1
def zdz (n c:Int) (T:Nat→KS):List (List PV):=if zpl n c T≠0 then [] else [rK (zCt n c T 0),rK (zCt n c T 1),rK (zCt n c T 2)]
theorem ztu {n c:Int} {T:Nat→KS} (h:∀ j,j < 3→okK (T j)):∀ j,j < 3→zD4 ((zed n c T).2.1 j) :=
 zk2 (V:=okK) (V':=zD4) (fun s hs=>by
  obtain ⟨-,a,b,c,d⟩:=ztt hs; exact ⟨by omega,b,c,d⟩) (fun s _ hs=>zvu hs n) 3 T 0 (yag _) (fun j hj=>by omega) (fun j _ hj=>h j hj)
theorem zcZ (s:KS) (hw:s.ws.length * 24≤140737488355328) (hd:s.ds.length * 8≤140737488355328):zg prog 92 [.agg (rK s)] [] (.int .i64 (Z9 s.c s.ws s.ds)) []:=zbo s.c s.ws s.ds (by omega) (by omega)
theorem zee (s:KS) (hw:s.ws.length * 24≤140737488355328) (hd:s.ds.length * 8≤140737488355328):zg prog 120 [.agg (rK s)] [] (.ptr 0 0) (hSv 1 1 s.c s.ws s.ds):=ze7 s.c s.ws s.ds hw hd
def zpm (s:KS):KS:=⟨1,1,s.c,s.ws,s.ds⟩
def stH (n:Int) (T:Nat→KS):Nat→List AObj
 | 0 => [.box [.int .i64 n],.arr 0 true true 184 1 []]
 | 1 => [.box [.int .i64 n],.arr 1 true true 184 1 [[.ptr 2 0]]] ++ zba 2 (zpm (T 0))
 | 2 => [.box [.int .i64 n],.arr 2 true true 184 1 [[.ptr 2 0],[.ptr 5 0]]] ++ (zba 2 (zpm (T 0)) ++ zba 5 (zpm (T 1)))
 | _ => [.box [.int .i64 n],.arr 3 true true 184 1 [[.ptr 2 0],[.ptr 5 0],[.ptr 8 0]]] ++ (zba 2 (zpm (T 0)) ++ (zba 5 (zpm (T 1)) ++ zba 8 (zpm (T 2))))
def hKs (i:Nat) (s:KS):List AObj := [.box [.int .i64 s.c,.arr (i + 1) s.a,.arr (i + 2) s.b],.arr s.a false false 106 3 (s.ws.map cW),.arr s.b false false 3 1 (s.ds.map cN)]
def zvv (n t:Int) (C:Nat→KS) (k:Nat):List AObj := [.box [.int .i64 n],.arr 3 true true 184 1 [[.ptr 2 0],[.ptr 5 0],[.ptr 8 0]]] ++ (hKs 2 (C 0) ++ (hKs 5 (C 1) ++ (hKs 8 (C 2) ++ [.box [.int .i64 t],.arr k true false 63 3 ([rK (C 0),rK (C 1),rK (C 2)].take k)])))
theorem zmF (T : Nat → KS) (n c : Int) (hwl : ∀ j, (T j).ws.length * 24 ≤ 140737488355328 ∧ (T j).ds.length * 8 ≤ 140737488355328) (hone : ∀ j, zpm (T j) = T j) :
    zg prog 91 [.list [rK (T 0),rK (T 1),rK (T 2)],.int .i64 n,.int .i64 c] [] (.tup [.list (zdz n c T),.int .i64 (zpl n c T)]) []:=by
  refine zg.of_walk func91 ntmps91 zAm.1 zAm.2 (by simp) fun x hx=>?_
  simp only [go_sem,L91,R91,zab,Int.reduceLT,Int.reduceLE,Int.reduceToNat,Int.reduceAdd,frz]
  refine zaM (ZR 8 0 184 1 true true rfl (by omega)) ?_
  rw [zc4]
  refine zfw (fun m st=>∃ k:Nat,m + k=3∧(∀ j,j < k→okK (T j)) ∧
    st=⟨mkE .top [(2,.int .i64 c),(4,.ptr 0 0),(8,.arr 1 k),(20,.list [rK (T 0),rK (T 1),rK (T 2)]),(21,.int .i64 3),(22,.int .i64 k)],stH n T k⟩) 3 ?_ ?_
  · refine ⟨_,Zk [2,4,8,20,21,22] [0,1] (by simp) (by simp) (by simp [hx]),0,rfl,fun j hj=>by omega,?_⟩
    simp [zad,go_sem,ze,zf,zn,zp,pos,stH]
  · rintro m st ⟨k,hmk,hok,rfl⟩
    have hk:k=0∨k=1∨k=2∨k=3:=by omega
    rcases hk with rfl | rfl | rfl | rfl
    · skip
      simp only [go_sem,rK,cSv,stH,zba,zab,Int.reduceLT,Int.reduceLE,Int.reduceToNat,Int.reduceAdd,frz]
      refine zc (.pureE (zcZ (T 0) (hwl 0).1 (hwl 0).2) (by simp [go_sem,rK,cSv])) ?_
      by_cases h0:Z9 (T 0).c (T 0).ws (T 0).ds=0
      · simp only [go_sem,h0,cSv,zab,Int.reduceLT,Int.reduceLE,Int.reduceToNat,Int.reduceAdd,frz]
        refine zc (.heapE [] (r' := .ptr (3 + 3 * 0) 0) (H':=stH n T 0 ++ [.box (rK (T 0))] ++ zba (3 + 3 * 0) (zpm (T 0))) (zee (T 0) (hwl 0).1 (hwl 0).2) (by simp) (by simp) (by simp [go_sem,rK,cSv]) rfl rfl rfl) ?_
        simp only [go_sem,stH,zba,rK,cSv]
        rw [zdm rfl rfl (by simp) (by simp)]
        simp only [go_sem,zab,Int.reduceLT,Int.reduceLE,Int.reduceToNat,Int.reduceAdd,frz,wr1,wr2,wr3]
        refine ⟨2 - 0,_,by omega,Zk [2,4,8,20,21,22] [0,1,3,4,5] (by simp) (by simp) (by simp [hx]),0 + 1,by omega,fun j hj=>?_,?_⟩
        · by_cases e:j=0
          · subst e; exact h0
          · exact hok j (by omega)
        · simp [zad,go_sem,ze,zf,zn,zp,pos,stH,zba,rK,cSv,zpm]
      · have e:ztH T=Z9 (T 0).c (T 0).ws (T 0).ds:=by
          unfold ztH
          rw [if_pos h0]
        have e2:zpl n c T=Z9 (T 0).c (T 0).ws (T 0).ds:=by rw [zpl,if_pos (by rw [e]; exact h0),e]
        simp only [go_sem,h0]
        refine zd hx ?_
        simp [go_sem,L91,R91,zdz,e2,h0]
    · skip
      simp only [go_sem,rK,cSv,stH,zba,zab,Int.reduceLT,Int.reduceLE,Int.reduceToNat,Int.reduceAdd,frz]
      refine zc (.pureE (zcZ (T 1) (hwl 1).1 (hwl 1).2) (by simp [go_sem,rK,cSv])) ?_
      by_cases h0:Z9 (T 1).c (T 1).ws (T 1).ds=0
      · simp only [go_sem,h0,cSv,zab,Int.reduceLT,Int.reduceLE,Int.reduceToNat,Int.reduceAdd,frz]
        refine zc (.heapE [] (r' := .ptr (3 + 3 * 1) 0) (H':=stH n T 1 ++ [.box (rK (T 1))] ++ zba (3 + 3 * 1) (zpm (T 1))) (zee (T 1) (hwl 1).1 (hwl 1).2) (by simp) (by simp) (by simp [go_sem,rK,cSv]) rfl rfl rfl) ?_
        simp only [go_sem,stH,zba,rK,cSv]
        rw [zdm rfl rfl (by simp) (by simp)]
        simp only [go_sem,zab,Int.reduceLT,Int.reduceLE,Int.reduceToNat,Int.reduceAdd,frz,wr1,wr2,wr3]
        refine ⟨2 - 1,_,by omega,Zk [2,4,8,20,21,22] [0,1,2,3,4,6,7,8] (by simp) (by simp) (by simp [hx]),1 + 1,by omega,fun j hj=>?_,?_⟩
        · by_cases e:j=1
          · subst e; exact h0
          · exact hok j (by omega)
        · simp [zad,go_sem,ze,zf,zn,zp,pos,stH,zba,rK,cSv,zpm]
      · have e:ztH T=Z9 (T 1).c (T 1).ws (T 1).ds:=by
          unfold ztH
          rw [if_neg (by have:=hok 0 (by decide); simp [okK] at this; simp [this]),if_pos h0]
        have e2:zpl n c T=Z9 (T 1).c (T 1).ws (T 1).ds:=by rw [zpl,if_pos (by rw [e]; exact h0),e]
        simp only [go_sem,h0]
        refine zd hx ?_
        simp [go_sem,L91,R91,zdz,e2,h0]
    · skip
      simp only [go_sem,rK,cSv,stH,zba,zab,Int.reduceLT,Int.reduceLE,Int.reduceToNat,Int.reduceAdd,frz]
      refine zc (.pureE (zcZ (T 2) (hwl 2).1 (hwl 2).2) (by simp [go_sem,rK,cSv])) ?_
      by_cases h0:Z9 (T 2).c (T 2).ws (T 2).ds=0
      · simp only [go_sem,h0,cSv,zab,Int.reduceLT,Int.reduceLE,Int.reduceToNat,Int.reduceAdd,frz]
        refine zc (.heapE [] (r' := .ptr (3 + 3 * 2) 0) (H':=stH n T 2 ++ [.box (rK (T 2))] ++ zba (3 + 3 * 2) (zpm (T 2))) (zee (T 2) (hwl 2).1 (hwl 2).2) (by simp) (by simp) (by simp [go_sem,rK,cSv]) rfl rfl rfl) ?_
        simp only [go_sem,stH,zba,rK,cSv]
        rw [zdm rfl rfl (by simp) (by simp)]
        simp only [go_sem,zab,Int.reduceLT,Int.reduceLE,Int.reduceToNat,Int.reduceAdd,frz,wr1,wr2,wr3]
        refine ⟨2 - 2,_,by omega,Zk [2,4,8,20,21,22] [0,1,2,3,4,5,6,7,9,10,11] (by simp) (by simp) (by simp [hx]),2 + 1,by omega,fun j hj=>?_,?_⟩
        · by_cases e:j=2
          · subst e; exact h0
          · exact hok j (by omega)
        · simp [zad,go_sem,ze,zf,zn,zp,pos,stH,zba,rK,cSv,zpm]
      · have e:ztH T=Z9 (T 2).c (T 2).ws (T 2).ds:=by
          unfold ztH
          rw [if_neg (by have:=hok 0 (by decide); simp [okK] at this; simp [this]),if_neg (by have:=hok 1 (by decide); simp [okK] at this; simp [this])]
        have e2:zpl n c T=Z9 (T 2).c (T 2).ws (T 2).ds:=by rw [zpl,if_pos (by rw [e]; exact h0),e]
        simp only [go_sem,h0]
        refine zd hx ?_
        simp [go_sem,L91,R91,zdz,e2,h0]
    · have h0:ztH T=0:=by
        have a:=hok 0 (by decide)
        have b:=hok 1 (by decide)
        have d:=hok 2 (by decide)
        simp only [okK] at a b d
        rw [ztH,if_neg (by simp [a]),if_neg (by simp [b])]; exact d
      simp only [go_sem,zab,Int.reduceLT,Int.reduceLE,Int.reduceToNat,Int.reduceAdd,frz]
      refine zc (.pureE (zaB c) (by simp [go_sem])) ?_
      cases hcol:ZI c 1 7
      · have e2:zpl n c T=3:=by rw [zpl,if_neg (by simp [h0]),if_pos hcol]
        simp only [go_sem]
        refine zd hx ?_
        simp [go_sem,L91,R91,zdz,e2]
      · have hP:zg prog 159 [.arr 2 3,.int .i64 c,.clo 160 [.ptr 0 0,.ptr 1 0]] (hA 3 n 0 T) (.int .i64 (zed n c T).1) (hA 3 n (zed n c T).2.2 (zed n c T).2.1) :=
          ziB 160 (by kernel_rfl) (fun s _=>Zp s.c s.ws s.ds n) (fun s _=>ziA s n) (fun s t=>znz t (ziA s n).c) T 3 n 0 c hcol fun k hk t=>by
            obtain ⟨o1,o2,o3,o4,-⟩:=ztt (hok k hk)
            exact zmC (T k) n t o4 o1 o2 o3
        have hfit:=fun j hj=>ztu (n:=n) (c:=c) hok j hj
        have eE:zpl n c T=if (zed n c T).1≠0 then (zed n c T).1 else (zmE n c (zed n c T).2.1 (zed n c T).2.2).1:=by rw [zpl,if_neg (by simp [h0]),if_neg (by simp [hcol])]
        have eT:zCt n c T=(zmE n c (zed n c T).2.1 (zed n c T).2.2).2.1:=rfl
        obtain ⟨⟨e1,P,t1⟩,hp⟩:∃ p,zed n c T=p:=⟨_,rfl⟩
        rw [hp] at hP hfit eE eT
        simp only at hP hfit eE eT
        simp only [go_sem,stH,zba,hone,zab,Int.reduceLT,Int.reduceLE,Int.reduceToNat,Int.reduceAdd,frz]
        refine zc (.heapE [0,11,1,2,3,4,5,6,7,8,9,10] (r' := .int .i64 e1) (H' := [.box [.int .i64 n],.arr 3 true true 184 1 [[.ptr 2 0],[.ptr 5 0],[.ptr 8 0]]] ++ (zba 2 (P 0) ++ (zba 5 (P 1) ++ (zba 8 (P 2) ++ [.box [.int .i64 t1]])))) hP (by decide) (by simp) (by simp [go_sem,pos]) rfl rfl rfl) ?_
        by_cases h1:e1=0
        · have hC:zg prog 159 [.arr 2 3,.int .i64 c,.clo 161 [.ptr 0 0,.ptr 1 0]] (hA 3 n t1 P) (.int .i64 (zmE n c P t1).1) (hA 3 n (zmE n c P t1).2.2 (zmE n c P t1).2.1) :=
            ziB 161 (by kernel_rfl) (fun s t=>zaq s.ws s.ds n t) (fun s t=>zn6 s n t) (fun _ t=>t) P 3 n t1 c hcol fun k hk t=>by
              obtain ⟨o2,o3,o4,-⟩:=hfit k hk
              exact zmD (P k) n t o4 o2 o3
          rw [if_neg (by simp [h1])] at eE
          obtain ⟨⟨e2,C,t2⟩,hc2⟩:∃ p,zmE n c P t1=p:=⟨_,rfl⟩
          rw [hc2] at hC eE eT
          simp only at hC eE eT
          simp only [go_sem,zba,zab,Int.reduceLT,Int.reduceLE,Int.reduceToNat,Int.reduceAdd,frz,h1]
          refine zc (.heapE [0,11,1,2,3,4,5,6,7,8,9,10] (r' := .int .i64 e2) (H' := [.box [.int .i64 n],.arr 3 true true 184 1 [[.ptr 2 0],[.ptr 5 0],[.ptr 8 0]]] ++ (zba 2 (C 0) ++ (zba 5 (C 1) ++ (zba 8 (C 2) ++ [.box [.int .i64 t2]])))) hC (by decide) (by simp) (by simp [go_sem,pos]) rfl rfl rfl) ?_
          by_cases h2:e2=0
          · simp only [go_sem,zba,zab,Int.reduceLT,Int.reduceLE,Int.reduceToNat,Int.reduceAdd,frz,h2]
            refine zaM (ZW 3 rfl) ?_
            refine zaM (ZW 4 rfl) ?_
            refine zaM (ZW 6 rfl) ?_
            refine zaM (ZW 7 rfl) ?_
            refine zaM (ZW 9 rfl) ?_
            refine zaM (ZW 10 rfl) ?_
            refine zaM (ZR 14 0 63 3 true false rfl (by omega)) ?_
            simp only [go_sem]
            refine zcm [14,53,54,55] (fun m st=>∃ k:Nat,m + k=3 ∧
              st=⟨mkE .top [(14,.arr 12 k),(53,.arr 1 3),(54,.int .i64 3),(55,.int .i64 k)],zvv n t2 C k⟩) 3 ?_ ?_
            · refine ⟨0,rfl,?_⟩
              simp [ZX,zaW,zbR,zvv,hKs]
            · rintro m st ⟨k,hmk,rfl⟩
              have hk:k=0∨k=1∨k=2∨k=3:=by omega
              rcases hk with rfl | rfl | rfl | rfl
              · skip
                simp only [go_sem,zvv,hKs,zab,Int.reduceLT,Int.reduceLE,Int.reduceToNat,Int.reduceAdd,frz]
                rw [zhb rfl rfl (by simp) (by simp [go_sem,frz,PV.isPure]) (by simp)]
                simp only [go_sem,zab,Int.reduceLT,Int.reduceLE,Int.reduceToNat,Int.reduceAdd,frz,wr1,wr2,wr3]
                refine ⟨2 - 0,by omega,0 + 1,by omega,?_⟩
                simp [ZX,zaW,zbR,zvv,hKs,frz,rK,cSv]
              · skip
                simp only [go_sem,zvv,hKs,zab,Int.reduceLT,Int.reduceLE,Int.reduceToNat,Int.reduceAdd,frz]
                rw [zhb rfl rfl (by simp) (by simp [go_sem,frz,PV.isPure]) (by simp)]
                simp only [go_sem,zab,Int.reduceLT,Int.reduceLE,Int.reduceToNat,Int.reduceAdd,frz,wr1,wr2,wr3]
                refine ⟨2 - 1,by omega,1 + 1,by omega,?_⟩
                simp [ZX,zaW,zbR,zvv,hKs,frz,rK,cSv]
              · skip
                simp only [go_sem,zvv,hKs,zab,Int.reduceLT,Int.reduceLE,Int.reduceToNat,Int.reduceAdd,frz]
                rw [zhb rfl rfl (by simp) (by simp [go_sem,frz,PV.isPure]) (by simp)]
                simp only [go_sem,zab,Int.reduceLT,Int.reduceLE,Int.reduceToNat,Int.reduceAdd,frz,wr1,wr2,wr3]
                refine ⟨2 - 2,by omega,2 + 1,by omega,?_⟩
                simp [ZX,zaW,zbR,zvv,hKs,frz,rK,cSv]
              · simp only [go_sem,zvv,hKs,zab,Int.reduceLT,Int.reduceLE,Int.reduceToNat,Int.reduceAdd,frz]
                refine zd hx ?_
                simp [go_sem,L91,R91,zdz,eE,eT,h2,pos,zt]
          · rw [h1] at *
            have e3:zpl n c T≠0:=by rw [eE]; exact h2
            simp only [go_sem,zba,h2]
            refine zd hx ?_
            simp [go_sem,L91,R91,zdz,eE,h2]
        · rw [if_pos h1] at eE
          simp only [go_sem,zba,h1]
          refine zd hx ?_
          simp [go_sem,L91,R91,zdz,eE,h1]
theorem zg.nla {P:Program} {f:Nat} {args args':List PV} {Hs Hs':List AObj} {r:PV} (n:Nat) (h:zg P f args' Hs r Hs') (he:args.map (nlN n)=args'):zg P f args Hs r Hs':=by
 intro x vs hx h0 hp
 refine h x vs hx h0 ?_
 subst he
 refine ⟨by simpa using hp.1,fun j p v hj hv=>?_⟩
 obtain ⟨q,h4,rfl⟩:=zO hj
 exact zuf n (hp.2 j q v h4 hv)
def sbT:Nat→KS:=fun j=>⟨1,1,if j=0 then 3 else if j=1 then 0 else 1,[],[]⟩
theorem zg6:zg prog 26 [] [] (.bool true) []:=by
 have e1:zgl 4 [] [] 7=0:=by decide +kernel
 have r1:zdJ 4 [] [] 7=(5,[⟨7,5,false⟩],[]):=by decide +kernel
 have e2:zgm 5 [⟨7,5,false⟩] [] 7 9=0:=by decide +kernel
 have r2:zeB 5 [⟨7,5,false⟩] [] 7 9=(9,[],[7]):=by decide +kernel
 have e3:zpl 2 5 sbT=0:=by decide +kernel
 have r3:zdz 2 5 sbT = [cSv 4 [] [2],cSv 0 [] [],cSv 4 [] [2]]:=by kernel_rfl
 have e4:Z9 5 [⟨7,5,false⟩] []=0:=by decide +kernel
 have hall:=zmF sbT 2 5 (fun j=>by simp [sbT]) (fun j=>rfl)
 rw [e3,r3] at hall
 refine zg.of_walk func26 ntmps26 zzP.1 zzP.2 (by simp) fun x hx=>?_
 simp only [go_sem,L26,R26]
 refine zc (.pureE (zg0 4 [] [] 7 (by simp) (by simp)) (by simp [go_sem,cSv])) ?_
 rw [e1,r1]
 simp only [go_sem,zaI,cSv]
 refine zc (.pureE (zh7 5 [⟨7,5,false⟩] [] 7 9 (by simp) (by simp)) (by simp [go_sem,cSv])) ?_
 rw [e2,r2]
 simp only [go_sem,zaI,cSv]
 refine zc (.pureE (hall.nla (args := [.list [[.int .i64 3,.nilsl,.nilsl],[.int .i64 0,.nilsl,.nilsl],[.int .i64 1,.nilsl,.nilsl]],.int .i64 2,.int .i64 5]) 3 rfl) (by simp [go_sem])) ?_
 simp only [go_sem,cSv]
 refine zc (.pureE (zbo 5 [⟨7,5,false⟩] [] (by simp) (by simp)) (by simp [go_sem,cSv])) ?_
 rw [e4]
 simp only [go_sem,cSv,zab,Int.reduceLT,Int.reduceLE,Int.reduceToNat,Int.reduceAdd,frz]
 refine zd hx ?_
 simp [go_sem,L26,R26]
theorem zmG:zfp e2 = [0,2,3,1,0,1,6,100,114,111,112,32,97]∧zm e2=0:=by decide +kernel
def bt1:List UInt8 := [0,2,3,1,0,1,6,100,114,111,112,32,97,122]
theorem zvw:Zj bt1=(e2,13,0):=by with_unfolding_all rfl
theorem zvx:(Zj [0,1,1]).2.2=5:=by decide +kernel
theorem zvy:(Zj [2]).2.2=1:=by decide +kernel
theorem zvz:zm e3=0:=by decide +kernel
theorem zzd:Zi ⟨0,2⟩ ⟨1,1⟩=true:=by decide +kernel
theorem zze:zkg e2 e2=true:=by simp [zkg]
theorem zg7:zg prog 27 [] [] (.bool true) []:=by
 refine zg.of_walk func27 ntmps27 zzQ.1 zzQ.2 (by simp) fun x hx=>?_
 simp only [go_sem,L27,R27]
 refine zc (.pure ZE) ?_
 simp only [go_sem,Int.reduceLT,Int.reduceLE,Int.reduceToNat,yao,e2,cE]
 refine zc (.pure (zgM e2 (by decide +kernel))) ?_
 have hb:BA [0,2,3,1,0,1,6,100,114,111,112,32,97] ++ (⟨#[122]⟩:ByteArray)=BA bt1:=rfl
 simp only [go_sem,zmG.1,zmG.2,hb,zcT,yb9]
 refine zc (.pure (zbL bt1 (by decide +kernel))) ?_
 simp only [go_sem,zvw,cE,e2]
 refine zc (.pure (zbL [0,1,1] (by decide +kernel))) ?_
 simp only [go_sem,zvx,cE]
 refine zc (.pure (zbL [2] (by decide +kernel))) ?_
 simp only [go_sem,zvy,cE]
 refine zc (.pure ZE) ?_
 simp only [go_sem,Int.reduceLT,Int.reduceLE,Int.reduceToNat,yao,cE]
 refine zc (.pure (ze0 e3)) ?_
 simp only [go_sem,zvz]
 refine zc (.pure (Zx _ _)) ?_
 simp only [go_sem]
 refine zc (.pure (Zx _ _)) ?_
 simp only [go_sem]
 refine zc (.pure (zjn ⟨0,2⟩ ⟨1,1⟩)) ?_
 have hsz:((13:Int)=((BA [0,2,3,1,0,1,6,100,114,111,112,32,97]).size:Nat))=True:=by simp [zcT]
 have hbs:(BA [0,2,3,1,0,1,6,100,114,111,112,32,97]=(⟨#[0,2,3,1,0,1,6,100,114,111,112,32,97]⟩:ByteArray))=True:=eq_true rfl
 simp only [go_sem,zzd,hsz,hbs]
 refine zc (.pure ZE) ?_
 simp only [go_sem,Int.reduceLT,Int.reduceLE,Int.reduceToNat,yao,e2,cE]
 refine zc (.pure (zdW e2 e2)) ?_
 simp only [go_sem,zze]
 refine zd hx ?_
 simp only [go_sem,L27,R27]
theorem zi6 (l : List Entry) (c : Int) (ids : List Id) (ch : Chain) (s : Sv3) (hl : l.length * 64 ≤ 140737488355328) (hf : ∀ e ∈ l, e.ls.length * 16 ≤ 140737488355328) (hi : ids.length * 16 ≤ 140737488355328)
    (hc:ch.cs.length * 24≤140737488355328) (hw:s.2.1.length * 24≤140737488355328) (hd:s.2.2.length * 8≤140737488355328) :
    zg prog 4 [.list (l.map cE),.int .i64 c,.list (ids.map cId),.agg (cCh ch),.agg (zaI s)] [] (.bool true) []:=by
  refine zg.of_newL func4 ntmps4 zEa.1 zEa.2 (by simp) (by simp [zoM,cCh,zaI,cSv,PV.isPure]) fun x hx hxo=>?_
  simp only [LC.flat,L4,R4,yau,yas,cCh,zaI,cSv]
  refine zhA 11 [0,1,2,8,9,11,12,13,14,15,16] 8 (fun st=>st=⟨mkE .top [(0,.list (l.map cE)),(1,.int .i64 c),(2,.list (ids.map cId)),(8,.ptr 0 0),(9,.ptr 1 0),(11,.list (l.map cE)),(12,.list (ids.map cId)),(13,.aptr 2 1 4 0 0),(14,.aptr 3 1 3 0 0),(15,.int .i64 (zx l c ids)),(16,.list ((Zo l c ids).map cId))],rlH ch s 1 1⟩) (by simp [hx]) (by simp) ?_ ?_
  · simp only [ybk,List.take_zero]
    simp only [go_sem]
    refine zc (.pureE ziS (by simp [go_sem])) ?_
    simp only [go_sem]
    refine zc (.pureE zg4 (by simp [go_sem])) ?_
    simp only [go_sem]
    refine zc (.pureE ziy (by simp [go_sem])) ?_
    simp only [go_sem]
    refine zc (.pureE zgx (by simp [go_sem])) ?_
    simp only [go_sem]
    refine zc (.pureE zgv (by simp [go_sem])) ?_
    simp only [go_sem]
    refine zc (.pureE zg5 (by simp [go_sem])) ?_
    simp only [go_sem]
    refine zc (.pureE zg6 (by simp [go_sem])) ?_
    simp only [go_sem]
    refine zc (.pureE zg7 (by simp [go_sem])) ?_
    simp only [go_sem]
    refine zc (.pureE (zhJ l hl hf) (by simp [go_sem])) ?_
    simp only [go_sem]
    rw [Zf rfl rfl (by simp [cId]) (by simp; omega)]
    simp only [go_sem,true_or]
    repeat refine ⟨rfl,?_⟩
    try simp only [go_sem,true_or]
    rw [Zf rfl rfl (by simp [cC]) (by simp; omega)]
    simp only [go_sem,true_or]
    rw [Zf rfl rfl (by simp [cW]) (by simp; omega)]
    simp only [go_sem,true_or]
    rw [Zf rfl rfl (by simp [cN]) (by simp; omega)]
    simp only [go_sem,true_or]
    repeat refine ⟨rfl,?_⟩
    try simp only [go_sem,true_or]
    refine zc (.pureE (zgX l c ids (by omega) (by omega)) (by simp [go_sem])) ?_
    by_cases h0:zx l c ids=0
    · obtain ⟨g0,g1,g2,-,-⟩:=zds h0
      have hok:=zaE.1 g0
      have:=zcJ hok g1
      have em:Zo l c ids=zf1 l c ids:=by rw [Zo,if_pos h0]
      rw [em,h0]
      simp only [go_sem]
      refine zc (.pureE (zlV l c ids hok g2 (by omega)) (by simp [go_sem])) ?_
      simp only [go_sem]
      rw [zcl]
      refine ⟨by simp,_,?_,rfl⟩
      refine za3.trans (Zk [0,1,2,8,9,11,12,13,14,15,16] [0,1,3,4] (by simp) (by simp [St.trim,ze]) (by simp [hx])) (zfB ?_ (za3.refl _ _ _))
      simp [zh,zad,go_sem,ze,zf,zn,zp,pos,yaa,rlH,cCh,zaI,cSv,zt]
    · have em:Zo l c ids = []:=by rw [Zo,if_neg h0]
      rw [em]
      simp only [go_sem,h0]
      rw [zcl]
      refine ⟨by simp,_,?_,rfl⟩
      refine zfB (st1:=⟨mkE .top [(0,.list (l.map cE)),(1,.int .i64 c),(2,.list (ids.map cId)),(8,.ptr 0 0),(9,.ptr 1 0),(11,.list (l.map cE)),(12,.arr 2 1),(13,.aptr 3 1 4 0 0),(14,.aptr 4 1 3 0 0),(15,.int .i64 (zx l c ids)),(16,.nilsl)],
        [.box (cCh ch),.box (zaI s),.arr 1 true false 29 2 (ids.map cId),.arr 1 true true 59 4 [[.int .i64 ch.ep,.bool ch.se,.int .i64 ch.cut,.arr 5 1]],.arr 1 true true 63 3 [[.int .i64 s.1,.arr 6 2,.arr 7 2]],
          .arr 1 true false 104 3 (ch.cs.map cC),.arr 2 true false 106 3 (s.2.1.map cW),.arr 2 true false 3 1 (s.2.2.map cN)]⟩) ?_ ?_
      · simp [zh,go_sem,ze,zf,zn,zp,pos,yaa,cCh,zaI,cSv]
      · refine za3.trans (ZR 16 0 29 2 true false rfl (by omega)) ?_
        rw [zc4]
        refine za3.trans (Zk [0,1,2,8,9,11,12,13,14,15,16] [0,1,3,4] (by simp) (by simp) (by simp [hx])) (zfB ?_ (za3.refl _ _ _))
        simp [zh,zad,go_sem,ze,zf,zn,zp,pos,yaa,rlH,cCh,zaI,cSv,zt]
  · rintro st rfl
    have his:zg prog 31 [.list ((Zo l c ids).map cId),.int .i64 (zx l c ids),.int .i64 (zx l c ids),.oll ((Zo l c ids).map cId)] [] (.bool true) []:=by
      have h:=(zlX (Zo l c ids) (zx l c ids) (zx l c ids) (Zo l c ids) (by
        by_cases h0:zx l c ids=0
        · obtain ⟨g0,g1,g2,-,-⟩:=zds h0
          have hok:=zaE.1 g0
          have h2:=zcJ hok g1
          have h3:=zpf hok (c:=c) (zfc l c ids) ids
          have h4:=zkq hok c ids
          rw [Zo,if_pos h0]
          show (zez l c (zfc l c ids) ids).length≤_
          omega
        · rw [Zo,if_neg h0]; simp)).freshS (args' := [.list ((Zo l c ids).map cId),.int .i64 (zx l c ids),.int .i64 (zx l c ids),.oll ((Zo l c ids).map cId)]) rfl rfl
      have e:(decide (zx l c ids=zx l c ids) && decide (Zo l c ids=if zx l c ids=0 then Zo l c ids else []))=true:=by
        by_cases h0:zx l c ids=0
        · simp [h0]
        · simp [h0,Zo]
      rw [e] at h
      exact h
    simp only [yaJ,yaY]
    refine zeA 1 ?_
    simp only [go_sem]
    refine Zu ?_
    simp only [yaJ,yaY]
    refine zcK ?_
    simp only [LC.flat]
    refine zA0 [0,1,2,8,9,11,12,13,14,15,16,17] 4 (fun m st=>∃ q:Nat,q + m=2∧st=⟨mkE .top (rlU l c ids (Zo l c ids) (zx l c ids) q 1 1),rlH ch s 1 1⟩) 2 (by simp [hx]) (by simp [rlH]) ?_ ?_
    · refine ⟨0,by omega,?_⟩
      simp [zh,go_sem,ze,zf,zn,zp,pos,yaa,rlU,rlH,cCh,zaI,cSv]
    · rintro m st ⟨q,hq,rfl⟩
      by_cases hlt:q < 2
      · refine W.mono (zvl hx hxo l c ids (Zo l c ids) (Zo l c ids) ch s 1 1 (zx l c ids) q (zx l c ids) ⟨by omega,by omega⟩ (by omega) (by omega) (by omega) hw hd (zg3 l c ids (by omega) (by omega)) his) ?_
        rintro e' st' ⟨rfl,h1,h2⟩
        refine ⟨h1,m - 1,by omega,q + 1,by omega,?_⟩
        rw [h2]
        simp
      · obtain rfl:q=2:=by omega
        refine zbd ?_
        simp only [go_sem,rlU,rlH,cCh,zaI,cSv,zab,Int.reduceLT,Int.reduceLE,Int.reduceToNat,Int.reduceAdd,frz]
        refine Zu ?_
        refine zaz ?_
        simp only [go_sem]
        refine zbD ?_
        simp [go_sem,L4,R4,frS,frA,frL]
end Go.Proofs.YtkcahmbcpkjpiaaGreatDoor
namespace Go.Proofs.YtkcahmbcpkjpiaaGreatDoor
open Go.RowKit Go.ChangeShapes Go.WideShapes Go.ChangeAt
section
variable {H:Type} {enc:TypeId × Value→H} {P:Program} {w:World} {sp:Nat→Bool} {held:Bool}
theorem zf0 (hl : laidOutB P = true) {W W' : World} (hb : Below W.heap.size W W') : ∀ {ts : List TypeId} {vs : List Value} {ds : List (DataW H)} {ps : List MemPlace},
    (∀ t ∈ ts,P.readableRec t=true∧t < P.types.size)→(∀ x ∈ ps,x.block < W.heap.size)→DataW.TrodAll enc P W 0 (fun _=>true) true ts vs ds ps→DataW.TrodAll enc P W' 0 (fun b=>decide (b < W.heap.size)) true ts vs ds ps
  | [],[],[],_,_,_,h=>h
  | t :: ts,v :: vs,d :: ds,_,hr,hlt,h=>by
    obtain ⟨p,q,h1,h2,rfl⟩:=h
    refine ⟨p,q,Below.trod hl (hr t (by simp)).1 (hr t (by simp)).2 h1 hb (fun x hx=>hlt x (by simp [hx])),zf0 hl hb (fun t' ht=>hr t' (by simp [ht])) (fun x hx=>hlt x (by simp [hx])) h2,rfl⟩
  | [],[],_ :: _,_,_,_,h=>h.elim
  | [],_ :: _,_,_,_,_,h=>by cases h
  | _ :: _,[],_,_,_,_,h=>by cases h
  | _ :: _,_ :: _,[],_,_,_,h=>h.elim
theorem zvA {f : Func} {s : ChangeSpec} {apart : Bool} {W W' : World} {args : Array Value} {ds gs : List (DataW H)} {before : List MemPlace} {tb : TypeId}
    (hl:laidOutB P=true) (hpar:∀ t ∈ f.params.toList,P.readableRec t=true∧t < P.types.size) (hres:f.resultTypes=#[tb]) (hub:P.underlying tb=some .bool) (hvars:s.vars = [])
    (hW:DataW.Whole enc P f.params.toList s.vars apart W args.toList ds gs before)
    (hs:s.fn H (ds ++ gs) = { results := [.lit (.bool true)],args:=ds }) (hb:Below W.heap.size W W'):s.post enc P f apart true false false W args (.bool true) W':=by
  have hlt:=hW.lt
  have hW':=hW
  obtain ⟨p,q,hA,hV,rfl,hfz,hnd⟩:=hW
  rw [hvars] at hV
  have hq:gs = []∧q = []:=by
    cases gs with
    | nil=>exact ⟨rfl,hV⟩
    | cons g gs=>exact hV.elim
  obtain ⟨rfl,rfl⟩:=hq
  refine ⟨ds,[],_,[],p,[],hW',?_,?_,?_,hb.frame _,fun h=>by cases h⟩
  · rw [hs,hres]
    exact trodAll_mk1 (shut_bool hub true)
  · rw [hs]
    exact zf0 hl hb hpar (fun x hx=>hlt x (by simp [hx])) hA
  · rw [hs,hvars]
    rfl
theorem zBo {ts:List TypeId} (h:(ts.all fun t=>P.readableRec t && decide (t < P.types.size))=true):∀ t ∈ ts,P.readableRec t=true∧t < P.types.size:=by
 intro t ht
 have:=yar.1 h t ht
 simpa only [yat,decide_eq_true_eq] using this
end
def I64 (n:Int):Prop := -9223372036854775808≤n∧n≤9223372036854775807
theorem ztv {n:Int} (h:(Lit.int .i64 n).wf=true):I64 n:=by simpa [Lit.wf,IntKind.min,IntKind.max,IntKind.signed,IntKind.bits,I64] using h
section
variable {H:Type} {enc:TypeId × Value→H} {w:World} {sp:Nat→Bool} {held:Bool}
theorem zBp:ownKnob Tryz.prog.godebug=none:=by kernel_rfl
theorem zzf:laidOutB Tryz.prog=true:=by kernel_rfl
theorem ztw:Tryz.prog.underlying 4=some .bool:=by kernel_rfl
theorem ztx:Tryz.prog.underlying 3=some (.int .i64):=by kernel_rfl
theorem zvB:Tryz.prog.cellsOf 3=1:=by kernel_rfl
theorem zD5:Tryz.prog.underlying 29=some (.struct (Tryz.prog.fieldsOf 29)):=by kernel_rfl
theorem zzg:Tryz.prog.cellsOf 29=2:=by kernel_rfl
end
end Go.Proofs.YtkcahmbcpkjpiaaGreatDoor
namespace Go.Proofs.YtkcahmbcpkjpiaaGreatDoor
open Go.RowKit Go.ChangeShapes Go.WideShapes Go.ChangeAt
def zoa (w:World) (ps:List PV) (cs:List Value):Prop:=cs.length=ps.length∧∀ (j:Nat) p v,ps[j]? = some p→cs[j]? = some v→RepP (fun b _=>b < w.heap.size) w p v
section
variable {H:Type} {enc:TypeId × Value→H} {P:Program} {w:World} {sp:Nat→Bool} {held:Bool}
def zbN (enc:TypeId × Value→H) (P:Program) (w:World) (sp:Nat→Bool) (held:Bool) (t:TypeId) (n:Nat) (R:List PV→Prop):Prop :=
 P.cellsOf t=n∧∀ fuel cs (y:DataW H × List MemPlace),DataW.trod enc P w 0 sp held fuel t cs=some y→(∀ k ∈ y.1.weights P t,k≤reachBytes)→∃ ps,ps.length=n∧R ps∧zoa w ps cs
theorem zbN.mono {t:TypeId} {n:Nat} {R R':List PV→Prop} (h:zbN enc P w sp held t n R) (hR:∀ ps,R ps→R' ps):zbN enc P w sp held t n R' :=
 ⟨h.1,fun fuel cs y hy hw=>by obtain ⟨ps,h1,h2,h3⟩:=h.2 fuel cs y hy hw; exact ⟨ps,h1,hR ps h2,h3⟩⟩
theorem zpn {p:PV} {v:Value} (h:RepP (fun b _=>b < w.heap.size) w p v):zoa w [p] [v]:=by
 refine ⟨rfl,fun j q u hj hu=>?_⟩
 cases j with
 | zero=>simp at hj hu; subst hj; subst hu; exact h
 | succ j=>simp at hj
theorem zty {t:TypeId} (ht:P.underlying t=some (.int .i64)) (hc:P.cellsOf t=1):zbN enc P w sp held t 1 fun ps=>∃ n,I64 n∧ps = [.int .i64 n]:=by
 refine ⟨hc,fun fuel cs y h _=>?_⟩
 obtain ⟨n,rfl,-,hw⟩:=DataW.trod_int ht h
 exact ⟨[.int .i64 n],rfl,⟨n,ztv hw,rfl⟩,zpn (.int _ _)⟩
theorem zqP {t:TypeId} (ht:P.underlying t=some .bool) (hc:P.cellsOf t=1):zbN enc P w sp held t 1 fun ps=>∃ b,ps = [.bool b]:=by
 refine ⟨hc,fun fuel cs y h _=>?_⟩
 obtain ⟨b,rfl,-⟩:=DataW.trod_bool ht h
 exact ⟨[.bool b],rfl,⟨b,rfl⟩,zpn (.bool _)⟩
theorem ztz {t:TypeId} (ht:P.underlying t=some .string) (hc:P.cellsOf t=1):zbN enc P w sp held t 1 fun ps=>∃ s:ByteArray,s.size≤reachBytes∧ps = [.str s]:=by
 refine ⟨hc,fun fuel cs y h hw=>?_⟩
 obtain ⟨s,rfl,rfl,-⟩:=DataW.trod_string ht h
 have hs:=hw s.data.toList.length (by simp [DataW.weights])
 exact ⟨[.str s],rfl,⟨s,by simpa using hs,rfl⟩,zpn (.str _)⟩
theorem zob {t e : TypeId} {fuel : Nat} {v : Value} {x : DataW H × List MemPlace} (ht : P.underlying t = some (.slice e)) (hsz : 0 < P.cellsOf e) (h : DataW.trod enc P w 0 sp held fuel t [v] = some x) (hw : ∀ k ∈ x.1.weights P t, k ≤ reachBytes) :
    ∃ a n c,v = .slice a n c∧n≤c∧c≤maxLen∧n * P.bytesOf e≤reachBytes∧∀ k,k < n→∃ b o cs m y,a=some ⟨b,o,none⟩∧b < w.heap.size∧cs.length=P.cellsOf e∧(∀ j,j < P.cellsOf e→w.cell? ⟨b,o + k * P.cellsOf e + j,none⟩=cs[j]?) ∧
      DataW.trod enc P w 0 sp held m e cs=some y∧∀ q ∈ y.1.weights P e,q≤reachBytes:=by
  have memAll:∀ (ds:List (DataW H)) (d:DataW H),d ∈ ds→∀ q ∈ d.weights P e,q ∈ DataW.weightsAll P e ds:=by
    intro ds
    induction ds with
    | nil=>intro d hd; cases hd
    | cons d0 ds ih =>
      intro d hd q hq
      simp only [DataW.weightsAll,yai]
      rcases yaN.1 hd with rfl | hd
      · exact .inl hq
      · exact .inr (ih d hd q hq)
  rcases DataW.trod_slice ht h with ⟨hv,-⟩ | ⟨a,len,cap,elems,rest,m,-,hv,hx,-,h1,h2,hl,hel,-,-⟩
  · exact ⟨none,0,0,by simpa using hv,by omega,by unfold maxLen; omega,by omega,fun k hk=>by omega⟩
  · obtain rfl:v = .slice (some a) len cap:=by simpa using hv
    have hwt:len * P.bytesOf e≤reachBytes:=by
      have:=hw ((elems.length + rest.length) * P.bytesOf e) (by rw [hx]; simp [DataW.weights,ht])
      have h3:len * P.bytesOf e≤(elems.length + rest.length) * P.bytesOf e:=yaj _ (by omega)
      omega
    have key:∀ k,k < len→∃ cs y,w.cells? 0 (a.add (k * P.cellsOf e)) (P.cellsOf e)=some cs∧DataW.trod enc P w 0 sp held m e cs=some y∧∀ q ∈ y.1.weights P e,q≤reachBytes:=by
      intro k hk
      have:=hel k hk
      rw [yac (by omega)] at this
      obtain ⟨cs,hcs,hy⟩:=ybo.1 this
      refine ⟨cs,_,hcs,hy,fun q hq=>hw q ?_⟩
      rw [hx]
      simp only [DataW.weights,ht,yaN,yai]
      exact .inr (.inl (memAll _ _ (yaG.2 ⟨_,yaw _,rfl⟩) q hq))
    refine ⟨some a,len,cap,rfl,h1,h2,hwt,fun k hk=>?_⟩
    obtain ⟨cs0,y0,hc0,-⟩:=key 0 (by omega)
    have h0:=(World.cells?_some hc0).2.2 0 hsz
    obtain ⟨ab,ao,asp⟩:=a
    have hl0:=(World.cells?_some hc0).2.1
    have has:asp=none:=by
      simp only [Nat.zero_mul,Addr.add,if_true] at h0
      rw [yac (by omega)] at h0
      cases asp with
      | none=>rfl
      | some s =>
        simp only [World.cell?] at h0
        split at h0 <;> simp at h0
    subst has
    obtain ⟨cs,y,hcs,hy,hq⟩:=key k hk
    have h3:=World.cells?_some hcs
    have add_eq:∀ (o n:Nat),(⟨ab,o,none⟩:Addr).add n=⟨ab,o + n,none⟩:=by
      intro o n; unfold Addr.add; split <;> simp_all
    refine ⟨ab,ao,cs,m,y,rfl,?_,h3.2.1,fun j hj=>?_,hy,hq⟩
    · exact World.cells?_block (a:=⟨ab,ao,none⟩) (by simpa [add_eq] using hc0) hsz
    · have:=h3.2.2 j hj
      simpa [add_eq] using this
theorem zoc {α:Type} {n:Nat} {Q:Nat→α→Prop} (h:∀ k,k < n→∃ x,Q k x):∃ l:List α,l.length=n∧∀ (k:Nat) x,l[k]? = some x→Q k x:=by
 induction n with
 | zero=>exact ⟨[],rfl,fun k x hk=>by simp at hk⟩
 | succ n ih =>
  obtain ⟨l,h1,h2⟩:=ih fun k hk=>h k (by omega)
  obtain ⟨x,hx⟩:=h n (by omega)
  refine ⟨l ++ [x],by simp [h1],fun k y hk=>?_⟩
  by_cases hlt:k < l.length
  ·
   rw [yaC hlt] at hk; exact h2 k y hk
  ·
   rw [yaL (by omega)] at hk
   have:k - l.length=0:=by
    have:=(yab.1 hk).1
    simp at this; omega
   rw [this] at hk
   simp at hk
   subst hk
   rw [show k=n by omega]; exact hx
theorem zcz {t e : TypeId} {n : Nat} {R : List PV → Prop} (ht : P.underlying t = some (.slice e)) (hc : P.cellsOf t = 1) (hn : 0 < n) (he : zbN enc P w sp held e n R) :
    zbN enc P w sp held t 1 fun ps=>∃ rows,rows.length * P.bytesOf e≤reachBytes∧(∀ row ∈ rows,row.length=n∧R row)∧ps = [.list rows]:=by
  refine ⟨hc,fun fuel cs y h hw=>?_⟩
  have hcs:∃ v,cs = [v]:=by
    rcases DataW.trod_slice ht h with ⟨hv,-⟩ | ⟨a,len,cap,elems,rest,m,-,hv,-⟩ <;> exact ⟨_,hv⟩
  obtain ⟨v,rfl⟩:=hcs
  obtain ⟨hce,he⟩:=he
  obtain ⟨a,len,c,rfl,h1,h2,hby,h3⟩:=zob ht (by omega) h hw
  rw [hce] at h3
  obtain ⟨rows,r1,r2⟩:=zoc (Q:=fun k (row:List PV)=>row.length=n∧R row∧∃ b o cs,a=some ⟨b,o,none⟩∧b < w.heap.size∧cs.length=n∧(∀ j,j < n→w.cell? ⟨b,o + k * n + j,none⟩=cs[j]?)∧zoa w row cs) fun k hk=>by
    obtain ⟨b,o,cs,m,y,q1,q2,q3,q4,q5,q6⟩:=h3 k hk
    obtain ⟨ps,p1,p2,p3⟩:=he m cs y q5 q6
    exact ⟨ps,p1,p2,b,o,cs,q1,q2,q3,q4,p3⟩
  refine ⟨[.list rows],rfl,⟨rows,by rw [r1]; exact hby,fun row hr=>?_,rfl⟩,zpn ?_⟩
  · obtain ⟨k,hk⟩:=List.getElem?_of_mem hr
    exact ⟨(r2 k row hk).1,(r2 k row hk).2.1⟩
  · have key:∀ k row j p,rows[k]? = some row→row[j]? = some p→∃ b o,a=some ⟨b,o,none⟩∧b < w.heap.size∧∃ u,w.cell? ⟨b,o + k * n + j,none⟩=some u∧RepP (fun b _=>b < w.heap.size) w p u:=by
      intro k row j p hk hj
      obtain ⟨hl,-,b,o,cs,q1,q2,q3,q4,q5⟩:=r2 k row hk
      have hlt:j < n:=by rw [← hl]; exact (yab.1 hj).1
      refine ⟨b,o,q1,q2,cs[j]'(by omega),?_,?_⟩
      · rw [q4 j hlt,yac (by omega)]
      · exact q5.2 j p _ hj (yac (by omega))
    have := RepP.list (S := fun b _ => b < w.heap.size) (w := w) rows a c n (fun k j => match a with | some ad => (w.cell? ⟨ad.block, ad.off + k * n + j, none⟩).getD Go.undef | none => Go.undef) (by omega) h2 hn (fun row hr => by
        obtain ⟨k,hk⟩:=List.getElem?_of_mem hr
        exact (r2 k row hk).1) (fun k row j p hk hj=>by
        obtain ⟨b,o,q1,q2,u,q3,q4⟩:=key k row j p hk hj
        subst q1
        exact ⟨b,o,rfl,q2,by simp [q3]⟩) (fun k row j p hk hj=>by
        obtain ⟨b,o,q1,q2,u,q3,q4⟩:=key k row j p hk hj
        subst q1
        simp only [q3,ybA]
        exact q4)
    rw [r1] at this
    exact this
def zCu:Nat→List (TypeId × Nat)→List (TypeId × Nat)
 | _,[] => []
 | o,(t,n) :: r=>(t,o) :: zCu (o + n) r
def zD6:List (Nat × (List PV→Prop))→List PV→Prop
 | [],ps=>ps = []
 | (n,R) :: r,ps=>∃ a b,ps=a ++ b∧a.length=n∧R a∧zD6 r b
def zk3 (enc:TypeId × Value→H) (P:Program) (w:World) (sp:Nat→Bool) (held:Bool):List (TypeId × Nat × (List PV→Prop))→Prop
 | []=>True
 | (t,n,R) :: r=>zbN enc P w sp held t n R∧zk3 enc P w sp held r
theorem zmH {a b:List PV} {cs ds:List Value} (h1:zoa w a cs) (h2:zoa w b ds):zoa w (a ++ b) (cs ++ ds):=by
 refine ⟨by simp [h1.1,h2.1],fun j p v hj hv=>?_⟩
 by_cases hlt:j < a.length
 ·
  rw [yaC hlt] at hj
  rw [yaC (by rw [h1.1]; exact hlt)] at hv
  exact h1.2 j p v hj hv
 ·
  rw [yaL (by omega)] at hj
  rw [yaL (by rw [h1.1]; omega),h1.1] at hv
  exact h2.2 _ p v hj hv
theorem zgO : ∀ (fl : List (TypeId × Nat × (List PV → Prop))) (o : Nat) (cs : List Value), zk3 enc P w sp held fl → cs.length = o + (fl.map (·.2.1)).sum →
    (∀ (i:Nat) (t':TypeId) (o':Nat),(zCu o (fl.map fun f=>(f.1,f.2.1)))[i]? = some (t',o')→∃ n y,DataW.trod enc P w 0 sp held n t' ((cs.drop o').take (P.cellsOf t'))=some y∧∀ k ∈ y.1.weights P t',k≤reachBytes) →
    ∃ ps,ps.length=(fl.map (·.2.1)).sum∧zD6 (fl.map (·.2)) ps∧zoa w ps (cs.drop o)
  | [], o, cs, _, hl, _ => ⟨[], rfl, rfl, by
      rw [ya2 (by simp at hl; omega)]
      exact ⟨rfl,fun j p v hj=>by simp at hj⟩⟩
  | (t,n,R) :: fl,o,cs,ho,hl,hx=>by
    obtain ⟨⟨hc,h1⟩,h2⟩:=ho
    obtain ⟨m,y,hy,hwy⟩:=hx 0 t o rfl
    obtain ⟨ps,p1,p2,p3⟩:=h1 m _ y hy hwy
    simp only [yaA,List.sum_cons] at hl
    obtain ⟨qs,q1,q2,q3⟩:=zgO fl (o + n) cs h2 (by omega) fun i t' o' hi=>hx (i + 1) t' o' hi
    refine ⟨ps ++ qs,by simp [p1,q1],⟨ps,qs,rfl,p1,p2,q2⟩,?_⟩
    rw [hc] at p3
    have:cs.drop o=(cs.drop o).take n ++ cs.drop (o + n):=by rw [← List.drop_drop,ybG]
    rw [this]
    exact zmH p3 q3
theorem za8 {t : TypeId} {n : Nat} (fl : List (TypeId × Nat × (List PV → Prop))) (hs : P.underlying t = some (.struct (P.fieldsOf t))) (hf : (P.fieldsOf t).toList.map (fun f => (f.type, f.offset)) = zCu 0 (fl.map fun f => (f.1, f.2.1)))
    (hc:P.cellsOf t=n) (hn:(fl.map (·.2.1)).sum=n) (ho:zk3 enc P w sp held fl):zbN enc P w sp held t n (zD6 (fl.map (·.2))):=by
  refine ⟨hc,fun fuel cs y h hw=>?_⟩
  obtain ⟨xs,m,_,hy,hl,hlen,hq⟩:=DataW.trod_struct hs h
  have hx:∀ (i:Nat) (t':TypeId) (o':Nat),(zCu 0 (fl.map fun f=>(f.1,f.2.1)))[i]? = some (t',o')→∃ n y,DataW.trod enc P w 0 sp held n t' ((cs.drop o').take (P.cellsOf t'))=some y∧∀ k ∈ y.1.weights P t',k≤reachBytes:=by
    intro i t' o' hi
    rw [← hf,yav] at hi
    obtain ⟨f,h1,h2⟩:=yad.1 hi
    simp only [ybd] at h2
    obtain ⟨rfl,rfl⟩:=h2
    have h3:=hq i f (by simpa using h1)
    have hi2:i < (P.fieldsOf t).toList.length:=(yab.1 h1).1
    have hi3:i < xs.length:=by rw [hlen]; simpa using hi2
    refine ⟨m,xs[i],by rw [h3]; simp,fun k hk=>hw k ?_⟩
    rw [hy]
    simp only [DataW.weights,hs]
    refine DataW.weights_mem_each (j:=i) (t:=f.type) (d:=xs[i].1) ?_ ?_ k hk
    · rw [yav,h1]; rfl
    · rw [yav,yac hi3]; rfl
  obtain ⟨ps,h1,h2,h3⟩:=zgO fl 0 cs ho (by omega) hx
  exact ⟨ps,by omega,h2,h3⟩
theorem ziC {t:TypeId} {R:List PV→Prop} (ho:zbN enc P w sp held t 1 R) {v:Value} (h1:∀ cs,v ≠ .agg cs) {d:DataW H} {p:List MemPlace} (h:DataW.Trod enc P w 0 sp held t v d p) (hw:∀ k ∈ d.weights P t,k≤reachBytes):∃ q,R [q]∧RepP (fun b _=>b < w.heap.size) w q v:=by
 obtain ⟨fuel,hf⟩:=h
 obtain ⟨ps,p1,p2,p3⟩:=ho.2 fuel _ _ hf hw
 have hv:v.cells.toList = [v]:=by cases v <;> first | rfl | exact (h1 _ rfl).elim
 match ps,p1 with
 | [q],_=>exact ⟨q,p2,p3.2 0 q v rfl (by rw [hv]; rfl)⟩
theorem zpo {t:TypeId} {n:Nat} {R:List PV→Prop} (ho:zbN enc P w sp held t n R) {v:Value} (h1:∃ cs,v = .agg cs) {d:DataW H} {p:List MemPlace} (h:DataW.Trod enc P w 0 sp held t v d p) (hw:∀ k ∈ d.weights P t,k≤reachBytes) (S:Nat→Nat→Prop) (hS:∀ b o,b < w.heap.size→S b o) (C:Conc):∃ ps,R ps∧RepV S w C (.agg ps) v:=by
 obtain ⟨fuel,hf⟩:=h
 obtain ⟨cs,rfl⟩:=h1
 obtain ⟨ps,p1,p2,p3⟩:=ho.2 fuel _ _ hf hw
 have hk:∀ (j:Nat) q x,ps[j]? = some q→cs.toList[j]? = some x→RepP (fun b _=>b < w.heap.size) w q x:=fun j q x hj hx=>p3.2 j q x hj hx
 refine ⟨ps,p2,?_⟩
 have:=RepV.agg (S:=S) (w:=w) (C:=C) ps cs.toList p3.1 (fun j x hx=>?_) fun j q x hj hx => .pure ((hk j q x hj hx).mono (fun b o h=>hS b o h) fun _ _ _=>rfl)
 ·
  simpa using this
 ·
  have hlt:j < ps.length:=by rw [← p3.1]; exact (yab.1 hx).1
  exact (hk j _ x (yac hlt) hx).one
end
def zeC (w:World):Cx:=⟨w,fun b _=>b < w.heap.size,⟨0,fun _=>0,fun _=>Go.undef,fun _=>0,fun _ _=>False⟩,[]⟩
theorem zD7 (w:World):HR (zeC w) (zeC w).C0 [] w :=
 ⟨rfl,fun id ob h=>by simp at h,fun id id' ob ob' b h=>by simp at h,fun id ob b h=>by simp at h,fun b o h=>⟨h,fun id ob h=>by simp at h,rfl⟩,yag _,rfl,rfl,rfl,fun b _ _=>rfl,yag _,fun i hi=>rfl,fun i hi => .inl ⟨rfl,rfl⟩,fun b o h=>h.elim,fun _ _ h=>h,fun _ _ h=>h⟩
theorem zod {w:World} {b o:Nat} (h:b < w.heap.size):zu (zeC w) (zeC w).C0 [] w b o:=⟨.inl h,h,fun id ob h=>by simp at h⟩
def Arg (w:World) (p:PV) (v:Value):Prop:=RepV (zu (zeC w) (zeC w).C0 [] w) w (zeC w).C0 p v
theorem Arg.of {w:World} {p:PV} {v:Value} (h:RepP (fun b _=>b < w.heap.size) w p v):Arg w p v := .pure (h.mono (fun _ _ h=>zod h) fun _ _ _=>rfl)
inductive ArgsAre (w:World):List PV→List Value→Prop
 | nil:ArgsAre w [] []
 | cons {p:PV} {v:Value} {ps:List PV} {vs:List Value} (h:Arg w p v) (t:ArgsAre w ps vs):ArgsAre w (p :: ps) (v :: vs)
theorem ArgsAre.reps {w:World} {ps:List PV} {vs:List Value} (h:ArgsAre w ps vs):zmK (zu (zeC w) (zeC w).C0 [] w) w (zeC w).C0 ps vs:=by
 induction h with
 | nil=>exact ⟨rfl,fun j p v hj=>by simp at hj⟩
 | cons h t ih =>
  refine ⟨by simp [ih.1],fun j p v hj hv=>?_⟩
  cases j with
  | zero=>simp at hj hv; subst hj; subst hv; exact h
  | succ j=>exact ih.2 j p v (by simpa using hj) (by simpa using hv)
theorem ztA {P:Program} {f:Nat} {args:List PV} {vs:Array Value} {w:World} (h:zg P f args [] (.bool true) []) (hp:ArgsAre w args vs.toList):Calls P f vs w fun e w'=>e = .returned (.bool true)∧Below w.heap.size w w':=by
 refine (h (zeC w) vs rfl (zD7 w) hp.reps).mono fun e w' ⟨v,C',h1,h2,h3⟩=>?_
 have hv:=h3.bool_inv
 subst hv
 exact ⟨h1,⟨h2.os,h2.tape,h2.output,h2.size,fun b hb=>h2.frame b hb fun i ob0 hi=>by simp [zeC] at hi⟩⟩
end Go.Proofs.YtkcahmbcpkjpiaaGreatDoor
namespace Go.Proofs.YtkcahmbcpkjpiaaGreatDoor
open Go.RowKit Go.ChangeShapes Go.WideShapes Go.ChangeAt
section
variable {H:Type} {enc:TypeId × Value→H} {w:World} {sp:Nat→Bool} {held:Bool}
theorem zeu {α:Type} {f:α→List PV} {Q:α→Prop} {n:Nat}:∀ {rows:List (List PV)},(∀ row ∈ rows,row.length=n∧∃ x,Q x∧row=f x)→∃ l:List α,(∀ x ∈ l,Q x)∧rows=l.map f
 | [],_=>⟨[],by simp,rfl⟩
 | row :: rows,h=>by
  obtain ⟨-,x,h1,rfl⟩:=h row (by simp)
  obtain ⟨l,h2,rfl⟩:=zeu (rows:=rows) fun row hr=>h row (by simp [hr])
  exact ⟨x :: l,by simpa using ⟨h1,h2⟩,rfl⟩
theorem zi7:zbN enc Tryz.prog w sp held 3 1 fun ps=>∃ n,I64 n∧ps = [.int .i64 n]:=zty ztx zvB
theorem zBq:zbN enc Tryz.prog w sp held 9 1 fun ps=>∃ s:ByteArray,s.size≤reachBytes∧ps = [.str s]:=ztz (by kernel_rfl) (by kernel_rfl)
theorem zpp:zbN enc Tryz.prog w sp held 4 1 fun ps=>∃ b,ps = [.bool b]:=zqP ztw (by kernel_rfl)
def zBr (x:Id):Prop:=I64 x.r∧I64 x.n
theorem zEh:zbN enc Tryz.prog w sp held 29 2 fun ps=>∃ x:Id,zBr x∧ps=cId x :=
 (za8 [(3,1,_),(3,1,_)] zD5 (by kernel_rfl) zzg rfl ⟨zi7,zi7,trivial⟩).mono (by
  rintro ps ⟨a,b,rfl,-,⟨n,hn,rfl⟩,c,d,rfl,-,⟨m,hm,rfl⟩,rfl⟩
  exact ⟨⟨n,m⟩,⟨hn,hm⟩,rfl⟩)
theorem zBs:zbN enc Tryz.prog w sp held 30 1 fun ps=>∃ l:List Id,l.length * 16≤reachBytes∧(∀ x ∈ l,zBr x)∧ps = [.list (l.map cId)] :=
 (zcz (by kernel_rfl) (by kernel_rfl) (by omega) zEh).mono (by
  rintro ps ⟨rows,hm,hr,rfl⟩
  obtain ⟨l,h1,rfl⟩:=zeu hr
  rw [show Tryz.prog.bytesOf 29=16 by kernel_rfl] at hm
  exact ⟨l,by simpa using hm,h1,rfl⟩)
def wfE (e:Entry):Prop:=zBr e.id∧I64 e.c∧e.t.size≤reachBytes∧e.ls.length * 16≤reachBytes∧∀ x ∈ e.ls,zBr x
theorem zvC:Tryz.prog.underlying 32=some (.struct (Tryz.prog.fieldsOf 32)):=by kernel_rfl
theorem zzh:zbN enc Tryz.prog w sp held 32 5 fun ps=>∃ e:Entry,wfE e∧ps=cE e :=
 (za8 [(29,2,_),(3,1,_),(9,1,_),(30,1,_)] zvC (by kernel_rfl) (by kernel_rfl) rfl ⟨zEh,zi7,zBq,zBs,trivial⟩).mono (by
  rintro ps ⟨a,b,rfl,-,⟨x,hx,rfl⟩,c,d,rfl,-,⟨n,hn,rfl⟩,f,g,rfl,-,⟨s,hs,rfl⟩,k,q,rfl,-,⟨l,hl,hq,rfl⟩,rfl⟩
  exact ⟨⟨x,n,s,l⟩,⟨hx,hn,hs,hl,hq⟩,rfl⟩)
theorem zBt {b0:Nat} {v:Value} {d:DataW H} {p:List MemPlace} (hv:Value.okWide Tryz.prog w .any b0 3 v) (h:DataW.Trod enc Tryz.prog w 0 sp held 3 v d p) (hw:∀ k ∈ d.weights Tryz.prog 3,k≤reachBytes):∃ n,I64 n∧Arg w (.int .i64 n) v:=by
 obtain ⟨m,rfl⟩:=okWide_int ztx hv
 obtain ⟨q,⟨n,hn,hq⟩,h2⟩:=ziC zi7 (by simp) h hw
 simp at hq; subst hq
 exact ⟨n,hn,.of h2⟩
end
end Go.Proofs.YtkcahmbcpkjpiaaGreatDoor
namespace Go.Proofs.YtkcahmbcpkjpiaaGreatDoor
open Go.RowKit Go.ChangeShapes Go.WideShapes Go.ChangeAt
section
variable {H:Type} {enc:TypeId × Value→H} {w:World} {sp:Nat→Bool} {held:Bool}
theorem zBu:zbN enc Tryz.prog w sp held 106 3 fun ps=>∃ c:Wt,True∧ps=cW c :=
 (za8 [(3,1,_),(3,1,_),(4,1,_)] (by kernel_rfl) (by kernel_rfl) (by kernel_rfl) rfl ⟨zi7,zi7,zpp,trivial⟩).mono (by
  rintro ps ⟨a,b,rfl,-,⟨x,-,rfl⟩,c,d,rfl,-,⟨y,-,rfl⟩,f,g,rfl,-,⟨s,rfl⟩,rfl⟩
  exact ⟨⟨x,y,s⟩,trivial,rfl⟩)
theorem zzi:zbN enc Tryz.prog w sp held 60 1 fun ps=>∃ l:List Wt,l.length * 24≤reachBytes∧ps = [.list (l.map cW)] :=
 (zcz (by kernel_rfl) (by kernel_rfl) (by omega) zBu).mono (by
  rintro ps ⟨rows,hm,hr,rfl⟩
  obtain ⟨l,h1,rfl⟩:=zeu hr
  rw [show Tryz.prog.bytesOf 106=24 by kernel_rfl] at hm
  exact ⟨l,by simpa using hm,rfl⟩)
theorem zBv:zbN enc Tryz.prog w sp held 61 1 fun ps=>∃ l:List Int,l.length * 8≤reachBytes∧(∀ n ∈ l,I64 n)∧ps = [.list (l.map cN)] :=
 (zcz (n:=1) (R:=fun ps=>∃ n:Int,I64 n∧ps=cN n) (by kernel_rfl) (by kernel_rfl) (by omega) zi7).mono (by
  rintro ps ⟨rows,hm,hr,rfl⟩
  obtain ⟨l,h1,rfl⟩:=zeu hr
  rw [show Tryz.prog.bytesOf 3=8 by kernel_rfl] at hm
  exact ⟨l,by simpa using hm,h1,rfl⟩)
theorem zmI:Tryz.prog.underlying 63=some (.struct (Tryz.prog.fieldsOf 63)):=by kernel_rfl
def zBw (s:KS):Prop:=(s.ws.length * 24≤140737488355328∧s.ds.length * 8≤140737488355328)∧zpm s=s
theorem zvD:zbN enc Tryz.prog w sp held 63 3 fun ps=>∃ s:KS,zBw s∧ps=rK s :=
 (za8 [(3,1,_),(60,1,_),(61,1,_)] zmI (by kernel_rfl) (by kernel_rfl) rfl ⟨zi7,zzi,zBv,trivial⟩).mono (by
  rintro ps ⟨a,b,rfl,-,⟨x,hx,rfl⟩,c,d,rfl,-,⟨y,hy,rfl⟩,k,q,rfl,-,⟨l,hl,-,rfl⟩,rfl⟩
  simp only [reachBytes] at hy hl
  exact ⟨⟨1,1,x,y,l⟩,⟨⟨by simp only; omega,by simp only; omega⟩,rfl⟩,rfl⟩)
theorem ztB {b0 : Nat} {v : Value} {d : DataW H} {p : List MemPlace} (hv : Value.okWide Tryz.prog w .any b0 63 v) (h : DataW.Trod enc Tryz.prog w 0 sp held 63 v d p) (hw : ∀ k ∈ d.weights Tryz.prog 63, k ≤ reachBytes) :
    ∃ s:KS,zBw s∧Arg w (.agg (rK s)) v:=by
  obtain ⟨cs,rfl,-⟩:=okWide_struct zmI hv
  obtain ⟨ps,⟨c,h1,rfl⟩,h4⟩:=zpo zvD ⟨_,rfl⟩ h hw (zu (zeC w) (zeC w).C0 [] w) (fun _ _ h=>zod h) _
  exact ⟨c,h1,h4⟩
end
end Go.Proofs.YtkcahmbcpkjpiaaGreatDoor
namespace Go.Proofs.YtkcahmbcpkjpiaaGreatDoor
open Go.RowKit Go.ChangeShapes Go.WideShapes Go.ChangeAt
section
variable {H:Type} {enc:TypeId × Value→H} {w:World} {sp:Nat→Bool} {held:Bool}
theorem zBx {b0 : Nat} {v : Value} {d : DataW H} {p : List MemPlace} (hv : Value.okWide Tryz.prog w .any b0 30 v) (h : DataW.Trod enc Tryz.prog w 0 sp held 30 v d p) (hw : ∀ k ∈ d.weights Tryz.prog 30, k ≤ reachBytes) :
    ∃ l:List Id,l.length * 16≤reachBytes∧(∀ e ∈ l,zBr e)∧Arg w (.list (l.map cId)) v:=by
  obtain ⟨a,n,c,rfl⟩:=okWide_slice (e:=29) (by kernel_rfl) hv
  obtain ⟨q,⟨l,h1,h2,hq⟩,h3⟩:=ziC zBs (by simp) h hw
  simp at hq; subst hq
  exact ⟨l,h1,h2,.of h3⟩
end
end Go.Proofs.YtkcahmbcpkjpiaaGreatDoor
namespace Go.Proofs.YtkcahmbcpkjpiaaGreatDoor
open Go.RowKit Go.ChangeShapes Go.WideShapes Go.ChangeAt
section
variable {H:Type} {enc:TypeId × Value→H} {w:World} {sp:Nat→Bool} {held:Bool}
theorem zqQ:zbN enc Tryz.prog w sp held 34 1 fun ps=>∃ l:List Entry,l.length * 64≤reachBytes∧(∀ e ∈ l,wfE e)∧ps = [.list (l.map cE)] :=
 (zcz (by kernel_rfl) (by kernel_rfl) (by omega) zzh).mono (by
  rintro ps ⟨rows,hm,hr,rfl⟩
  obtain ⟨l,h1,rfl⟩:=zeu hr
  have hb:Tryz.prog.bytesOf 32=64:=by decide +kernel
  rw [hb,yah] at hm
  exact ⟨l,hm,h1,rfl⟩)
theorem zoe {b0 : Nat} {v : Value} {d : DataW H} {p : List MemPlace} (hv : Value.okWide Tryz.prog w .any b0 34 v) (h : DataW.Trod enc Tryz.prog w 0 sp held 34 v d p) (hw : ∀ k ∈ d.weights Tryz.prog 34, k ≤ reachBytes) :
    ∃ l:List Entry,l.length * 64≤reachBytes∧(∀ e ∈ l,wfE e)∧Arg w (.list (l.map cE)) v:=by
  obtain ⟨a,n,c,rfl⟩:=okWide_slice (e:=32) (by kernel_rfl) hv
  obtain ⟨q,⟨l,h1,h2,hq⟩,h3⟩:=ziC zqQ (by simp) h hw
  simp at hq; subst hq
  exact ⟨l,h1,h2,.of h3⟩
end
end Go.Proofs.YtkcahmbcpkjpiaaGreatDoor
namespace Go.Proofs.YtkcahmbcpkjpiaaGreatDoor
open Go.RowKit Go.ChangeShapes Go.WideShapes Go.ChangeAt
section
variable {H:Type} {enc:TypeId × Value→H} {w:World} {sp:Nat→Bool} {held:Bool}
theorem zBy:zbN enc Tryz.prog w sp held 104 3 fun ps=>∃ c:Cell,True∧ps=cC c :=
 (za8 [(4,1,_),(4,1,_),(9,1,_)] (by kernel_rfl) (by kernel_rfl) (by kernel_rfl) rfl ⟨zpp,zpp,zBq,trivial⟩).mono (by
  rintro ps ⟨a,b,rfl,-,⟨x,rfl⟩,c,d,rfl,-,⟨y,rfl⟩,f,g,rfl,-,⟨s,hs,rfl⟩,rfl⟩
  exact ⟨⟨x,y,s⟩,trivial,rfl⟩)
theorem zzj:zbN enc Tryz.prog w sp held 57 1 fun ps=>∃ l:List Cell,l.length * 24≤reachBytes∧ps = [.list (l.map cC)] :=
 (zcz (by kernel_rfl) (by kernel_rfl) (by omega) zBy).mono (by
  rintro ps ⟨rows,hm,hr,rfl⟩
  obtain ⟨l,h1,rfl⟩:=zeu hr
  rw [show Tryz.prog.bytesOf 104=24 by kernel_rfl] at hm
  exact ⟨l,by simpa using hm,rfl⟩)
theorem zpq:Tryz.prog.underlying 59=some (.struct (Tryz.prog.fieldsOf 59)):=by kernel_rfl
end
end Go.Proofs.YtkcahmbcpkjpiaaGreatDoor
namespace Go.Proofs.YtkcahmbcpkjpiaaGreatDoor
open Go.RowKit Go.ChangeShapes Go.WideShapes Go.ChangeAt
section
variable {H:Type} {enc:TypeId × Value→H} {w:World} {sp:Nat→Bool} {held:Bool}
theorem zvE:zbN enc Tryz.prog w sp held 59 4 fun ps=>∃ c:Chain,c.cs.length * 24≤140737488355328∧ps=cCh c :=
 (za8 [(3,1,_),(4,1,_),(3,1,_),(57,1,_)] zpq (by kernel_rfl) (by kernel_rfl) rfl ⟨zi7,zpp,zi7,zzj,trivial⟩).mono (by
  rintro ps ⟨a,b,rfl,-,⟨x,hx,rfl⟩,c,d,rfl,-,⟨y,rfl⟩,f,g,rfl,-,⟨z,hz,rfl⟩,k,q,rfl,-,⟨l,hl,rfl⟩,rfl⟩
  exact ⟨⟨x,y,z,l⟩,by simp [reachBytes] at hl; show l.length * 24≤_; omega,rfl⟩)
theorem ztC {b0 : Nat} {v : Value} {d : DataW H} {p : List MemPlace} (hv : Value.okWide Tryz.prog w .any b0 59 v) (h : DataW.Trod enc Tryz.prog w 0 sp held 59 v d p) (hw : ∀ k ∈ d.weights Tryz.prog 59, k ≤ reachBytes) :
    ∃ c:Chain,c.cs.length * 24≤140737488355328∧Arg w (.agg (cCh c)) v:=by
  obtain ⟨cs,rfl,-⟩:=okWide_struct zpq hv
  obtain ⟨ps,⟨c,h1,rfl⟩,h4⟩:=zpo zvE ⟨_,rfl⟩ h hw (zu (zeC w) (zeC w).C0 [] w) (fun _ _ h=>zod h) _
  exact ⟨c,h1,h4⟩
end
end Go.Proofs.YtkcahmbcpkjpiaaGreatDoor
namespace Go.Proofs.YtkcahmbcpkjpiaaGreatDoor
open Go.RowKit Go.ChangeShapes Go.WideShapes Go.ChangeAt
section
variable {H:Type} {enc:TypeId × Value→H}
end
end Go.Proofs.YtkcahmbcpkjpiaaGreatDoor
