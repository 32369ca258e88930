/- Joined texts of this claim: F2 F3 F6 F7 H1 Lt F8 F9 F10 F11 F12 U20 Q1 Q2 Q3 E8 EntryW RefA Eq RefE BytesW PutW EncW ReadW. -/
import Derived.Test.YtkcahmbcpkjpiaaGreatDoorKG
import Derived.Test.YtkcahmbcpkjpiaaGreatDoorKE
import Derived.Shelf.Strings.Split
import Derived.Test.YtkcahmbcpkjpiaaGreatDoorKF
import Derived.Test.YtkcahmbcpkjpiaaGreatDoorKB
import Derived.Test.YtkcahmbcpkjpiaaGreatDoorKD
import Derived.Shelf.Small.Strs
import Derived.RangeFuncLeaves
import Derived.RangeFuncRecord
import Derived.TacticsIn
import Derived.Test.YtkcahmbcpkjpiaaGreatDoorProg
import Derived.Lib.AppendStr
import Derived.WalkLawsBesides
import Derived.Deep.RegionWith
import Derived.Deep.RegionHeld3
import Derived.Deep.AppendLies
import Derived.Deep.RegionLaw
set_option linter.unusedSimpArgs false
set_option linter.unusedVariables false
set_option linter.unusedSectionVars false
set_option maxHeartbeats 8000000
set_option maxRecDepth 100000
namespace Go.Proofs.YtkcahmbcpkjpiaaGreatDoor
open Go.RowKit Go.Shelf
def spB:ByteArray:=⟨#[32]⟩
def Z3 (s:ByteArray):List ByteArray:=Lib.splitB spB 0 (Lib.countB s spB) s
theorem zem (s:ByteArray):(Z3 s).length=Lib.countB s spB + 1:=Lib.splitB_all spB (by decide) 0 _ s rfl
theorem zmd (s:ByteArray):(Z3 s).length≤s.size + 1:=by
 have:=Lib.countB_le spB (by decide) s.size s (yag _)
 rw [zem]; omega
theorem Any.split_sp {P : Program} {ρ : Ren} (L : Lays.n146 P ρ) (hi9 : (P.info? (ρ.t 9)).map (fun i => (i.zero, i.size, i.bytes)) = some (some (.string ByteArray.empty), 1, 16)) (s : ByteArray) (w : World) (hs : s.size < 4294967281) :
    Calls P (ρ.f 146) #[.string s,.string spB] w fun e w' =>
      e = .returned (.slice (some ⟨w.heap.size,0,none⟩) (Lib.countB s spB + 1) (Lib.countB s spB + 1))∧w'=w.alloc (.cells ((Z3 s).map Value.string).toArray (ρ.t 9)):=by
  have h1:1≤spB.size:=by decide
  have hle:=Lib.countB_le spB h1 s.size s (yag _)
  have hlen:=zem s
  have c:=Any.strings_genSplit_core { L with } hi9 s spB 0 (-1) (Lib.countB s spB + 1) w hs h1 (ybv _)
    (fun x c hx=>(Any.strings_Index_one { L with } x 32 _).mono fun e w' ⟨he,hw⟩=>⟨by rw [he,← Lib.index_one]; rfl,hw⟩)
    ((Any.strings_Count_one { L with } s 32 w).mono fun e w' ⟨he,hw⟩=>⟨by
      rw [he]
      show _=Ending.returned (Value.int .i64 ((Lib.count s.data.toList [32]:Nat):Int))
      rw [Lib.count_one]; rfl,hw⟩)
    (by decide) (by decide) (by rw [if_pos (by decide)]; omega)
  rw [ybX] at c
  have e1:(Lib.splitB spB 0 (Lib.countB s spB) s).length=Lib.countB s spB + 1:=hlen
  rw [e1] at c
  have e2:Lib.cellsOf (Lib.splitB spB 0 (Lib.countB s spB) s) (Lib.countB s spB + 1)=((Lib.splitB spB 0 (Lib.countB s spB) s).map Value.string).toArray:=by rw [← e1]; exact Lib.cellsOf_full _
  rw [e2] at c
  have t3:=L.t3; have t9:=L.t9; have t31:=L.t31
  have a3:=L.a3; have a9:=L.a9; have a31:=L.a31
  have z3:=L.z3; have v3:=L.v3; have z9:=L.z9; have v9:=L.v9; have z31:=L.z31; have v31:=L.v31
  have e221:∀ args w,(callFunc (ρ.f 221) args).run P w = .ok (.enter (ρ.f 221) args) w:=enters_of L.f221 (by kernel_rfl) rfl
  go_enter L.f146,Body.n146_ntmps ρ
  go_wp2_with (go_at_fn (ρ.f 221); refine c.mono ?_; rintro e w' ⟨rfl,hw⟩; rw [hw])
  go_ret
  exact ⟨rfl,rfl⟩
theorem znC (s : ByteArray) (w : World) (hs : s.size < 4294967281) : Calls Tryz.prog 153 #[.string s, .string spB] w fun e w' =>
      e = .returned (.slice (some ⟨w.heap.size,0,none⟩) (Z3 s).length (Z3 s).length)∧w'=w.alloc (.cells ((Z3 s).map Value.string).toArray 9):=by
  rw [zem]
  exact Any.split_sp zA4 (by kernel_rfl) s w hs
def zbY (s:ByteArray):List PV := [.str s]
theorem znD (s:ByteArray) (hs:s.size < 4294967281):zg Tryz.prog 153 [.str s,.str spB] [] (.list ((Z3 s).map zbY)) []:=by
 intro x vs hx h0 hp
 obtain ⟨a,b,rfl,-,-⟩:=zkh hp.1
 have h1:RepV (zu x x.C0 [] x.w0) x.w0 x.C0 (.str s) a:=hp.2 0 _ _ rfl rfl
 have h2:RepV (zu x x.C0 [] x.w0) x.w0 x.C0 (.str spB) b:=hp.2 1 _ _ rfl rfl
 obtain rfl:=h1.str_inv
 obtain rfl:=h2.str_inv
 refine (znC s x.w0 hs).mono fun e w' ⟨he,hw⟩=>?_
 subst he; subst hw
 obtain ⟨k1,k2,k3⟩:=h0.grow (zbq x.w0 (.cells ((Z3 s).map Value.string).toArray 9) (may:=fun _=>False))
 have hle:=zmd s
 refine ⟨_,x.C0,rfl,k1,.pure ?_⟩
 have hl:(Z3 s).length=((Z3 s).map zbY).length:=by simp
 rw [show (Value.slice (some ⟨x.w0.heap.size,0,none⟩) (Z3 s).length (Z3 s).length)=Value.slice (some ⟨x.w0.heap.size,0,none⟩) ((Z3 s).map zbY).length (Z3 s).length by rw [← hl]]
 have hget:∀ k row (j:Nat) p,((Z3 s).map zbY)[k]? = some row→row[j]? = some p→j=0∧k < (Z3 s).length∧p = .str (nth (Z3 s) k):=by
  intro k row j p a1 a2
  rw [yav] at a1
  obtain ⟨q,hq,rfl⟩:=yad.1 a1
  have hk:=(yab.1 hq).1
  cases j with
  | zero=>simp [zbY] at a2; refine ⟨rfl,hk,?_⟩; rw [← a2,zv _ _ hk]; rw [yac hk] at hq; rw [ybe hq]
  | succ j=>simp [zbY] at a2
 refine .list _ _ _ 1 (fun k _ => .string (nth (Z3 s) k)) (by simp) (by unfold maxLen; omega) (by omega) (fun row hrow=>by obtain ⟨q,-,rfl⟩:=yaG.1 hrow; rfl) (fun k row j p a1 a2=>?_) (fun k row j p a1 a2=>?_)
 ·
  obtain ⟨rfl,hk,-⟩:=hget k row j p a1 a2
  refine ⟨x.w0.heap.size,0,rfl,zjT h0 _ _ _,?_⟩
  rw [ZG (heap_alloc_new x.w0 _)]
  simp [hk,zv _ _ hk]
 ·
  obtain ⟨rfl,hk,rfl⟩:=hget k row j p a1 a2
  exact .str _
end Go.Proofs.YtkcahmbcpkjpiaaGreatDoor
namespace Go.Proofs.YtkcahmbcpkjpiaaGreatDoor
open Go.RowKit
open Tryz
instance:Inhabited ByteArray:=⟨⟨#[]⟩⟩
theorem zme (l : List ByteArray) (g : Nat) (caps : List PV) (Hs : List AObj) (p : ByteArray → Bool) (hg : ZU prog g = true) (hl : l.length ≤ 9223372036854775806) (hc : ClosedH Hs caps)
    (hp:∀ e ∈ l,zg prog g (.str e :: caps) Hs (.bool (p e)) Hs) :
    zg prog 222 [.list (l.map zbY),.clo g caps] Hs (.int .i64 (zaC p l 0)) Hs:=by
  refine zg.of_walk func222 ntmps222 zwT.1 zwT.2 (by simp) fun x hx=>?_
  simp only [go_sem,zCa,zCb]
  refine zcm [0,1,7,8] (fun n st=>∃ k:Nat,k + n=l.length∧zaC p (l.drop k) k=zaC p l 0 ∧
    st=⟨mkE .top [(0,.list (l.map zbY)),(1,.clo g caps),(7,.int .i64 l.length),(8,.int .i64 k)],Hs⟩) l.length ?_ ?_
  · refine ⟨0,by omega,by simp,?_⟩
    simp [ZX,go_sem]
  · rintro n st ⟨k,hk,hi,rfl⟩
    by_cases hlt:k < l.length
    · have hgt:l[k]? = some (nth l k):=zk _ _ hlt
      have wk:=zM (k:=k) (by omega)
      rw [zaS p l k hlt] at hi
      simp only [go_sem,hlt,hgt,zbY]
      refine Zm rfl hg (.whole (hp (nth l k) (by rw [zv _ _ hlt]; exact yaw hlt)) rfl ?_ hc.sub hc.back) ?_
      · simp only [go_sem,zbY]
        rw [hc.caps]
      cases hpk:p (nth l k)
      · rw [if_neg (by simp [hpk])] at hi
        simp only [go_sem,wk]
        exact ⟨n - 1,by omega,k + 1,by omega,hi,by simp [ZX,go_sem,zbY]⟩
      · rw [if_pos hpk] at hi
        simp only [go_sem]
        refine zav hx rfl hc.kept ?_
        simp [go_sem,zCa,zCb,hi]
    · have:l.drop k = []:=ya2 (by omega)
      rw [this] at hi
      simp only [go_sem,hlt]
      refine zav hx rfl hc.kept ?_
      simp [go_sem,zCa,zCb,← hi,zaC]
theorem zmf (l : List ByteArray) (g : Nat) (caps : List PV) (Hs : List AObj) (p : ByteArray → Bool) (hg : ZU prog g = true) (hl : l.length ≤ 9223372036854775806) (hc : ClosedH Hs caps)
    (hp:∀ e ∈ l,zg prog g (.str e :: caps) Hs (.bool (p e)) Hs) :
    zg prog 154 [.list (l.map zbY),.clo g caps] Hs (.bool (l.any p)) Hs:=by
  refine zg.of_walk func154 ntmps154 zwf.1 zwf.2 (by simp) fun x hx=>?_
  simp only [go_sem,zCU,zCV]
  refine zc (.whole (zme l g caps Hs p hg hl hc hp) rfl ?_ hc.sub hc.back) ?_
  · simp only [go_sem]
    rw [hc.leaf]
  simp only [go_sem]
  refine zav hx rfl hc.kept ?_
  simp [go_sem,zCU,zCV,zcH]
theorem zsD:ClosedH [] []:=⟨rfl,rfl,rfl,rfl,rfl⟩
theorem znE (s:ByteArray) (hs:s.size≤1000000000000000):zg prog 155 [.str s] [] (.bool (!zd7 s)) []:=by
 refine zg.of_walk func155 ntmps155 zwg.1 zwg.2 (by simp) fun x hx=>?_
 simp only [go_sem,zCW,zCX]
 refine zc (.pure (zjI s hs)) ?_
 simp only [go_sem]
 refine zd hx ?_
 simp [go_sem,zCW,zCX]
theorem zqr (s:ByteArray):∀ (n:Nat) (t:ByteArray) (p:ByteArray),p ∈ Lib.splitB spB 0 n t→p.size≤t.size:=by
 intro n
 induction n with
 | zero=>intro t p h; simp [Lib.splitB] at h; rw [h]; exact yag _
 | succ n ih =>
  intro t p h
  rcases Lib.indexB_cases t spB with hm | ⟨i,hi,hr⟩
  ·
   rw [Lib.splitB_miss _ _ _ _ hm] at h
   simp at h; rw [h]; exact yag _
  ·
   rw [Lib.splitB] at h
   split at h
   ·
    simp at h; rw [h]; exact yag _
   ·
    rcases yaN.1 h with rfl | h
    ·
     rw [ByteArray.size_extract]; omega
    ·
     have:=ih _ _ h
     rw [ByteArray.size_extract] at this; omega
def zEe:ByteArray:=⟨#[112,117,116]⟩
def zA5:ByteArray:=⟨#[100,114,111,112]⟩
def zdG (s:ByteArray):Int × ByteArray × ByteArray:=match Z3 s with
 | [a,b,c]=>if a=zEe∧zd7 b=true∧zd7 c=true then (1,b,c) else (0,⟨#[]⟩,⟨#[]⟩)
 | [a,b]=>if a=zA5∧zd7 b=true then (2,b,⟨#[]⟩) else (0,⟨#[]⟩,⟨#[]⟩)
 | _=>(0,⟨#[]⟩,⟨#[]⟩)
def zqs (o:Int × ByteArray × ByteArray):List PV := [.int .i64 o.1,.str o.2.1,.str o.2.2,.int .i64 (if o.1=0 then 1 else 0)]
theorem zkE (s:ByteArray) (hs:s.size < 4294967281):zg prog 79 [.str s] [] (.tup (zqs (zdG s))) []:=by
 have hlen:=zmd s
 have hpos:1≤(Z3 s).length:=by rw [zem]; omega
 have hb:∀ p ∈ (Z3 s),p.size≤1000000000000000:=fun p hp=>by have:=zqr s _ s p hp; omega
 obtain ⟨o,hop⟩:∃ o,zdG s=o:=⟨_,rfl⟩
 rw [hop]
 unfold zdG at hop
 refine zg.of_walk func79 ntmps79 zAc.1 zAc.2 (by simp) fun x hx=>?_
 simp only [go_sem,L79,R79]
 have hsp:(⟨#[32]⟩:ByteArray)=spB:=rfl
 rw [hsp]
 refine zc (.pure (znD s hs)) ?_
 generalize Z3 s=l at hlen hpos hb hop
 match l,hpos with
 | a :: r,_ =>
  have hS:(1≤((r.length + 1:Nat):Int)∧∀ row,row ∈ [PV.str a] :: List.map zbY r→row.length=1)=True:=eq_true ⟨by omega,fun row hr=>by
   rcases yaN.1 hr with rfl | hr
   ·
    rfl
   ·
    obtain ⟨q,-,rfl⟩:=yaG.1 hr; rfl⟩
  have hT:List.take (((r.length + 1:Nat):Int) - 1).toNat (List.map zbY r)=r.map zbY:=yan (by rw [yah]; omega)
  have hc:=zmf r 155 [] [] (fun w => !zd7 w) (by kernel_rfl) (by simp only [yax] at hlen; omega) zsD (fun e he=>znE e (hb e (ybu _ he)))
  simp only [go_sem,zab,Int.reduceLT,Int.reduceLE,Int.reduceToNat,Int.reduceAdd,frz,yaA,yax,zbY,hS,hT]
  refine zc (.pure hc) ?_
  clear hc hS hT hb hlen
  cases hbad:r.any fun w => !zd7 w
  ·
   have hall:∀ w ∈ r,zd7 w=true:=fun w hw=>by
    have:=yaZ.1 hbad w hw
    simpa using this
   match r,hall,hop with
   | [],hall,hop =>
    simp only [go_sem,zab,Int.reduceLT,Int.reduceLE,Int.reduceToNat,Int.reduceAdd,frz,ya3,yaS]
    refine zd hx ?_
    rw [← hop]
    simp [go_sem,L79,R79,zqs]
   | [b],hall,hop =>
    have w1:=hall b (by simp)
    by_cases h1:a=zA5
    ·
     have h1':(a=(⟨#[100,114,111,112]⟩:ByteArray))=True:=eq_true h1
     simp only [go_sem,zab,Int.reduceLT,Int.reduceLE,Int.reduceToNat,Int.reduceAdd,frz,yaA,ya3,yax,yaS,zbY,h1']
     refine zd hx ?_
     rw [← hop]
     simp [go_sem,L79,R79,zqs,h1,w1]
    ·
     have h1':(a=(⟨#[100,114,111,112]⟩:ByteArray))=False:=eq_false h1
     simp only [go_sem,zab,Int.reduceLT,Int.reduceLE,Int.reduceToNat,Int.reduceAdd,frz,yaA,ya3,yax,yaS,zbY,h1']
     refine zd hx ?_
     rw [← hop]
     simp [go_sem,L79,R79,zqs,h1]
   | [b,c],hall,hop =>
    have w1:=hall b (by simp)
    have w2:=hall c (by simp)
    by_cases h1:a=zEe
    ·
     have h1':(a=(⟨#[112,117,116]⟩:ByteArray))=True:=eq_true h1
     simp only [go_sem,zab,Int.reduceLT,Int.reduceLE,Int.reduceToNat,Int.reduceAdd,frz,yaA,ya3,yax,yaS,zbY,h1']
     refine zd hx ?_
     rw [← hop]
     simp [go_sem,L79,R79,zqs,h1,w1,w2]
    ·
     have h1':(a=(⟨#[112,117,116]⟩:ByteArray))=False:=eq_false h1
     simp only [go_sem,zab,Int.reduceLT,Int.reduceLE,Int.reduceToNat,Int.reduceAdd,frz,yaA,ya3,yax,yaS,zbY,h1']
     refine zd hx ?_
     rw [← hop]
     simp [go_sem,L79,R79,zqs,h1]
   | b :: c :: d :: q,hall,hop =>
    have n3:¬ (((q.length + 1 + 1 + 1 + 1:Nat):Int)=3):=by omega
    have n2:¬ (((q.length + 1 + 1 + 1 + 1:Nat):Int)=2):=by omega
    simp only [go_sem,zab,Int.reduceLT,Int.reduceLE,Int.reduceToNat,Int.reduceAdd,frz,yaA,yax,yah,zbY,n3,n2]
    refine zd hx ?_
    rw [← hop]
    simp [go_sem,L79,R79,zqs]
  ·
   simp only [go_sem,zab,Int.reduceLT,Int.reduceLE,Int.reduceToNat,Int.reduceAdd,frz]
   refine zd hx ?_
   have:o=(0,⟨#[]⟩,⟨#[]⟩):=by
    rw [← hop]
    match r,hbad with
    | [],hbad=>rfl
    | [b],hbad =>
     have:zd7 b=false:=by simpa using hbad
     simp [this]
    | [b,c],hbad =>
     have:¬ (zd7 b=true∧zd7 c=true):=by
      rintro ⟨h1,h2⟩
      simp [h1,h2] at hbad
     simp only
     rw [if_neg (fun h=>this h.2)]
    | b :: c :: d :: q,hbad=>rfl
   rw [this]
   simp [go_sem,L79,R79,zqs]
structure FOp where
 id:Id
 k:ByteArray
 v:ByteArray
 p:Bool
deriving Inhabited
def cOp (o:FOp):List PV := [.int .i64 o.id.r,.int .i64 o.id.n,.str o.k,.str o.v,.bool o.p]
def opE (e:Entry):Option FOp:=if (zdG e.t).1=0 then none else some ⟨e.id,(zdG e.t).2.1,(zdG e.t).2.2,decide ((zdG e.t).1=1)⟩
def zdj (l:List Entry) (c:Int):List FOp:=(zL l c).filterMap opE
theorem zsE (s:ByteArray):(zdG s).1=0∨(zdG s).1=1∨(zdG s).1=2:=by
 unfold zdG
 split
 ·
  split
  ·
   exact .inr (.inl rfl)
  ·
   exact .inl rfl
 ·
  split
  ·
   exact .inr (.inr rfl)
  ·
   exact .inl rfl
 ·
  exact .inl rfl
theorem zsF {l:List Entry} {k:Nat} (h:k < l.length):(l.take (k + 1)).filterMap opE=(l.take k).filterMap opE ++ (opE (nth l k)).toList:=by
 rw [yby,zk _ _ h,List.filterMap_append]
 cases h2:opE (nth l k) <;> simp [h2]
theorem zfK {α β:Type} (f:α→Option β) (l:List α):(l.filterMap f).length≤l.length:=List.length_filterMap_le ..
def zeK (ps:List (List Id)) (l:List Entry) (all:List FOp) (o:FOp):Bool:=o.p && !(all.any fun x=>decide (x.k=o.k) && zaG (z8 ps l x.id) o.id)
theorem zmg (l:List Entry) (c:Int) (h:LogOk l) (hc:ZI c 1 7=true) (ht:∀ e ∈ l,e.t.size≤4294967000):zg prog 181 [.list (l.map cE),.int .i64 c] [] (.list ((zdj l c).map cOp)) []:=by
 have hm:=h.len
 have hwl:=zbk l c
 have htw:∀ e ∈ zL l c,e.t.size≤4294967000:=fun e he=>ht e (ya1.1 he).1
 refine zg.of_walk func181 ntmps181 zwC.1 zwC.2 (by simp) fun x hx=>?_
 simp only [go_sem,zDq,zDr]
 refine zc (.pure (zc9 l c h hc)) ?_
 simp only [go_sem,yah]
 refine zaM (ZR 5 0 242 5 false false rfl (by omega)) ?_
 obtain ⟨W,hW⟩:∃ W,zL l c=W:=⟨_,rfl⟩
 rw [zdj,hW]
 rw [hW] at hwl htw
 refine zy [5,14,15,16] 1 (fun n st=>∃ k v:Nat,k + n=W.length ∧
  st=⟨mkE .top [(5,.arr 0 v),(14,.list (W.map cE)),(15,.int .i64 W.length),(16,.int .i64 k)],[.arr v false false 242 5 (((W.take k).filterMap opE).map cOp)]⟩) W.length (by simp [hx]) (by simp [St.put]) ?_ ?_
 ·
  refine ⟨0,0,by omega,?_⟩
  simp [zh,go_sem,ze,zf,pos,yaa]
 ·
  rintro n st ⟨k,v,hk,rfl⟩
  by_cases hlt:k < W.length
  ·
   have hg:W[k]? = some (nth W k):=zk _ _ hlt
   have wk:=zM (k:=k) (by omega)
   have hsz:=htw (nth W k) (yaf hg)
   have htk:=zsF hlt
   have hlen:=zfK opE (W.take k)
   rw [yaz] at hlen
   simp only [go_sem,hlt,hg,cE]
   refine zc (.pureE (zkE (nth W k).t (by omega)) (by simp [go_sem])) ?_
   rcases zsE (nth W k).t with h0 | h1 | h2
   ·
    have hoe:opE (nth W k)=none:=by simp [opE,h0]
    rw [hoe] at htk
    simp only [go_sem,zab,Int.reduceLT,Int.reduceLE,Int.reduceToNat,Int.reduceAdd,frz,zqs,h0,wk]
    refine ⟨by simp,n - 1,by omega,k + 1,v,by omega,?_⟩
    rw [htk]
    simp [zh,go_sem,ze,zf,pos,yaa]
   ·
    have hoe:opE (nth W k)=some ⟨(nth W k).id,(zdG (nth W k).t).2.1,(zdG (nth W k).t).2.2,true⟩:=by simp [opE,h1]
    rw [hoe] at htk
    simp only [go_sem,zab,Int.reduceLT,Int.reduceLE,Int.reduceToNat,Int.reduceAdd,frz,zqs,h1,wk]
    rw [Zf rfl rfl (by simp) (by simp; omega)]
    simp only [go_sem,wk]
    refine ⟨by simp,n - 1,by omega,k + 1,v + 1,by omega,?_⟩
    rw [htk]
    simp [zh,go_sem,ze,zf,zn,zp,pos,yaa,cOp]
   ·
    have hoe:opE (nth W k)=some ⟨(nth W k).id,(zdG (nth W k).t).2.1,(zdG (nth W k).t).2.2,false⟩:=by simp [opE,h2]
    rw [hoe] at htk
    simp only [go_sem,zab,Int.reduceLT,Int.reduceLE,Int.reduceToNat,Int.reduceAdd,frz,zqs,h2,wk]
    rw [Zf rfl rfl (by simp) (by simp; omega)]
    simp only [go_sem,wk]
    refine ⟨by simp,n - 1,by omega,k + 1,v + 1,by omega,?_⟩
    rw [htk]
    simp [zh,go_sem,ze,zf,zn,zp,pos,yaa,cOp]
  ·
   have:W.take k=W:=yan (by omega)
   simp only [go_sem,hlt,this]
   refine zd hx ?_
   simp [go_sem,zDq,zDr,zt,pos]
theorem znF (l : List Entry) (ps : List (List Id)) (o y : FOp) (hl : l.length ≤ 9223372036854775806) (h0 : 0 ≤ zG l y.id) (h1 : zG l y.id < ps.length) (h2 : (z8 ps l y.id).length ≤ 9223372036854775806) :
    zg prog 186 [.agg (cOp y),.rptr (cOp o),.rptr [zj l ps]] [] (.bool (decide (y.k=o.k) && zaG (z8 ps l y.id) o.id)) []:=by
  refine zg.of_walk func186 ntmps186 zwG.1 zwG.2 (by simp) fun x hx=>?_
  simp only [go_sem,zB2,zB3,cOp]
  by_cases hk:y.k=o.k
  · simp only [go_sem,hk,decide_true,cOp]
    refine zc (.pureE (zdq l ps o.id y.id hl h0 h1 h2) (by simp [go_sem,cId,zj])) ?_
    simp only [go_sem]
    refine zd hx ?_
    simp [go_sem,zB2,zB3,hk]
  · simp only [go_sem,hk,decide_false,cOp]
    refine zd hx ?_
    simp [go_sem,zB2,zB3]
theorem zfL (l : List FOp) (g : Nat) (caps : List PV) (Hs : List AObj) (p : FOp → Bool) (hg : ZU prog g = true) (hl : l.length ≤ 9223372036854775806) (hc : ClosedH Hs caps)
    (hp:∀ e ∈ l,zg prog g (.agg (cOp e) :: caps) Hs (.bool (p e)) Hs) :
    zg prog 228 [.list (l.map cOp),.clo g caps] Hs (.int .i64 (zaC p l 0)) Hs:=by
  refine zg.of_walk func228 ntmps228 zwW.1 zwW.2 (by simp) fun x hx=>?_
  simp only [go_sem,zCe,zCf]
  refine zcm [0,1,7,8] (fun n st=>∃ k:Nat,k + n=l.length∧zaC p (l.drop k) k=zaC p l 0 ∧
    st=⟨mkE .top [(0,.list (l.map cOp)),(1,.clo g caps),(7,.int .i64 l.length),(8,.int .i64 k)],Hs⟩) l.length ?_ ?_
  · refine ⟨0,by omega,by simp,?_⟩
    simp [ZX,go_sem]
  · rintro n st ⟨k,hk,hi,rfl⟩
    by_cases hlt:k < l.length
    · have hgt:l[k]? = some (nth l k):=zk _ _ hlt
      have wk:=zM (k:=k) (by omega)
      rw [zaS p l k hlt] at hi
      simp only [go_sem,hlt,hgt,cOp,cId]
      refine Zm rfl hg (.whole (hp (nth l k) (by rw [zv _ _ hlt]; exact yaw hlt)) rfl ?_ hc.sub hc.back) ?_
      · simp only [go_sem,cOp,cId]
        rw [hc.caps]
      cases hpk:p (nth l k)
      · rw [if_neg (by simp [hpk])] at hi
        simp only [go_sem,wk]
        exact ⟨n - 1,by omega,k + 1,by omega,hi,by simp [ZX,go_sem]⟩
      · rw [if_pos hpk] at hi
        simp only [go_sem]
        refine zav hx rfl hc.kept ?_
        simp [go_sem,zCe,zCf,hi]
    · have:l.drop k = []:=ya2 (by omega)
      rw [this] at hi
      simp only [go_sem,hlt]
      refine zav hx rfl hc.kept ?_
      simp [go_sem,zCe,zCf,← hi,zaC]
theorem zkF (l : List FOp) (g : Nat) (caps : List PV) (Hs : List AObj) (p : FOp → Bool) (hg : ZU prog g = true) (hl : l.length ≤ 9223372036854775806) (hc : ClosedH Hs caps)
    (hp:∀ e ∈ l,zg prog g (.agg (cOp e) :: caps) Hs (.bool (p e)) Hs) :
    zg prog 185 [.list (l.map cOp),.clo g caps] Hs (.bool (l.any p)) Hs:=by
  refine zg.of_walk func185 ntmps185 zwF.1 zwF.2 (by simp) fun x hx=>?_
  simp only [go_sem,zDs,zDt]
  refine zc (.whole (zfL l g caps Hs p hg hl hc hp) rfl ?_ hc.sub hc.back) ?_
  · simp only [go_sem]
    rw [hc.leaf]
  simp only [go_sem]
  refine zav hx rfl hc.kept ?_
  simp [go_sem,zDs,zDt,zcH]
theorem zen {caps:List PV} (h1:caps.map (zp true (pos (List.range 0)) (zt false []))=caps) (h2:caps.map (ren true (pos (List.range 0)) (zt false []))=caps):ClosedH [] caps:=⟨h1,h2,rfl,rfl,rfl⟩
theorem zia (l : List Entry) (ps : List (List Id)) (all : List FOp) (o : FOp) (hl : l.length ≤ 9223372036854775806) (ha : all.length ≤ 9223372036854775806)
    (h:∀ y ∈ all,0≤zG l y.id∧zG l y.id < ps.length∧(z8 ps l y.id).length≤9223372036854775806) :
    zg prog 184 [.agg (cOp o),.rptr [.list (all.map cOp)],.rptr [zj l ps]] [] (.bool (!zeK ps l all o)) []:=by
  have hc:=zkF all 186 [.rptr (cOp o),.rptr [zj l ps]] [] (fun y=>decide (y.k=o.k) && zaG (z8 ps l y.id) o.id) (by kernel_rfl) ha
    (zen (by simp [zp,cOp,zj]) (by simp [ren,zdA,zn,zp,cOp,zj])) (fun y hy=>znF l ps o y hl (h y hy).1 (h y hy).2.1 (h y hy).2.2)
  refine zg.of_walk func184 ntmps184 zwE.1 zwE.2 (by simp) fun x hx=>?_
  simp only [go_sem,zB0,zB1,cOp]
  cases hp:o.p
  · simp only [go_sem]
    refine zd hx ?_
    simp [go_sem,zB0,zB1,zeK,hp]
  · simp only [go_sem]
    refine zc (.lookE hc rfl (by simp [go_sem,zjY,zf6,cOp,zj,hp])) ?_
    simp only [go_sem]
    refine zd hx ?_
    simp [go_sem,zB0,zB1,zeK,hp]
def zqt:Code→List Code
 | .seq a b=>zqt a ++ zqt b
 | c => [c]
def zmh (P:Program) (nt:Nat):List Code→Option (List LC)
 | []=>some []
 | c :: l=>match zq P nt c,zmh P nt l with
  | some a,some r=>some (a :: r)
  | _,_=>none
def WPL (P:Program):List Code→(Exit→Act→World→Prop)→Act→World→Prop
 | [],Q,a,w=>Q .normal a w
 | c :: l,Q,a,w=>c.wp P (Exit.then (WPL P l Q) Q) a w
section
variable {P:Program} {x:Cx} {nt:Nat} {st:St}
theorem zsG {n n':Act→World→Prop} {Q Q':Exit→Act→World→Prop} (hn:∀ a w,n a w→n' a w) (hq:∀ e a w,Q e a w→Q' e a w) (e:Exit) (a:Act) (w:World) (h:Exit.then n Q e a w):Exit.then n' Q' e a w:=by
 cases e with
 | normal=>exact hn _ _ h
 | _=>exact hq _ _ _ h
theorem zkG:∀ {l:List Code} {Q Q':Exit→Act→World→Prop} {a:Act} {w:World},WPL P l Q a w→(∀ e a w,Q e a w→Q' e a w)→WPL P l Q' a w
 | [],_,_,_,_,h,hq=>hq _ _ _ h
 | c :: l,Q,Q',a,w,h,hq=>wp_mono (c:=c) h fun e a' w' h'=>zsG (fun _ _ h2=>zkG (l:=l) h2 hq) hq e a' w' h'
theorem zsH:∀ {l1 l2:List Code} {Q:Exit→Act→World→Prop} {a:Act} {w:World},WPL P (l1 ++ l2) Q a w→WPL P l1 (Exit.then (WPL P l2 Q) Q) a w
  | [],_,_,_,_,h=>h
  | c :: l1, l2, Q, a, w, h => wp_mono (c := c) h fun e a' w' h' => by
      cases e with
      | normal=>exact zsH (l1:=l1) h'
      | _=>exact h'
theorem zoV:∀ {l1 l2:List Code} {Q:Exit→Act→World→Prop} {a:Act} {w:World},WPL P l1 (Exit.then (WPL P l2 Q) Q) a w→WPL P (l1 ++ l2) Q a w
  | [],_,_,_,_,h=>h
  | c :: l1, l2, Q, a, w, h => wp_mono (c := c) h fun e a' w' h' => by
      cases e with
      | normal=>exact zoV (l1:=l1) h'
      | _=>exact h'
theorem zdH {c:Code} {Q:Exit→Act→World→Prop} {a:Act} {w:World} (h:WPL P [c] Q a w):c.wp P Q a w:=wp_mono (c:=c) h fun e a' w' h'=>by cases e <;> exact h'
theorem znG:∀ {c:Code} {Q:Exit→Act→World→Prop} {a:Act} {w:World},WPL P (zqt c) Q a w→c.wp P Q a w
 | .seq c1 c2,Q,a,w,h=>by
  rw [zqt] at h
  refine wp_seq (znG (c:=c1) (zkG (zsH h) fun e a' w' h'=>?_))
  cases e with
  | normal=>exact znG (c:=c2) h'
  | _=>exact h'
 | .skip,_,_,_,h=>zdH h
 | .region ..,_,_,_,h=>zdH h
 | .cond ..,_,_,_,h=>zdH h
 | .block ..,_,_,_,h=>zdH h
 | .loop ..,_,_,_,h=>zdH h
 | .exit ..,_,_,_,h=>zdH h
 | .ret,_,_,_,h=>zdH h
 | .rangeFunc ..,_,_,_,h=>zdH h
 | .scope ..,_,_,_,h=>zdH h
 | .label ..,_,_,_,h=>zdH h
 | .goto ..,_,_,_,h=>zdH h
 | .refuse ..,_,_,_,h=>zdH h
theorem zsI:∀ {l:List Code} {ll:List LC} {Q:AE→St→Prop} {st:St} {a:Act} {w:World},zmh P nt l=some ll→WL P x nt ll Q st→Rel x nt st a w→WPL P l (zbV x nt Q) a w
 | [],ll,Q,st,a,w,h,hw,hr=>by cases h; exact ⟨st,hw,hr⟩
 | c :: l,ll,Q,st,a,w,h,hw,hr=>by
  rw [zmh] at h
  split at h <;> try (cases h; done)
  rename_i lc r h1 h2
  cases h
  refine wp_mono (hw c h1 a w hr) fun e a' w' hq=>?_
  cases e with
  | normal=>obtain ⟨st',g1,g2⟩:=hq; exact zsI (l:=l) h2 g1 g2
  | exit id=>exact hq
  | ret=>exact hq
  | goto l=>exact hq.elim
  | panic ch=>exact hq.elim
  | outgrown=>exact hq.elim
theorem zcL {ops:Array Oper} {Q:Exit→Act→World→Prop} {o:Oper} {rest:List Oper} {a:Act} {w w':World} {v:Value} (hg:o.guard=none) (hex:(execOp a.eval o).run P w = .ok (.value v) w') (h:wpList P ops Q rest (a.put o.dst v) w'):wpList P ops Q (o :: rest) a w:=by
 unfold wpList
 rw [if_pos (by simp [Region.wanted,hg])]
 refine .inl ?_
 unfold Oper.wp
 rw [hex]
 exact h
theorem zg.of_code {f : Nat} {fn : Func} {c : Code} {lrs : List LRes} {args : List PV} {Hs Hs' : List AObj} {r : PV} {nt : Nat} (hf : P.funcs[f]? = some fn) (hnt : fn.ntmps = nt) (hb : fn.body = some c) (hres : ZC P fn.results.toList = some lrs)
    (hargs:args.length≤nt)
    (h:∀ x:Cx,x.H0=Hs→∀ a w,Rel x nt (St.init args Hs) a w→c.wp P (zbV x nt (zli x nt lrs r Hs')) a w):zg P f args Hs r Hs':=by
  intro x vs hx hr hp
  have hvl:vs.size=args.length:=by have:=hp.1; simpa using this
  refine calls_of_wp hf hb ?_
  have hrel:Rel x nt (St.init args Hs) { tmps:=vs ++ Array.replicate (fn.ntmps - vs.size) Go.undef,defers := [] } x.w0:=by
    refine ⟨⟨x.C0,hr,fun t=>?_⟩,rfl,by simp; omega⟩
    simp only [St.init]
    by_cases ht:t < args.length
    · have e1:args[t]? = some args[t]:=yac ht
      have e2:vs.toList[t]? = some vs[t]:=by simp [ht,hvl]
      have:=hp.2 t _ _ e1 e2
      simp only [List.getD,e1,ybA]
      rw [show (vs ++ Array.replicate (fn.ntmps - vs.size) Go.undef).getD t Go.undef=vs[t] by
        simp [Array.getD,Array.getElem_append,hvl,ht]; omega]
      exact this
    · simp only [List.getD,ybq (by omega:args.length≤t),Option.getD_none]
      rw [show (vs ++ Array.replicate (fn.ntmps - vs.size) Go.undef).getD t Go.undef=Go.undef by
        simp only [Array.getD]
        split
        · rw [ybT,Array.getElem_append_right (by omega)]; simp
        · rfl]
      exact .undef
  have fin:∀ st a w,(∃ st' keep,za3 x nt st st'∧zzk x lrs keep r Hs' st')→Rel x nt st a w→a.defers = []∧∃ v,(results fn a.tmps).run P w = .ok v w∧∃ v1 C',Ending.returned v = .returned v1∧HR x C' Hs' w∧RepV (zu x C' Hs' w) w C' r v1:=by
    intro st a w ⟨st',keep,hwk,ps,h1,h2,h3,h4,h5,h6⟩ hrel
    replace hrel:=hwk a w hrel
    obtain ⟨⟨C,hr1,he⟩,hdf,hsz⟩:=hrel
    obtain ⟨us,k1,k2⟩:=zay hr1 he hres h1
    refine ⟨hdf,if h:us.toArray.size=1 then us.toArray[0] else .tuple us.toArray,?_,if h:us.toArray.size=1 then us.toArray[0] else .tuple us.toArray,C.sub (List.range x.H0.length ++ keep),rfl,?_⟩
    · have hm:(fn.results.mapM (zbW a.tmps)).run P w = .ok us.toArray w:=by
        rw [ybz]
        simp [k1]
      have hq:results fn a.tmps=(do let vs ← fn.results.mapM (zbW a.tmps); pure (if h:vs.size=1 then vs[0] else .tuple vs)):=rfl
      rw [hq,yal,hm,Result.andThen_ok,yay]
    · have hlen:(List.range x.H0.length ++ keep).Nodup:=by
        refine List.nodup_append.2 ⟨ybS,h2,fun a ha b hb e=>?_⟩
        have:=yaW.1 ha
        have:=(h3 b hb).1
        omega
      obtain ⟨q1, q2⟩ := hr1.restrict (ks := List.range x.H0.length ++ keep) hlen (fun k hk => by
          rcases yai.1 hk with h | h
          · have:=yaW.1 h; omega
          · exact (h3 k h).2) (fun i hi=>by rw [yaC (by simpa using hi),ya0 hi])
      subst h5
      subst h6
      exact ⟨q1,zcE q2 (zc1 k2)⟩
  refine wp_mono (h x hx _ _ hrel) fun e a w hq=>?_
  cases e with
  | normal=>obtain ⟨st,g1,g2⟩:=hq; exact fin st a w g1 g2
  | ret=>obtain ⟨st,g1,g2⟩:=hq; exact fin st a w g1 g2
  | exit id=>obtain ⟨st,g1,g2⟩:=hq; exact g1.elim
  | goto l=>exact hq.elim
  | panic ch=>exact hq.elim
  | outgrown=>exact hq.elim
theorem zg.of_tail {f : Nat} {fn : Func} {c : Code} {l1 l2 : List Code} {ll : List LC} {lrs : List LRes} {args : List PV} {Hs Hs' : List AObj} {r : PV} {nt : Nat} (hf : P.funcs[f]? = some fn) (hnt : fn.ntmps = nt) (hb : fn.body = some c) (hfl : zqt c = l1 ++ l2)
    (hlow:zmh P nt l1=some ll) (hres:ZC P fn.results.toList=some lrs) (hargs:args.length≤nt) (K:Cx→St→Prop)
    (h:∀ x:Cx,x.H0=Hs→WL P x nt ll (zeU (K x) (zli x nt lrs r Hs')) ⟨mkE .undef (zmL 0 args),Hs⟩)
    (hK:∀ x:Cx,x.H0=Hs→∀ st,K x st→∀ a w,Rel x nt st a w→WPL P l2 (zbV x nt (zli x nt lrs r Hs')) a w):zg P f args Hs r Hs' :=
  zg.of_code hf hnt hb hres hargs fun x hx a w hr=>znG (by
    rw [hfl]
    refine zoV (zkG (zsI hlow (h x hx) (by rw [← zj5]; exact hr)) fun e a' w' hq=>?_)
    cases e with
    | normal=>obtain ⟨st,g1,g2⟩:=hq; exact hK x hx st g1 a' w' g2
    | exit id=>exact hq
    | ret=>exact hq
    | goto l=>exact hq
    | panic ch=>exact hq
    | outgrown=>exact hq)
end
def zyF:List LC := [(.reg none [.q 4 (.mv (.val .nilsl))]),(.reg none [.q 8 (.mv (.tmp 0)),.q 9 (.mv (.tmp 1)),.q 10 (.call 228 [.tmp 8,.tmp 9] 0),.q 5 (.mv (.tmp 10))]),(.reg none [.q 11 (.mv (.tmp 5)),.q 12 (.bin .eql (.tmp 11) (.val (.int .i64 (-1))))]),(.cond (.tmp 12) (.seq (.reg none [.q 13 (.mv (.tmp 0)),.q 4 (.mv (.tmp 13))]) .ret) .skip),(.reg none [.q 14 (.mv (.tmp 5)),.q 15 (.bin .add (.tmp 14) (.val (.int .i64 1))),.q 6 (.mv (.tmp 15))]),(.block 0 (.loop (.seq (.seq (.reg none [.q 16 (.mv (.tmp 6)),.q 17 (.mv (.tmp 0)),.q 18 (.len false (.tmp 17)),.q 19 (.bin .lss (.tmp 16) (.tmp 18))]) (.cond (.tmp 19) .skip (.exit 0))) (.seq (.block 1 (.seq (.reg none [.q 22 (.mv (.tmp 0)),.q 23 (.mv (.tmp 6)),.q 24 (.iaddrS 5 (.tmp 22) (.tmp 23)),.q 25 (.load 5 true (.tmp 24)),.q 7 (.alloc [.int .i64 0,.int .i64 0,.str ⟨#[]⟩,.str ⟨#[]⟩,(.bool false)]),.s (.store 5 (.tmp 7) (.tmp 25))]) (.seq (.reg none [.q 26 (.mv (.tmp 1)),.q 27 (.load 5 true (.tmp 7)),.q 28 (.callv (.tmp 26) [.tmp 27]),.q 29 (.not (.tmp 28))]) (.cond (.tmp 29) (.seq (.reg none [.q 30 (.mv (.tmp 0)),.q 31 (.mv (.tmp 5)),.q 32 (.load 5 true (.tmp 7)),.q 33 (.iaddrS 5 (.tmp 30) (.tmp 31)),.s (.store 5 (.tmp 33) (.tmp 32))]) (.reg none [.q 34 (.mv (.tmp 5)),.q 35 (.bin .add (.tmp 34) (.val (.int .i64 1))),.q 5 (.mv (.tmp 35))])) .skip)))) (.reg none [.q 20 (.mv (.tmp 6)),.q 21 (.bin .add (.tmp 20) (.val (.int .i64 1))),.q 6 (.mv (.tmp 21))])))))]
def zDR:List LRes := [.tmp 4]
theorem zsJ:zmh prog 42 ((zqt (f182.body.getD .skip)).take 6)=some zyF:=by kernel_rfl
theorem zsK:f182.body=some (f182.body.getD .skip):=by kernel_rfl
theorem zxd:ZC prog f182.results.toList=some zDR:=by kernel_rfl
theorem zib {α:Type} [Inhabited α] {l:List α} {k:Nat} (p:α→Bool) (h:k < l.length):(l.take (k + 1)).filter p=(l.take k).filter p ++ if p (nth l k)=true then [nth l k] else []:=by
 rw [yby,zk _ _ h,yb7]
 by_cases h2:p (nth l k)=true <;> simp [h2]
def zyG : List Code := [.region 11 #[⟨some 36, .move (.tmp 0), 238, "slices.go:253", #[], none⟩, ⟨some 37, .move (.tmp 5), 3, "slices.go:253", #[], none⟩, ⟨some 38, .slice 238 (.tmp 36) (some (.tmp 37)) none none, 238, "slices.go:253", #[⟨0, .data⟩, ⟨1, .data⟩], none⟩, ⟨none, .call ⟨.builtin .clear, #[.tmp 38], #[238]⟩, 0, "slices.go:253", #[⟨2, .data⟩], none⟩] false,
 .region 12 #[⟨some 39, .move (.tmp 0), 238, "slices.go:254", #[], none⟩, ⟨some 40, .move (.tmp 5), 3, "slices.go:254", #[], none⟩, ⟨some 41, .slice 238 (.tmp 39) none (some (.tmp 40)) none, 238, "slices.go:254", #[⟨0, .data⟩, ⟨1, .data⟩], none⟩, ⟨some 4, .assign (.tmp 41), 238, "slices.go:254", #[⟨2, .data⟩, ⟨0, .phase⟩, ⟨1, .phase⟩, ⟨2, .phase⟩], none⟩] false, .ret]
theorem znH:prog.underlying 238=some (.slice 242):=by kernel_rfl
theorem zu2 {x : Cx} {st : St} {rows : List (List PV)} {v i : Nat} (h0 : st.env 0 = .arr 0 v) (h5 : st.env 5 = .int .i64 i) (hh : st.heap = [.arr v true false 242 5 rows]) (hi : i < rows.length)
    {Q:AE→St→Prop} (hQ:∀ st':St,st'.env 4 = .arr 0 (v + 1)→st'.heap = [.arr (v + 1) true false 242 5 (rows.take i)]→Q .ret st'):∀ a w,Rel x 42 st a w→WPL prog zyG (zbV x 42 Q) a w:=by
  intro a w ⟨⟨C,hr,he⟩,hdf,hsz⟩
  have e0:=he 0
  have e5:=he 5
  rw [h0] at e0
  rw [h5] at e5
  have e5:=e5.int_inv
  rw [hh] at hr
  obtain ⟨q1,q2,q3⟩:=hr.row (id:=0) rfl (by rw [hh] at e0; exact e0)
  rcases q3 with ⟨-,rfl⟩ | ⟨g,cap,cur,r1,r2,r3,r4,r5,r6⟩
  · simp at hi
  have hcell:∀ t,t < rows.length * 5→(x.w0=x.w0)∧(w.cell? ⟨g,t,none⟩).isSome=true∧w.frozen? ⟨g,t,none⟩=false:=by
    intro t ht
    have:t < cur.size:=by rw [r5]; omega
    exact ⟨rfl,by simp [World.cell?,r2,this],by simp [World.frozen?,r2]⟩
  obtain ⟨z,hz1,hz2,hz3⟩:∃ z,(∀ w,(zeroValue 242).run prog w = .ok z w)∧z.cells.size=5∧∀ u ∈ z.cells,u.oneCell'=true:=⟨.agg #[.int .i64 0,.int .i64 0,.string ⟨#[]⟩,.string ⟨#[]⟩,.bool false],fun w=>by kernel_rfl,rfl,by
    intro u hu
    simp [Value.cells] at hu
    rcases hu with rfl | rfl | rfl | rfl <;> rfl⟩
  obtain ⟨zs,hzl,hcl⟩:=zcr (P:=prog) w 238 242 0 z znH hz1 hz3 g (i * 5) (rows.length - i) (cap - i) (by omega)
    (fun j hj=>(hcell (i * 5 + j) (by rw [hz2] at hj; omega)).2.1) (fun j hj=>(hcell (i * 5 + j) (by rw [hz2] at hj; omega)).2.2)
  rw [hz2] at hzl
  obtain ⟨cs',c1,c2,c3⟩:=zb0 g zs (i * 5) w cur r2 (by rw [hzl,r5]; omega)
  have hown:(C.sv 0).ownBlock=some g:=by rw [← q1,r1]; rfl
  obtain ⟨C',k1,k2,k3⟩:=hr.rerow (id:=0) (v':=v + 1) (g':=g) (cap':=cap) (rows':=rows.take i) (cur':=cs') rfl (zdk g zs (i * 5) w hown) (.inl hown) (.inr (by omega)) c1
    (by rw [yaz]; omega) r4 (by rw [c2,r5]) (fun row hrow=>q2 row (List.mem_of_mem_take hrow)) (fun k row j p u a1 a2 a3=>by
      rw [yaK] at a1
      split at a1
      · rename_i hk
        have hj:j < 5:=by rw [← q2 row (yaf a1)]; exact (yab.1 a2).1
        rw [c3,if_neg (by omega)] at a3
        obtain ⟨y,y1,y2,y3⟩:=r6 k row j p a1 a2
        rw [y1] at a3; cases a3
        exact ⟨y2,y3⟩
      · cases a1)
  rw [yaz,Nat.min_eq_left (by omega)] at k3
  have g0:∀ (b:Act),b.tmps.size=42→∀ (d:Nat) (u:Value) (t:Nat),d < 42→(b.put (some d) u).tmps.getD t Go.undef=if t=d then u else b.tmps.getD t Go.undef:=by
    intro b hb d u t hd
    simp only [Act.put]
    by_cases e:t=d
    · subst e; simp [Array.getD,hb,hd]
    · rw [if_neg e]
      by_cases ht:t < b.tmps.size
      · simp [Array.getD,ht,Array.getElem_setIfInBounds_ne,Ne.symm e]
      · simp [Array.getD,ht]
  have gs:∀ (b:Act),b.tmps.size=42→∀ d u,(b.put d u).tmps.size=42:=by
    intro b hb d u
    cases d <;> simp [Act.put,hb]
  have hu0:a.tmps.getD 0 Go.undef = .slice (some ⟨g,0,none⟩) rows.length cap:=r1
  obtain ⟨a1,ha1⟩:∃ a1,a.put (some 36) (.slice (some ⟨g,0,none⟩) rows.length cap)=a1:=⟨_,rfl⟩
  have s1:a1.tmps.size=42:=by rw [← ha1]; exact gs _ hsz _ _
  have t1:∀ t,a1.tmps.getD t Go.undef=if t=36 then .slice (some ⟨g,0,none⟩) rows.length cap else a.tmps.getD t Go.undef:=fun t=>by rw [← ha1]; exact g0 _ hsz _ _ _ (by omega)
  obtain ⟨a2,ha2⟩:∃ a2,a1.put (some 37) (.int .i64 i)=a2:=⟨_,rfl⟩
  have s2:a2.tmps.size=42:=by rw [← ha2]; exact gs _ s1 _ _
  have t2:∀ t,a2.tmps.getD t Go.undef=if t=37 then .int .i64 i else a1.tmps.getD t Go.undef:=fun t=>by rw [← ha2]; exact g0 _ s1 _ _ _ (by omega)
  obtain ⟨a3,ha3⟩:∃ a3,a2.put (some 38) (.slice (some ⟨g,i * 5,none⟩) (rows.length - i) (cap - i))=a3:=⟨_,rfl⟩
  have s3:a3.tmps.size=42:=by rw [← ha3]; exact gs _ s2 _ _
  have t3:∀ t,a3.tmps.getD t Go.undef=if t=38 then .slice (some ⟨g,i * 5,none⟩) (rows.length - i) (cap - i) else a2.tmps.getD t Go.undef:=fun t=>by rw [← ha3]; exact g0 _ s2 _ _ _ (by omega)
  refine wp_region_list ?_
  refine zcL (w':=w) (v := .slice (some ⟨g,0,none⟩) rows.length cap) rfl (by simp only [execOp,Act.eval,hu0,yay]) ?_
  rw [ha1]
  refine zcL (w':=w) (v := .int .i64 i) rfl (by simp only [execOp,Act.eval,t1,e5,yay,Nat.reduceEqDiff,if_false]) ?_
  rw [ha2]
  refine zcL (w':=w) (v := .slice (some ⟨g,i * 5,none⟩) (rows.length - i) (cap - i)) rfl ?_ ?_
  · have e1:a2.eval (.tmp 36) = .slice (some ⟨g,0,none⟩) rows.length cap:=by simp only [Act.eval,t2,t1,Nat.reduceEqDiff,if_false,if_true]
    have e2:a2.eval (.tmp 37) = .int .i64 i:=by simp only [Act.eval,t2,if_true]
    have hb:(Instr.sliceBounds true rows.length cap (some (.int .i64 (i:Int))) none none).run prog w = .ok (i,rows.length,cap) w:=by
      simp [Instr.sliceBounds,Instr.sliceBound,asIntOf]
      omega
    simp only [execOp,yaM,Option.map_none,e1,e2,Instr.sliceAt,Instr.slice,yal,run_underlying znH,Result.andThen_ok,hb,Z5 (show zaO prog 242=some 5 by kernel_rfl),yay]
    rw [if_neg (by omega)]
    simp [Addr.add]
    try omega
  rw [ha3]
  refine zcL (w':=w.setCells g (i * 5) zs) (v := .tuple #[]) rfl ?_ ?_
  · have e1:a3.eval (.tmp 38) = .slice (some ⟨g,i * 5,none⟩) (rows.length - i) (cap - i):=by simp only [Act.eval,t3,if_true]
    simp only [execOp,resolve,yal,yay,Result.andThen_ok,invoke,builtin,ycd,yaA,ya3,e1,hcl]
  obtain ⟨w1,hw1⟩:∃ w1,w.setCells g (i * 5) zs=w1:=⟨_,rfl⟩
  rw [hw1] at k1 k2 k3 ⊢
  have ha4:a3.put none (.tuple #[])=a3:=rfl
  rw [ha4]
  have u0:a3.tmps.getD 0 Go.undef = .slice (some ⟨g,0,none⟩) rows.length cap:=by rw [t3,if_neg (by omega),t2,if_neg (by omega),t1,if_neg (by omega)]; exact hu0
  have u5:a3.tmps.getD 5 Go.undef = .int .i64 i:=by rw [t3,if_neg (by omega),t2,if_neg (by omega),t1,if_neg (by omega)]; exact e5
  obtain ⟨b1,hb1⟩:∃ b1,a3.put (some 39) (.slice (some ⟨g,0,none⟩) rows.length cap)=b1:=⟨_,rfl⟩
  have s4:b1.tmps.size=42:=by rw [← hb1]; exact gs _ s3 _ _
  have t4:∀ t,b1.tmps.getD t Go.undef=if t=39 then .slice (some ⟨g,0,none⟩) rows.length cap else a3.tmps.getD t Go.undef:=fun t=>by rw [← hb1]; exact g0 _ s3 _ _ _ (by omega)
  obtain ⟨b2,hb2⟩:∃ b2,b1.put (some 40) (.int .i64 i)=b2:=⟨_,rfl⟩
  have s5:b2.tmps.size=42:=by rw [← hb2]; exact gs _ s4 _ _
  have t5:∀ t,b2.tmps.getD t Go.undef=if t=40 then .int .i64 i else b1.tmps.getD t Go.undef:=fun t=>by rw [← hb2]; exact g0 _ s4 _ _ _ (by omega)
  obtain ⟨b3,hb3⟩:∃ b3,b2.put (some 41) (.slice (some ⟨g,0,none⟩) i cap)=b3:=⟨_,rfl⟩
  have s6:b3.tmps.size=42:=by rw [← hb3]; exact gs _ s5 _ _
  have t6:∀ t,b3.tmps.getD t Go.undef=if t=41 then .slice (some ⟨g,0,none⟩) i cap else b2.tmps.getD t Go.undef:=fun t=>by rw [← hb3]; exact g0 _ s5 _ _ _ (by omega)
  show Code.wp prog _ _ a3 w1
  refine wp_region_list ?_
  refine zcL (w':=w1) (v := .slice (some ⟨g,0,none⟩) rows.length cap) rfl (by simp only [execOp,Act.eval,u0,yay]) ?_
  rw [hb1]
  refine zcL (w':=w1) (v := .int .i64 i) rfl (by simp only [execOp,Act.eval,t4,u5,yay,Nat.reduceEqDiff,if_false]) ?_
  rw [hb2]
  refine zcL (w':=w1) (v := .slice (some ⟨g,0,none⟩) i cap) rfl ?_ ?_
  · have e1:b2.eval (.tmp 39) = .slice (some ⟨g,0,none⟩) rows.length cap:=by simp only [Act.eval,t5,t4,Nat.reduceEqDiff,if_false,if_true]
    have e2:b2.eval (.tmp 40) = .int .i64 i:=by simp only [Act.eval,t5,if_true]
    have hb:(Instr.sliceBounds true rows.length cap none (some (.int .i64 (i:Int))) none).run prog w1 = .ok (0,i,cap) w1:=by
      simp [Instr.sliceBounds,Instr.sliceBound,asIntOf]
      omega
    simp only [execOp,yaM,Option.map_none,e1,e2,Instr.sliceAt,Instr.slice,yal,run_underlying znH,Result.andThen_ok,hb,Z5 (show zaO prog 242=some 5 by kernel_rfl),yay]
    rw [if_neg (by omega)]
    simp [Addr.add]
  rw [hb3]
  refine zcL (w':=w1) (v := .slice (some ⟨g,0,none⟩) i cap) rfl (by simp only [execOp,Act.eval,t6,yay,if_true]) ?_
  show Code.wp prog .ret _ _ w1
  refine wp_ret ?_
  refine ⟨⟨fun t=>if t=4 then .arr 0 (v + 1) else .top,[.arr (v + 1) true false 242 5 (rows.take i)]⟩,hQ _ rfl rfl,⟨C',k1,fun t=>?_⟩,?_,gs _ s6 _ _⟩
  · rw [g0 _ s6 _ _ _ (by omega)]
    by_cases e:t=4
    · rw [if_pos e]; simp only [e,if_true]; exact k3
    · rw [if_neg e]; simp only [e,if_false]; exact .any
  · have pd:∀ (b:Act) (d:Option Nat) (u:Value),(b.put d u).defers=b.defers:=fun b d u=>by cases d <;> rfl
    rw [pd,← hb3,pd,← hb2,pd,← hb1,pd,← ha3,pd,← ha2,pd,← ha1,pd]
    exact hdf
theorem zsL {α:Type} [Inhabited α] (p:α→Bool):∀ (l:List α) (k:Nat),l.any p=true→∃ j,j < l.length∧zaC p l k=((k + j:Nat):Int)∧p (nth l j)=true∧∀ q,q ∈ l.take j→p q=false
 | [],k,h=>by simp at h
 | y :: l,k,h=>by
  cases hy:p y
  ·
   have h':l.any p=true:=by simpa [hy] using h
   obtain ⟨j,h1,h2,h3,h4⟩:=zsL p l (k + 1) h'
   refine ⟨j + 1,by simp; omega,by rw [zaC,if_neg (by simp [hy]),h2]; congr 1; omega,h3,fun q hq=>?_⟩
   rw [ybk] at hq
   rcases yaN.1 hq with rfl | hq
   ·
    exact hy
   ·
    exact h4 q hq
  ·
   exact ⟨0,by simp,by rw [zaC,if_pos hy]; simp,hy,fun q hq=>by simp at hq⟩
theorem zjJ (l : List FOp) (g : Nat) (caps : List PV) (p : FOp → Bool) (v : Nat) (hg : ZU prog g = true) (hl : l.length ≤ 1000000) (hc : ClosedH [] caps)
    (hcl:∀ nl f fz,caps.map (zp nl f fz)=caps∧caps.map (ren nl f fz)=caps∧caps.map (zn nl f fz)=caps) (hp:∀ o ∈ l,zg prog g (.agg (cOp o) :: caps) [] (.bool (p o)) []) :
    ∃ v',zg prog 182 [.arr 0 v,.clo g caps] [.arr v true false 242 5 (l.map cOp)] (.arr 0 v') [.arr v' true false 242 5 ((l.filter fun o => !p o).map cOp)]:=by
  have hix:=zfL l g caps [] p hg (by omega) hc hp
  cases ha:l.any p
  · have hm1:zaC p l 0 = -1:=by
      rcases zkf p l 0 with ⟨h1,-⟩ | ⟨-,h2⟩
      · exact h1
      · rw [h2] at ha; cases ha
    have hf:(l.filter fun o => !p o)=l:=List.filter_eq_self.2 fun o ho=>by
      have:=yaZ.1 ha o ho
      simpa using this
    rw [hf]
    rw [hm1] at hix
    refine ⟨v,?_⟩
    refine zg.of_tail func182 ntmps182 zsK (ybG _ _).symm zsJ zxd (by simp) (fun _ _=>False) (fun x hx=>?_) (fun _ _ _ h=>h.elim)
    refine zaz ?_
    simp only [go_sem,zyF]
    refine zc (.scalarE hix rfl (by simp [go_sem,zt,pos,hcl])) ?_
    simp only [go_sem]
    refine zI [] (by simp) (by simp) (by simp [hx]) ?_ ?_
    · simp [go_sem,zDR,hx,pos]
    · simp [ze,zf,hx,pos,go_sem,yaa]
  · obtain ⟨k0,d1,d2,d3,d4⟩:=zsL p l 0 ha
    rw [yaF] at d2
    rw [d2] at hix
    refine ⟨v + 1,?_⟩
    refine zg.of_tail func182 ntmps182 zsK (ybG _ _).symm zsJ zxd (by simp) (fun _ st=>∃ (r:List FOp) (i:Nat),i < r.length∧st.env 0 = .arr 0 v∧st.env 5 = .int .i64 i∧st.heap = [.arr v true false 242 5 (r.map cOp)]∧r.take i=l.filter fun o => !p o) (fun x hx=>?_) (fun x hx st ⟨r,i,q1,q2,q3,q4,q5⟩=>?_)
    · refine zaz ?_
      have hk0:((k0:Int) = -1)=False:=eq_false (by omega)
      have wk0:=zM (k:=k0) (by omega)
      simp only [go_sem,zyF]
      refine zc (.scalarE hix rfl (by simp [go_sem,zt,pos,hcl])) ?_
      simp only [go_sem,hk0,wk0]
      refine zy [0,1,5,6] 1 (fun n st=>∃ (r:List FOp) (i j:Nat),j + n=l.length∧i < j∧r.length=l.length∧r.take i=(l.take j).filter (fun o => !p o)∧r.drop j=l.drop j ∧
        st=⟨mkE .top [(0,.arr 0 v),(1,.clo g caps),(5,.int .i64 i),(6,.int .i64 j)],[.arr v true false 242 5 (r.map cOp)]⟩) (l.length - (k0 + 1)) (by simp [hx]) (by simp) ?_ ?_
      · refine ⟨l,k0,k0 + 1,by omega,by omega,rfl,?_,rfl,?_⟩
        · rw [zib _ d1,if_neg (by simp [d3]),ya6]
          exact (List.filter_eq_self.2 fun q hq=>by simp [d4 q hq]).symm
        · simp [zh,go_sem,ze,zf,zn,zp,pos,yaa,hcl]
      · rintro n st ⟨r,i,j,hj,hij,hrl,hrt,hrd,rfl⟩
        by_cases hlt:j < l.length
        · have hgj:r[j]? = some (nth l j):=by
            have:(r.drop j)[0]? = (l.drop j)[0]? := by rw [hrd]
            rw [ybg,ybg,ybh] at this
            rw [this]; exact zk _ _ hlt
          have hgi:r[i]? = some (nth r i):=zk _ _ (by omega)
          have hjr:j < r.length:=by omega
          have hir:i < r.length:=by omega
          have wj:=zM (k:=j) (by omega)
          have wi:=zM (k:=i) (by omega)
          have hpe:=hp (nth l j) (yaf (zk _ _ hlt))
          have hft:=zib (fun o => !p o) hlt
          have hdd:r.drop (j + 1)=l.drop (j + 1):=by rw [← List.drop_drop,hrd,List.drop_drop]
          simp only [go_sem,yah,hjr,hgj,cOp,yav,yaM]
          refine Zm rfl hg (.scalarE hpe rfl (by simp [go_sem,zt,pos,hcl,cOp])) ?_
          cases hpk:p (nth l j)
          · simp only [go_sem,zab,Int.reduceLT,Int.reduceLE,Int.reduceToNat,Int.reduceAdd,frz,frz,PV.isPure,yah,hjr,hir,hgi,cOp,yav,yaM,wj,wi]
            refine ⟨by simp,n - 1,by omega,r.set i (nth l j),i + 1,j + 1,by omega,by omega,by simp [hrl],?_,?_,?_⟩
            · rw [hft,if_pos (by simp [hpk]),← hrt,yby,List.take_set_of_le (yag _),ya9 hir]
              rfl
            · rw [List.drop_set_of_lt (by omega),hdd]
            · simp [zh,go_sem,ze,zf,zn,zp,pos,yaa,hcl,ycb,cOp]
          · simp only [go_sem,wj]
            refine ⟨by simp,n - 1,by omega,r,i,j + 1,by omega,by omega,hrl,?_,hdd,?_⟩
            · rw [hft,if_neg (by simp [hpk]),ya6,hrt]
            · simp [zh,go_sem,ze,zf,zn,zp,pos,yaa,hcl]
        · have hjr:¬ j < r.length:=by omega
          simp only [go_sem,yah,hjr]
          refine ⟨r,i,by omega,rfl,rfl,rfl,?_⟩
          rw [hrt,yan (by omega)]
    · rw [← q5]
      refine zu2 (rows:=r.map cOp) (i:=i) q2 q3 q4 (by simpa using q1) (fun st' g1 g2=>?_)
      refine zI [] (by simp) (by simp) (by simp [hx,g2]) ?_ ?_
      · simp [go_sem,zDR,hx,pos,g1]
      · simp [ze,zf,hx,pos,go_sem,yaa,g2,List.map_take]
end Go.Proofs.YtkcahmbcpkjpiaaGreatDoor
namespace Go.Proofs.YtkcahmbcpkjpiaaGreatDoor
open Go.RowKit Go.Shelf
/-! zqu in order -/
theorem zkH:∀ l:List UInt8,Lib.compareBytes l l=0
 | []=>rfl
 | a :: l=>by
  have h:¬ a < a:=by rw [UInt8.lt_iff_toNat_lt]; omega
  rw [Lib.compareBytes,if_neg h,if_neg h]
  exact zkH l
theorem znI:∀ {a b:List UInt8},Lib.compareBytes a b=0→a=b
 | [],[],_=>rfl
 | [],_ :: _,h=>by simp [Lib.compareBytes] at h
 | _ :: _,[],h=>by simp [Lib.compareBytes] at h
 | x :: a,y :: b,h=>by
  rw [Lib.compareBytes] at h
  split at h
  ·
   simp at h
  ·
   split at h
   ·
    simp at h
   ·
    rename_i h1 h2
    rw [UInt8.lt_iff_toNat_lt] at h1 h2
    rw [znI h,UInt8.toNat.inj (show x.toNat=y.toNat by omega)]
theorem zsM:∀ (a b:List UInt8),Lib.compareBytes b a = - Lib.compareBytes a b
 | [],[]=>rfl
 | [],_ :: _=>rfl
 | _ :: _,[]=>rfl
 | x :: a,y :: b=>by
  rw [Lib.compareBytes,Lib.compareBytes]
  by_cases h1:x < y
  ·
   have h2:¬ y < x:=by rw [UInt8.lt_iff_toNat_lt] at h1 ⊢; omega
   rw [if_neg h2,if_pos h1,if_pos h1]; rfl
  ·
   by_cases h2:y < x
   ·
    rw [if_pos h2,if_neg h1,if_pos h2]
   ·
    rw [if_neg h2,if_neg h1,if_neg h1,if_neg h2]
    exact zsM a b
theorem zoW:∀ {a b c:List UInt8},Lib.compareBytes a b < 0→Lib.compareBytes b c < 0→Lib.compareBytes a c < 0
 | [],[],_,h,_=>by simp [Lib.compareBytes] at h
 | [],_ :: _,[],_,h=>by simp [Lib.compareBytes] at h
 | [],_ :: _,_ :: _,_,_=>by simp [Lib.compareBytes]
 | _ :: _,[],_,h,_=>by simp [Lib.compareBytes] at h
 | _ :: _,_ :: _,[],_,h=>by simp [Lib.compareBytes] at h
 | x :: a,y :: b,z :: c,h,g=>by
  rw [Lib.compareBytes] at h g ⊢
  by_cases h1:x < y
  ·
   by_cases g1:y < z
   ·
    have:x < z:=by rw [UInt8.lt_iff_toNat_lt] at h1 g1 ⊢; omega
    rw [if_pos this]; decide
   ·
    rw [if_neg g1] at g
    by_cases g2:z < y
    ·
     rw [if_pos g2] at g; simp at g
    ·
     have:x < z:=by rw [UInt8.lt_iff_toNat_lt] at h1 g1 g2 ⊢; omega
     rw [if_pos this]; decide
  ·
   rw [if_neg h1] at h
   by_cases h2:y < x
   ·
    rw [if_pos h2] at h; simp at h
   ·
    rw [if_neg h2] at h
    have e:x=y:=by
     rw [UInt8.lt_iff_toNat_lt] at h1 h2
     exact UInt8.toNat.inj (by omega)
    subst e
    by_cases g1:x < z
    ·
     rw [if_pos g1]; decide
    ·
     rw [if_neg g1] at g ⊢
     by_cases g2:z < x
     ·
      rw [if_pos g2] at g; simp at g
     ·
      rw [if_neg g2] at g ⊢
      exact zoW h g
def zd8 (a b:ByteArray):Int:=Lib.compareBytes a.data.toList b.data.toList
theorem zcw (a:ByteArray):zd8 a a=0:=zkH _
theorem zbJ {a b:ByteArray} (h:zd8 a b=0):a=b:=by
 apply ByteArray.ext
 exact Array.toList_inj.1 (znI h)
theorem zfM (a b:ByteArray):zd8 b a = - zd8 a b:=zsM _ _
theorem zce {a b c:ByteArray} (h:zd8 a b < 0) (g:zd8 b c < 0):zd8 a c < 0:=zoW h g
def zmi (x y:ByteArray × ByteArray):Int:=if zd8 x.1 y.1=0 then zd8 x.2 y.2 else zd8 x.1 y.1
theorem zmj {x y:ByteArray × ByteArray} (h:zmi x y=0):x=y:=by
 unfold zmi at h
 split at h
 ·
  rename_i h1; exact Prod.ext (zbJ h1) (zbJ h)
 ·
  contradiction
theorem zd9 (x y:ByteArray × ByteArray):zmi y x = - zmi x y:=by
 unfold zmi
 have h1:=zfM x.1 y.1
 have h2:=zfM x.2 y.2
 split <;> split <;> omega
theorem zjK {x y z:ByteArray × ByteArray} (h:zmi x y < 0) (g:zmi y z < 0):zmi x z < 0:=by
 unfold zmi at h g ⊢
 by_cases h1:zd8 x.1 y.1=0
 ·
  rw [if_pos h1] at h
  have e1:=zbJ h1
  by_cases g1:zd8 y.1 z.1=0
  ·
   rw [if_pos g1] at g
   rw [e1,if_pos g1]
   exact zce h g
  ·
   rw [if_neg g1] at g
   rw [e1,if_neg g1]; exact g
 ·
  rw [if_neg h1] at h
  by_cases g1:zd8 y.1 z.1=0
  ·
   have e1:=zbJ g1
   rw [← e1,if_neg h1]; exact h
  ·
   rw [if_neg g1] at g
   have:=zce h g
   rw [if_neg (by omega)]; exact this
def FOp.kv (o:FOp):ByteArray × ByteArray:=(o.k,o.v)
def zgp (x y:FOp):Int:=zmi x.kv y.kv
theorem zA6:Go.Sort.SWO (ltOf zgp) where
 irrefl:=fun x=>by
  have:zmi x.kv x.kv=0:=by have:=zd9 x.kv x.kv; omega
  simp [ltOf,zgp,this]
 trans:=fun x y z h1 h2=>by
  unfold ltOf zgp at *
  exact decide_eq_true (zjK (of_decide_eq_true h1) (of_decide_eq_true h2))
 ntrans:=fun x y z h1 h2=>by
  unfold ltOf zgp at *
  have h1:=of_decide_eq_false h1
  have h2:=of_decide_eq_false h2
  apply decide_eq_false
  have a:=zd9 x.kv y.kv
  have b:=zd9 y.kv z.kv
  have c:=zd9 x.kv z.kv
  intro h
  by_cases e1:zmi x.kv y.kv=0
  ·
   rw [zmj e1] at h; omega
  ·
   by_cases e2:zmi y.kv z.kv=0
   ·
    rw [← zmj e2] at h; omega
   ·
    have:=zjK (x:=z.kv) (y:=y.kv) (z:=x.kv) (by omega) (by omega)
    omega
def eOp (o:FOp):List Value := [.int .i64 o.id.r,.int .i64 o.id.n,.string o.k,.string o.v,.bool o.p]
theorem zkI:Flat cOp eOp 5 where
 k0:=by omega
 len:=fun _=>rfl
 lenp:=fun _=>rfl
 one:=fun o v hv=>by
  simp [eOp] at hv
  rcases hv with rfl | rfl | rfl | rfl | rfl <;> rfl
 fit:=fun S w a j p h=>by
  rcases j with _ | _ | _ | _ | _ | j
  ·
   cases h; exact .int _ _
  ·
   cases h; exact .int _ _
  ·
   cases h; exact .str _
  ·
   cases h; exact .str _
  ·
   cases h; exact .bool _
  ·
   simp [cOp] at h
 back:=fun S w a j p u h hr=>by
  rcases j with _ | _ | _ | _ | _ | j
  ·
   cases h; cases hr; rfl
  ·
   cases h; cases hr; rfl
  ·
   cases h; cases hr; rfl
  ·
   cases h; cases hr; rfl
  ·
   cases h; cases hr; rfl
  ·
   simp [cOp] at h
noncomputable def zca (l:List FOp):List FOp:=(Go.Sort.pdq (ltOf zgp) l.toArray 0 l.toArray.size (Lib.bitLen l.toArray.size) true true).toList
theorem zdg (l:List FOp):(zca l).Perm l∧(zca l).Pairwise fun x y=>¬ zgp y x < 0:=by
 obtain ⟨h1,h2⟩:=Go.Sort.pdq_sorts (ltOf zgp) zA6 l.toArray 0 l.toArray.size (Lib.bitLen l.toArray.size) true true (ybv _) (yag _) (Or.inl rfl)
 obtain ⟨a1,-,a3⟩:=h1
 have e1:∀ d:Array FOp,d.size=l.toArray.size→d.extract 0 l.toArray.size=d:=fun d hd=>by rw [← hd]; exact Array.extract_size
 rw [e1 _ a1,e1 _ rfl] at a3
 refine ⟨by simpa [zca] using a3,?_⟩
 rw [yaT]
 intro i j hi hj hij
 have hi':i < (Go.Sort.pdq (ltOf zgp) l.toArray 0 l.toArray.size (Lib.bitLen l.toArray.size) true true).size:=by simpa [zca] using hi
 have hj':j < (Go.Sort.pdq (ltOf zgp) l.toArray 0 l.toArray.size (Lib.bitLen l.toArray.size) true true).size:=by simpa [zca] using hj
 have:=h2 i j (ybv _) hij (by rw [← a1]; exact hj')
 rw [getElem!_pos _ i hi',getElem!_pos _ j hj'] at this
 simpa [ltOf,zca] using this
theorem zkJ (a b:ByteArray) (w:World):Calls Tryz.prog 189 #[.string a,.string b] w fun e w'=>e = .returned (.int .i64 (zd8 a b))∧w'=w:=Any.strings_Compare zEk a b w
theorem znJ (a b:FOp) (w:World):Calls Tryz.prog 188 #[.agg (eOp a).toArray,.agg (eOp b).toArray] w fun e w'=>e = .returned (.int .i64 (zgp a b))∧∃ q os',w'=Go.Sort.grow (w.drewN q) os':=by
 unfold eOp
 go_enter Tryz.func188,Tryz.ntmps188
 go_wp2_with (go_at_call 189; refine (zkJ _ _ _).mono ?_; rintro e w' ⟨rfl,rfl⟩)
 ·
  go_ret
  have h:(zd8 a.k b.k != 0)=true:=by assumption
  exact ⟨zaA (by exact (if_neg (show ¬ zd8 a.k b.k=0 by simpa using h)).symm),0,_,by rw [Go.Sort.alloc_eq_grow,Go.Sort.alloc_eq_grow,Go.Sort.grow_grow]; rfl⟩
 ·
  go_ret
  have h:(zd8 a.k b.k != 0)=false:=by assumption
  exact ⟨zaA (by exact (if_pos (show zd8 a.k b.k=0 by simpa using h)).symm),0,_,by rw [Go.Sort.alloc_eq_grow,Go.Sort.alloc_eq_grow,Go.Sort.grow_grow]; rfl⟩
theorem zsN (blk off size:Nat) (w:World):CmpLays Tryz.prog 188 #[] eOp 5 zgp blk off size w:=fun _ _ _ _ a b=>znJ a b _
theorem zfN (l : List FOp) (v T : Nat) (hl : l.length < 4611686018427387904) :
    zg Tryz.prog 187 [.arr 0 v,.clo 188 []] [.arr v true false T 5 (l.map cOp)] (.tup []) [.arr v true false T 5 ((zca l).map cOp)]:=by
  intro x vs hx h0 hp
  obtain ⟨a,b,rfl,h1,h2⟩:=zkh hp.1
  have ha:=hp.2 0 _ _ rfl h1
  have hb:=hp.2 1 _ _ rfl h2
  obtain ⟨ws,rfl,hw,-⟩:=hb.clo_inv
  obtain rfl:ws = []:=ybs.1 hw
  obtain ⟨e1,e2,e3⟩:=h0.row (id:=0) rfl ha
  have hsl:(zca l).length=l.length:=(zdg l).1.length_eq
  rcases e3 with ⟨rfl,hnil⟩ | ⟨g,cap,cur,rfl,hc,hcap,hm,hz,hrow⟩
  · have:l = []:=by simpa using hnil
    subst this
    have hs0:zca [] = []:=ybs.1 hsl
    refine (AnyF.slices_SortFunc_none zsC none 0 (.func (.func 188) #[] #[]) x.w0).mono ?_
    rintro e w' ⟨rfl,rfl⟩
    exact ⟨_,x.C0,rfl,by simpa [hs0] using h0,.tup [] [] rfl (fun j p u h=>by simp at h)⟩
  · have eg:∀ args w,(callFunc 188 args).run Tryz.prog w = .ok (.enter 188 args) w:=enters_of Tryz.func188 (by kernel_rfl) rfl
    have hH:=zkI.holds l hc hrow
    have hlt:g < x.w0.heap.size:=(yak.1 hc).1
    have key:=AnyQ.slices_SortFunc_eq zsC 5 (fun _=>by kernel_rfl) (fun _=>by kernel_rfl) eOp zkI.len zkI.one zgp zA6 188 #[] g 0 cap l.toArray x.w0 eg (zsN g 0 _ x.w0) hH hlt (by simpa using hl)
    rw [yah] at *
    refine key.mono ?_
    rintro e w' ⟨rfl,n,os,rfl⟩
    have hd:Go.Sort.pdq (ltOf zgp) l.toArray 0 l.toArray.size (Lib.bitLen l.toArray.size) true true=(zca l).toArray:=by simp [zca]
    rw [hd]
    obtain ⟨cur',c1,c2,c3,c4⟩:=zlz eOp 5 x.w0 g n (zca l).toArray os hc
    have hown:(x.C0.sv 0).ownBlock=some g:=by rw [← e1]; rfl
    obtain ⟨C',k1,k2,k3⟩:=h0.rerow (id:=0) (v':=v) (g':=g) (cap':=cap) (rows':=(zca l).map cOp) (cur':=cur') rfl (by
      refine ⟨c4.size,c4.os,c4.tape,c4.output,fun b hb hne=>c4.blk b hb fun e=>hne (by rw [hown,e])⟩) (.inl hown) (.inl ⟨rfl,by rw [← e1,yah,hsl]⟩) c1 (by rw [yah,hsl]; exact hcap) hm (by rw [c2,hz])
      (fun row hr=>by obtain ⟨y,-,rfl⟩:=yaG.1 hr; rfl) (zkI.rep c3 (l:=zca l) (zca l).length (fun i hi=>by
        rw [yac hi]
        simp [hi]) rfl (by simp))
    exact ⟨_,C',rfl,k1,.tup [] [] rfl (fun j p u h=>by simp at h)⟩
end Go.Proofs.YtkcahmbcpkjpiaaGreatDoor
namespace Go.Proofs.YtkcahmbcpkjpiaaGreatDoor
open Go.RowKit
open Tryz
theorem zhe {x : Cx} {nt : Nat} {st : St} (id : Nat) {v T sz : Nat} {sto : Bool} {rows rows' : List (List PV)} (h : st.heap[id]? = some (.arr v sto true T sz rows)) (hf : rows.map (·.map (frz st.heap)) = rows') (hp : rows'.all (fun r => r.all PV.isPure) = true) :
    za3 x nt st ⟨st.env,st.heap.set id (.arr v false false T sz rows')⟩:=by
  subst hf
  intro a w ⟨⟨C,hr,he⟩,hdf,hs⟩
  obtain ⟨k1,k2⟩:=hr.change (C':=C) (ob' := .arr v false false T sz (rows.map (·.map (frz st.heap)))) h (zc3 w) rfl (fun _=>rfl) (fun _ _=>⟨rfl,rfl⟩) (.inl ⟨rfl,rfl⟩)
    (fun b o _ hf hb=>by have:=hf hb; simp at this) (fun b o _ _=>rfl) (fun b h => .inl h)
    (fun hm hmp=>by
      obtain ⟨o1,o2,o3,xs,o4,o5⟩:=hr.obj id _ h
      refine ⟨o1,o2,fun row hrow=>?_,xs,by simpa using o4,fun k row j p u a b c=>?_⟩
      · obtain ⟨r,hr1,rfl⟩:=yaG.1 hrow
        simpa using o3 r hr1
      · obtain ⟨r,hr1,rfl⟩:=zO a
        obtain ⟨q,hq1,rfl⟩:=zO b
        obtain ⟨e1,e2⟩:=o5 k r j q u hr1 hq1 c
        refine ⟨e1,?_⟩
        simp only [yap,if_false,if_true] at e2 ⊢
        refine hmp _ _ ((zjU hr e2).pureOf ?_)
        have h1:=yar.1 hp _ (yaG.2 ⟨r,yaf hr1,rfl⟩)
        exact yar.1 h1 _ (yaG.2 ⟨q,yaf hq1,rfl⟩))
  exact ⟨⟨C,k1,fun u=>k2 _ _ (he u)⟩,hdf,hs⟩
abbrev KV:=ByteArray × List ByteArray
def ZO (p:KV):List PV := [.str p.1,.list (p.2.map zbY)]
def zmM (out:List KV) (o:ByteArray × ByteArray):List KV:=match out.getLast? with
 | some p=>if p.1=o.1 then (if p.2.any (fun s=>decide (o.2=s))=true then out else out.dropLast ++ [(p.1,p.2 ++ [o.2])]) else out ++ [(o.1,[o.2])]
 | none => [(o.1,[o.2])]
theorem znK {o:List KV} {key v:ByteArray} {vs:List ByteArray} (h:(vs.any fun x=>decide (v=x))=true):zmM (o ++ [(key,vs)]) (key,v)=o ++ [(key,vs)]:=by
 rw [zmM,List.getLast?_concat]
 simp only [if_true]
 rw [if_pos h]
theorem zkK {o:List KV} {key v:ByteArray} {vs:List ByteArray} (h:(vs.any fun x=>decide (v=x))=false):zmM (o ++ [(key,vs)]) (key,v)=o ++ [(key,vs ++ [v])]:=by
 rw [zmM,List.getLast?_concat]
 simp only [if_true]
 rw [if_neg (by simp [h]),List.dropLast_concat]
theorem zkL {o:List KV} {key k v:ByteArray} {vs:List ByteArray} (h:¬ key=k):zmM (o ++ [(key,vs)]) (k,v)=(o ++ [(key,vs)]) ++ [(k,[v])]:=by
 rw [zmM,List.getLast?_concat]
 simp only [if_neg h]
def zjL (l:List (ByteArray × ByteArray)):List KV:=l.foldl zmM []
def ZP (l:List Entry) (c:Int):List FOp:=(zdj l c).filter (zeK (zQ l) l (zdj l c))
noncomputable def ziZ (l:List Entry) (c:Int):List KV:=zjL ((zca (ZP l c)).map FOp.kv)
theorem zmk {l:List FOp} {k:Nat} (h:k < l.length):zjL ((l.take (k + 1)).map FOp.kv)=zmM (zjL ((l.take k).map FOp.kv)) (nth l k).kv:=by
 rw [zjL,yby,zk _ _ h,Option.toList_some,List.map_append,ybM]
 rfl
theorem zi0 (l:List ByteArray) (y:ByteArray) (hl:l.length≤9223372036854775806):zg prog 231 [.list (l.map zbY),.str y] [] (.int .i64 (zaC (fun x=>decide (y=x)) l 0)) []:=by
 refine zg.of_walk func231 ntmps231 zwX.1 zwX.2 (by simp) fun x hx=>?_
 simp only [go_sem,zCg,zCi]
 refine zy [0,1,7,8] 0 (fun n st=>∃ k:Nat,k + n=l.length∧zaC (fun x=>decide (y=x)) (l.drop k) k=zaC (fun x=>decide (y=x)) l 0 ∧
  st=⟨mkE .top [(0,.list (l.map zbY)),(1,.str y),(7,.int .i64 l.length),(8,.int .i64 k)],[]⟩) l.length (by simp [hx]) (by simp) ?_ ?_
 ·
  refine ⟨0,by omega,by simp,?_⟩
  simp [zh,go_sem,ze,zf,pos,yaa]
 ·
  rintro n st ⟨k,hk,hi,rfl⟩
  by_cases hlt:k < l.length
  ·
   have hg:l[k]? = some (nth l k):=zk _ _ hlt
   have wk:=zM (k:=k) (by omega)
   rw [zaS _ l k hlt] at hi
   by_cases he:y=nth l k
   ·
    simp only [go_sem,hlt,hg,zbY,he,decide_true]
    refine zd hx ?_
    simp [he] at hi
    simp [go_sem,zCg,zCi,hi,he]
   ·
    simp only [go_sem,hlt,hg,zbY,he,wk,decide_false]
    refine ⟨by simp,n - 1,by omega,k + 1,by omega,by simpa [he] using hi,?_⟩
    simp [zh,go_sem,ze,zf,pos,yaa]
  ·
   have:l.drop k = []:=ya2 (by omega)
   rw [this] at hi
   simp only [go_sem,hlt]
   refine zd hx ?_
   simp [go_sem,zCg,zCi,← hi,zaC]
theorem zdh (l:List ByteArray) (y:ByteArray) (hl:l.length≤9223372036854775806):zg prog 190 [.list (l.map zbY),.str y] [] (.bool (l.any fun x=>decide (y=x))) []:=by
 refine zg.of_walk func190 ntmps190 zwH.1 zwH.2 (by simp) fun x hx=>?_
 simp only [go_sem,zDu,zDv]
 refine zc (.pureE (zi0 l y hl) (by simp [go_sem])) ?_
 simp only [go_sem]
 refine zd hx ?_
 simp [go_sem,zDu,zDv,zcH]
theorem zeL (rows:List (List PV)) (hz:∀ row ∈ rows,row.length=5) (hb:rows.length * 56≤140737488355328):zg prog 183 [.list rows] [] (.arr 0 1) [.arr 1 true false 242 5 rows]:=by
 refine zg.of_walk func183 ntmps183 zwD.1 zwD.2 (by simp) fun x hx=>?_
 simp only [go_sem,zBY,zBZ]
 refine zc6 rfl fun b hb'=>?_
 cases b
 ·
  simp only [go_sem]
  rw [Zf rfl rfl hz (by simpa using hb)]
  simp only [go_sem]
  refine zI [0] (by simp) (by simp [hx]) (by simp [hx]) ?_ ?_
  ·
   simp [go_sem,zBY,zBZ,hx,pos]
  ·
   simp [ze,zf,hx]
 ·
  simp only [go_sem]
  refine zN (ZR 2 1 242 5 true false rfl (by omega)) ?_
  have:rows = []:=hb' rfl
  subst this
  rw [zc4]
  refine zI [0] (by simp) (by simp [hx]) (by simp [hx]) ?_ ?_
  ·
   simp [go_sem,zBY,zBZ,hx,pos]
  ·
   simp [ze,zf,hx]
theorem zkM {x:Cx} {nt:Nat} {st st1 st2:St} (h:st=st1) (hw:za3 x nt st1 st2):za3 x nt st st2:=h ▸ hw
theorem zoX {l:List Entry} {c:Int} {y:FOp} (h:y ∈ zdj l c):∃ e ∈ l,y.id=e.id∧zan e.c c=true∧opE e=some y:=by
 obtain ⟨e,he,hs⟩:=yb8.1 h
 refine ⟨e,(ya1.1 he).1,?_,(ya1.1 he).2,hs⟩
 unfold opE at hs
 split at hs
 ·
  cases hs
 ·
  cases hs; rfl
theorem zkN (l:List Entry) (c:Int):(zdj l c).length≤l.length:=by
 have a:=zfK opE (zL l c)
 have b:=zbk l c
 unfold zdj; omega
theorem zgq (l:List Entry) (c:Int):(ZP l c).length≤l.length:=by
 have a:=zkN l c
 have:(ZP l c).length≤(zdj l c).length:=ybj ..
 omega
theorem zsO {l:List Entry} {e:Entry} (h:e ∈ l):0≤zG l e.id:=Int.not_lt.1 fun hlt=>zbh.1 hlt e h rfl
theorem zoY {l:List Entry} {c:Int} (h:LogOk l) {y:FOp} (hy:y ∈ zdj l c):0≤zG l y.id∧zG l y.id < (zQ l).length∧(z8 (zQ l) l y.id).length≤9223372036854775806:=by
 have hm:=h.len
 obtain ⟨e,he,hi,-⟩:=zoX hy
 have h0:0≤zG l y.id:=by rw [hi]; exact zsO he
 obtain ⟨k,f1,f2,f3⟩:=z7 h0
 have hpl:(z8 (zQ l) l y.id).length≤40:=by rw [Z7,f1,yaB]; exact za5 h f2
 exact ⟨h0,by simp [zQ]; omega,by omega⟩
theorem zqv (l:List Entry) (c:Int) (h:LogOk l) (hc:ZI c 1 7=true) (ht:∀ e ∈ l,e.t.size≤4294967000):zg prog 108 [.list (l.map cE),.int .i64 c] [] (.list ((ziZ l c).map ZO)) []:=by
  have hm:=h.len
  have hol:=zkN l c
  have hsl:=zgq l c
  obtain ⟨v1,hdel⟩:=zjJ (zdj l c) 184 [.rptr [.list ((zdj l c).map cOp)],.rptr [zj l (zQ l)]] (fun o => !zeK (zQ l) l (zdj l c) o) 1 (by kernel_rfl) (by omega)
    (zen (by simp [zp,zj]) (by simp [ren,zdA,zn,zp,zj])) (fun nl f fz=>⟨by simp [zp,zj],by simp [ren,zdA,zn,zp,zj],by simp [zn,zp,zj]⟩)
    (fun o ho=>zia l (zQ l) (zdj l c) o (by omega) (by omega) (fun y hy=>zoY h hy))
  have hff:((zdj l c).filter fun o => !!zeK (zQ l) l (zdj l c) o)=ZP l c:=by
    rw [ZP]; congr 1; funext o; simp
  rw [hff] at hdel
  have hsort:=zfN (ZP l c) v1 242 (by omega)
  have hfl:(zca (ZP l c)).length=(ZP l c).length:=(zdg _).1.length_eq
  have hcl:=zeL ((zdj l c).map cOp) (fun row hr=>by obtain ⟨o,-,rfl⟩:=yaG.1 hr; rfl) (by rw [yah]; omega)
  refine zg.of_parts func108 ntmps108 zot.1 zot.2 (by simp) fun x hx=>?_
  simp only [LC.flat,zqR,zqS,yau,yas]
  refine zhA 3 [5,6] 2 (fun st=>st=⟨mkE .top [(6,.rptr [.list ((zdj l c).map cOp)]),(5,.rptr [zj l (zQ l)]),(5,.ptr 0 0),(6,.ptr 1 0)],[.gone,.gone]⟩) (by simp [hx]) (by simp) ?_ ?_
  · simp only [go_sem,zqR,zqS,ybk,List.take_zero]
    refine zc (.pureE (zaj l h) (by simp [go_sem])) ?_
    simp only [go_sem,zj]
    refine zc (.pureE (zmg l c h hc ht) (by simp [go_sem])) ?_
    simp only [go_sem,zj]
    rw [zcl]
    refine ⟨by simp,_,?_,rfl⟩
    have e:=zbE (x:=x) (nt:=79) (st:=⟨mkE .top [(5,.ptr 0 0),(6,.ptr 1 0)],[.box [zj l (zQ l)],.box [.list ((zdj l c).map cOp)]]⟩) (cells' := [zj l (zQ l)]) (H' := [.gone,.box [.list ((zdj l c).map cOp)]]) 5 0 rfl rfl (by simp [frz,zj]) (by simp [PV.isPure,zj]) rfl
    have e2:=zbE (x:=x) (nt:=79) (st:=⟨mkE .top [(5,.rptr [zj l (zQ l)]),(5,.ptr 0 0),(6,.ptr 1 0)],[.gone,.box [.list ((zdj l c).map cOp)]]⟩) (cells' := [.list ((zdj l c).map cOp)]) (H' := [.gone,.gone]) 6 1 rfl rfl (by simp [frz]) (by simp [PV.isPure]) rfl
    rw [zc4] at e e2
    refine za3.trans (zkM ?_ e) e2
    simp [zh,go_sem,ze,zf,zn,zp,pos,yaa,zj]
  · rintro st rfl
    refine zaz ?_
    simp only [go_sem,zqR,zqS,yaJ,yaY]
    refine zc (.heapE [] (r' := .arr 2 1) (H' := [.gone,.gone,.arr 1 true false 242 5 ((zdj l c).map cOp)]) hcl (by simp) (by simp) (by simp [go_sem]) rfl rfl rfl) ?_
    simp only [go_sem]
    refine zc (.heapE [2] (r' := .arr 2 v1) (H' := [.gone,.gone,.arr v1 true false 242 5 ((ZP l c).map cOp)]) hdel (by simp) (by simp) (by simp [go_sem,pos,zj]) (by simp [ze,zf,go_sem,pos]) (by simp [zdA,ren,zn,zp,ZV,Zh]) (by simp [ZN,zS,zT,zf,pos,go_sem,yaa,ZV,Zh])) ?_
    simp only [go_sem]
    refine zc (.heapE [2] (r' := .tup []) (H' := [.gone,.gone,.arr v1 true false 242 5 ((zca (ZP l c)).map cOp)]) hsort (by simp) (by simp) (by simp [go_sem,pos]) (by simp [ze,zf,go_sem,pos]) rfl (by simp [ZN,zS,zT,zf,pos,go_sem,yaa,ZV,Zh])) ?_
    simp only [go_sem,yah]
    obtain ⟨S,hS⟩:∃ S,zca (ZP l c)=S:=⟨_,rfl⟩
    have hraw:ziZ l c=zjL (S.map FOp.kv):=by rw [ziZ,hS]
    rw [hS] at hfl
    rw [hS,hraw]
    refine zfw (fun n st=>∃ k vo:Nat,k + n=S.length ∧
      ((zjL ((S.take k).map FOp.kv) = []∧k=0∧st=⟨mkE .top [(7,.arr 0 v1),(8,.arr 1 vo),(23,.arr 0 v1),(24,.int .i64 S.length),(25,.int .i64 k)],[.arr v1 true false 242 5 (S.map cOp),.arr vo true true 102 2 []]⟩) ∨
       ∃ (o:List KV) (key:ByteArray) (vs:List ByteArray) (v2:Nat),zjL ((S.take k).map FOp.kv)=o ++ [(key,vs)]∧(o.length + 1≤k∧vs.length≤k) ∧
        st=⟨mkE .top [(7,.arr 0 v1),(8,.arr 1 vo),(23,.arr 0 v1),(24,.int .i64 S.length),(25,.int .i64 k)],[.arr v1 true false 242 5 (S.map cOp),.arr vo true true 102 2 (o.map ZO ++ [[.str key,.arr 2 v2]]),.arr v2 true false 9 1 (vs.map zbY)]⟩)) S.length ?_ ?_
    · refine ⟨_,za3.trans (ZR 8 0 102 2 true true rfl (by omega)) (Zk [7,8,23,24,25] [2,3] (by simp) (by simp [St.put]) (by simp [hx])),0,0,by omega,.inl ⟨rfl,rfl,?_⟩⟩
      rw [zc4]
      simp [zad,go_sem,ze,zf,pos,yaa]
    · rintro n st ⟨k,vo,hk,hI⟩
      by_cases hlt:k < S.length
      · have hg:S[k]? = some (nth S k):=zk _ _ hlt
        have wk:=zM (k:=k) (by omega)
        have hst:=zmk hlt
        rcases hI with ⟨hg0,rfl,rfl⟩ | ⟨o,key,vs,v2,hgo,hlen,rfl⟩
        · rw [hg0] at hst
          have h0:((0:Int) < (S.length:Int))=True:=eq_true (by omega)
          have hneg:IntKind.i64.wrap ((0:Int) - 1) = -1:=by decide
          have hneg2:((-1:Int) < 0)=True:=eq_true (by decide)
          have w1:IntKind.i64.wrap ((0:Int) + 1)=1:=by decide
          simp only [go_sem,zab,Int.reduceLT,Int.reduceLE,Int.reduceToNat,Int.reduceAdd,frz,yah,hlt,hg,h0,hneg,hneg2,yav,yaM,cOp,yaS,PV.isPure,ybN,ycc]
          rw [zdm rfl rfl (by simp) (by simp)]
          have w2:IntKind.i64.wrap (1:Int)=1:=by decide
          simp only [go_sem,zab,Int.reduceLT,Int.reduceLE,Int.reduceToNat,Int.reduceAdd,frz,w1,w2]
          refine ⟨n - 1,_,by omega,Zk [7,8,23,24,25] [0,1,3] (by simp) (by simp) (by simp [hx]),1,vo + 1,by omega,.inr ⟨[],(nth S 0).k,[(nth S 0).v],0,?_,by simp,?_⟩⟩
          · rw [hst]; rfl
          · simp [zad,go_sem,ze,zf,zn,zp,pos,yaa,zbY]
        · rw [hgo] at hst
          have hL:(List.map ZO o ++ [[PV.str key,PV.arr 2 v2]]).length=o.length + 1:=by simp
          have hw1:IntKind.i64.wrap (((o.length + 1:Nat):Int) - 1)=(o.length:Int):=by rw [IntWalk.i64_in _ (by omega)]; omega
          have hng:((o.length:Int) < 0)=False:=eq_false (by omega)
          have hge:(List.map ZO o ++ [[PV.str key,PV.arr 2 v2]])[o.length]? = some [PV.str key,PV.arr 2 v2]:=by
            rw [yaL (by simp)]; simp
          have hlo:o.length < o.length + 1:=by omega
          simp only [go_sem,zab,Int.reduceLT,Int.reduceLE,Int.reduceToNat,Int.reduceAdd,frz,yah,hlt,hg,yav,yaM,cOp,hL,hw1,hng,hge,hlo]
          by_cases hk2:key=(nth S k).k
          · simp only [go_sem,zab,Int.reduceLT,Int.reduceLE,Int.reduceToNat,Int.reduceAdd,frz,hk2,decide_true,hL,hw1,hng,hge,hlo]
            subst hk2
            simp only [go_sem,zab,Int.reduceLT,Int.reduceLE,Int.reduceToNat,Int.reduceAdd,frz,hL,hw1,hng,hge,hlo]
            refine zc (.scalarE (zdh vs (nth S k).v (by omega)) rfl (by simp [go_sem,zt,pos])) ?_
            cases hct:vs.any fun x=>decide ((nth S k).v=x)
            · simp only [go_sem,zab,Int.reduceLT,Int.reduceLE,Int.reduceToNat,Int.reduceAdd,frz,hL,hw1,hng,hge,hlo,PV.isPure,ybN,ycc]
              rw [Zf rfl rfl (by simp) (by simp; omega)]
              simp only [go_sem,zab,Int.reduceLT,Int.reduceLE,Int.reduceToNat,Int.reduceAdd,frz,hL,hw1,hng,hge,hlo,wk,true_or,or_true,yaM]
              repeat refine ⟨rfl,?_⟩
              try simp only [go_sem,zab,Int.reduceLT,Int.reduceLE,Int.reduceToNat,Int.reduceAdd,frz,wk]
              refine ⟨n - 1,_,by omega,Zk [7,8,23,24,25] [0,1,2] (by simp) (by simp) (by simp [hx]),k + 1,vo,by omega,.inr ⟨o,(nth S k).k,vs ++ [(nth S k).v],v2 + 1,?_,by simp; omega,?_⟩⟩
              · rw [hst]; exact zkK hct
              · simp [zad,go_sem,ze,zf,zn,zp,pos,yaa,zbY,ZO,zt]
            · simp only [go_sem,zab,Int.reduceLT,Int.reduceLE,Int.reduceToNat,Int.reduceAdd,frz,wk]
              refine ⟨n - 1,_,by omega,Zk [7,8,23,24,25] [0,1,2] (by simp) (by simp) (by simp [hx]),k + 1,vo,by omega,.inr ⟨o,(nth S k).k,vs,v2,?_,by omega,?_⟩⟩
              · rw [hst]; exact znK hct
              · simp [zad,go_sem,ze,zf,zn,zp,pos,yaa,zbY,ZO,zt]
          · simp only [go_sem,zab,Int.reduceLT,Int.reduceLE,Int.reduceToNat,Int.reduceAdd,frz,hk2,decide_false,hL,hw1,hng,hge,hlo,PV.isPure,ybN,ycc]
            rw [zdm rfl rfl (by simp) (by simp; omega)]
            simp only [go_sem,zab,Int.reduceLT,Int.reduceLE,Int.reduceToNat,Int.reduceAdd,frz,wk]
            refine ⟨n - 1,_,by omega,Zk [7,8,23,24,25] [0,1,4] (by simp) (by simp) (by simp [hx]),k + 1,vo + 1,by omega,.inr ⟨o ++ [(key,vs)],(nth S k).k,[(nth S k).v],0,?_,by simp; omega,?_⟩⟩
            · rw [hst]; exact zkL hk2
            · simp [zad,go_sem,ze,zf,zn,zp,pos,yaa,zbY,ZO,zt]
      · have hkS:k=S.length:=by omega
        have hkn:¬ ((k:Int) < (S.length:Int)):=by omega
        rw [yan (by omega)] at hI
        rcases hI with ⟨hg0,rfl,rfl⟩ | ⟨o,key,vs,v2,hgo,hlen,rfl⟩
        · rw [hg0]
          simp only [go_sem,zab,Int.reduceLT,Int.reduceLE,Int.reduceToNat,Int.reduceAdd,frz,hkn,hlt]
          have h0:((0:Int) < (S.length:Int))=False:=eq_false (by omega)
          simp only [go_sem,zab,Int.reduceLT,Int.reduceLE,Int.reduceToNat,Int.reduceAdd,frz,h0]
          refine zN (zhe 1 (rows' := []) rfl rfl rfl) ?_
          refine zd hx ?_
          simp [go_sem,zqR,zqS,zt,pos]
        · rw [hgo]
          simp only [go_sem,zab,Int.reduceLT,Int.reduceLE,Int.reduceToNat,Int.reduceAdd,frz,hkn,hlt]
          refine zN (za3.trans (Zk [4] [0,1] (by simp) (by simp) (by simp [hx])) (zhe 1 (v:=vo) (T:=102) (sz:=2) (sto:=true) (rows:=(o ++ [(key,vs)]).map ZO) (rows':=(o ++ [(key,vs)]).map ZO) ?_ ?_ ?_)) ?_
          · simp [zad,go_sem,ze,zf,zn,zp,pos,yaa,ZO,zt]
          · simp [ZO,frz]
          · simp [ZO,PV.isPure]
          refine zd hx ?_
          simp [zad,go_sem,zqR,zqS,zt,pos,ze]
def zaT (l:List Entry) (c:Int):Int:=if zJ l=0 then (if ZI c 1 7=true then 0 else 3) else zJ l
noncomputable def zqw (l:List Entry) (c:Int):List KV:=if zaT l c=0 then ziZ l c else []
def zfO (l:List Entry) (c:Int) (k:ByteArray):Int:=if zaT l c=0 then (if zd7 k=true then 0 else 1) else zaT l c
def zsP (m:List KV) (k:ByteArray):List ByteArray:=match m.find? fun p=>decide (p.1=k) with
 | some p=>p.2
 | none => []
noncomputable def zyH (l:List Entry) (c:Int) (k:ByteArray):List ByteArray:=if zfO l c k=0 then zsP (ziZ l c) k else []
theorem zA7 {l:List Entry} (h:LogOk l):∀ e ∈ l,e.t.size≤12:=fun e he=>by
 obtain ⟨k,hk,rfl⟩:=yaq he
 have:=h.chk k hk
 rw [zv _ _ hk] at this
 exact (zV this).2.2.1
theorem zml (l:List Entry) (c:Int) (hl:l.length≤9223372036854775806):zg prog 35 [.list (l.map cE),.int .i64 c] [] (.tup [.list ((zqw l c).map ZO),.int .i64 (zaT l c)]) []:=by
 refine zg.of_walk func35 ntmps35 zuo.1 zuo.2 (by simp) fun x hx=>?_
 simp only [go_sem,L35,R35]
 refine zc (.pureE (ZD l hl) (by simp [go_sem])) ?_
 by_cases h1:zJ l=0
 ·
  simp only [go_sem,h1]
  refine zc (.pureE (zaB c) (by simp [go_sem])) ?_
  cases h2:ZI c 1 7
  ·
   have he:zaT l c=3:=by simp [zaT,h1,h2]
   simp only [go_sem,zab,Int.reduceLT,Int.reduceLE,Int.reduceToNat,Int.reduceAdd,frz]
   refine zd hx ?_
   simp [go_sem,L35,R35,he,zqw]
  ·
   have he:zaT l c=0:=by simp [zaT,h1,h2]
   have hok:=zaE.1 h1
   simp only [go_sem,zab,Int.reduceLT,Int.reduceLE,Int.reduceToNat,Int.reduceAdd,frz]
   refine zc (.pureE (zqv l c hok h2 (fun e hem=>by have:=zA7 hok e hem; omega)) (by simp [go_sem])) ?_
   simp only [go_sem]
   refine zd hx ?_
   simp [go_sem,L35,R35,he,zqw]
 ·
  have he:zaT l c=zJ l:=by simp [zaT,h1]
  simp only [go_sem,h1]
  refine zd hx ?_
  simp [go_sem,L35,R35,he,h1,zqw]
theorem zqx (p:KV) (k:ByteArray):zg prog 152 [.agg (ZO p),.rptr [.str k]] [] (.bool (decide (p.1=k))) []:=by
 refine zg.of_walk func152 ntmps152 zwe.1 zwe.2 (by simp) fun x hx=>?_
 simp only [go_sem,zCS,zCT,ZO]
 refine zd hx ?_
 simp [go_sem,zCS,zCT]
instance:Inhabited KV:=⟨(⟨#[]⟩,[])⟩
theorem zkO (l : List KV) (g : Nat) (caps : List PV) (Hs : List AObj) (p : KV → Bool) (hg : ZU prog g = true) (hl : l.length ≤ 9223372036854775806) (hc : ClosedH Hs caps)
    (hp:∀ e ∈ l,zg prog g (.agg (ZO e) :: caps) Hs (.bool (p e)) Hs) :
    zg prog 151 [.list (l.map ZO),.clo g caps] Hs (.int .i64 (zaC p l 0)) Hs:=by
  refine zg.of_walk func151 ntmps151 zwd.1 zwd.2 (by simp) fun x hx=>?_
  simp only [go_sem,zBQ,zBR]
  refine zcm [0,1,7,8] (fun n st=>∃ k:Nat,k + n=l.length∧zaC p (l.drop k) k=zaC p l 0 ∧
    st=⟨mkE .top [(0,.list (l.map ZO)),(1,.clo g caps),(7,.int .i64 l.length),(8,.int .i64 k)],Hs⟩) l.length ?_ ?_
  · refine ⟨0,by omega,by simp,?_⟩
    simp [ZX,go_sem]
  · rintro n st ⟨k,hk,hi,rfl⟩
    by_cases hlt:k < l.length
    · have hgt:l[k]? = some (nth l k):=zk _ _ hlt
      have wk:=zM (k:=k) (by omega)
      rw [zaS p l k hlt] at hi
      simp only [go_sem,hlt,hgt,ZO,cId]
      refine Zm rfl hg (.whole (hp (nth l k) (by rw [zv _ _ hlt]; exact yaw hlt)) rfl ?_ hc.sub hc.back) ?_
      · simp only [go_sem,ZO,cId]
        rw [hc.caps]
      cases hpk:p (nth l k)
      · rw [if_neg (by simp [hpk])] at hi
        simp only [go_sem,wk]
        exact ⟨n - 1,by omega,k + 1,by omega,hi,by simp [ZX,go_sem]⟩
      · rw [if_pos hpk] at hi
        simp only [go_sem]
        refine zav hx rfl hc.kept ?_
        simp [go_sem,zBQ,zBR,hi]
    · have:l.drop k = []:=ya2 (by omega)
      rw [this] at hi
      simp only [go_sem,hlt]
      refine zav hx rfl hc.kept ?_
      simp [go_sem,zBQ,zBR,← hi,zaC]
theorem zsQ {α:Type} [Inhabited α] (p:α→Bool) (l:List α):(zaC p l 0 < 0∧l.find? p=none)∨∃ j,j < l.length∧zaC p l 0=(j:Int)∧l.find? p=some (nth l j):=by
 have key:∀ (l:List α) (k:Nat),(zaC p l k < 0∧l.find? p=none)∨∃ j,j < l.length∧zaC p l k=((k + j:Nat):Int)∧l.find? p=some (nth l j):=by
  intro l
  induction l with
  | nil=>intro k; exact .inl ⟨by simp [zaC],rfl⟩
  | cons y l ih =>
   intro k
   cases hy:p y
   ·
    rcases ih (k + 1) with ⟨h1,h2⟩ | ⟨j,h1,h2,h3⟩
    ·
     exact .inl ⟨by rw [zaC,if_neg (by simp [hy])]; exact h1,by rw [List.find?_cons,hy]; exact h2⟩
    ·
     exact .inr ⟨j + 1,by simp; omega,by rw [zaC,if_neg (by simp [hy]),h2]; congr 1; omega,by rw [List.find?_cons,hy]; exact h3⟩
   ·
    exact .inr ⟨0,by simp,by rw [zaC,if_pos hy]; simp,by rw [List.find?_cons,hy]; rfl⟩
 rcases key l 0 with h | ⟨j,h1,h2,h3⟩
 ·
  exact .inl h
 ·
  exact .inr ⟨j,h1,by rw [h2,yaF],h3⟩
theorem zu3 (out:List KV) (o:ByteArray × ByteArray):(zmM out o).length≤out.length + 1:=by
 unfold zmM
 split
 ·
  split
  ·
   split
   ·
    omega
   ·
    rename_i p hp _ _
    have:out ≠ []:=by intro e; rw [e] at hp; simp at hp
    have:=List.length_pos_iff.2 this
    simp
    try omega
  ·
   simp
 ·
  simp
theorem zu4 (l:List (ByteArray × ByteArray)):(zjL l).length≤l.length:=by
 have key:∀ (l:List (ByteArray × ByteArray)) (out:List KV),(l.foldl zmM out).length≤out.length + l.length:=by
  intro l
  induction l with
  | nil=>intro out; simp
  | cons o l ih=>intro out; have a:=ih (zmM out o); have b:=zu3 out o; simp only [List.foldl_cons,yax]; omega
 have:=key l []
 simpa [zjL] using this
theorem zu5 (l:List Entry) (c:Int):(ziZ l c).length≤l.length:=by
 have a:=zu4 ((zca (ZP l c)).map FOp.kv)
 have b:=(zdg (ZP l c)).1.length_eq
 have d:=zgq l c
 rw [yah] at a
 unfold ziZ; omega
theorem zsR (l:List Entry) (c:Int) (k:ByteArray) (hl:l.length≤9223372036854775806) (hk:k.size≤1000000000000000):zg prog 78 [.list (l.map cE),.int .i64 c,.str k] [] (.tup [.list ((zyH l c k).map zbY),.int .i64 (zfO l c k)]) []:=by
 refine zg.of_walk func78 ntmps78 zAb.1 zAb.2 (by simp) fun x hx=>?_
 simp only [go_sem,L78,R78]
 refine zc (.pureE (zml l c hl) (by simp [go_sem])) ?_
 by_cases h1:zaT l c=0
 ·
  simp only [go_sem,h1]
  refine zc (.pureE (zjI k hk) (by simp [go_sem])) ?_
  have hmL:zqw l c=ziZ l c:=by rw [zqw,if_pos h1]
  cases h2:zd7 k
  ·
   have he:zfO l c k=1:=by simp [zfO,h1,h2]
   simp only [go_sem,zab,Int.reduceLT,Int.reduceLE,Int.reduceToNat,Int.reduceAdd,frz]
   refine zd hx ?_
   simp [go_sem,L78,R78,he,zyH]
  ·
   have he:zfO l c k=0:=by simp [zfO,h1,h2]
   have hle:=zu5 l c
   have hix:=zkO (ziZ l c) 152 [.rptr [.str k]] [] (fun p=>decide (p.1=k)) (by kernel_rfl) (by omega) (zen (by simp [zp]) (by simp [ren,zdA,zn,zp])) (fun p _=>zqx p k)
   simp only [go_sem,zab,Int.reduceLT,Int.reduceLE,Int.reduceToNat,Int.reduceAdd,frz,hmL]
   refine zc (.lookE hix rfl (by simp [go_sem,zjY,zf6])) ?_
   rcases zsQ (fun p:KV=>decide (p.1=k)) (ziZ l c) with ⟨g1,g2⟩ | ⟨j,g1,g2,g3⟩
   ·
    have g1':(zaC (fun p:KV=>decide (p.1=k)) (ziZ l c) 0 < 0)=True:=eq_true g1
    simp only [go_sem,zab,Int.reduceLT,Int.reduceLE,Int.reduceToNat,Int.reduceAdd,frz,g1']
    refine zd hx ?_
    simp [go_sem,L78,R78,he,zyH,zsP,g2]
   ·
    have g4:((j:Int) < 0)=False:=eq_false (by omega)
    have g5:(ziZ l c)[j]? = some (nth (ziZ l c) j):=zk _ _ g1
    simp only [go_sem,zab,Int.reduceLT,Int.reduceLE,Int.reduceToNat,Int.reduceAdd,frz,g2,g4,g1,g5,ZO,yav,yaM,yah]
    refine zd hx ?_
    simp [go_sem,L78,R78,he,zyH,zsP,g3]
 ·
  have he:zfO l c k=zaT l c:=by simp [zfO,h1]
  simp only [go_sem,h1]
  refine zd hx ?_
  simp [go_sem,L78,R78,he,h1,zyH]
theorem znL (l:List Entry) (c:Int) (h:LogOk l) (hc:ZI c 1 7=true) (ht:∀ e ∈ l,e.t.size≤4294967000):zg prog 108 [.oll (l.map cE),.int .i64 c] [] (.list ((ziZ l c).map ZO)) []:=by
  have hm:=h.len
  have hol:=zkN l c
  have hsl:=zgq l c
  obtain ⟨v1,hdel⟩:=zjJ (zdj l c) 184 [.rptr [.list ((zdj l c).map cOp)],.rptr [zj l (zQ l)]] (fun o => !zeK (zQ l) l (zdj l c) o) 1 (by kernel_rfl) (by omega)
    (zen (by simp [zp,zj]) (by simp [ren,zdA,zn,zp,zj])) (fun nl f fz=>⟨by simp [zp,zj],by simp [ren,zdA,zn,zp,zj],by simp [zn,zp,zj]⟩)
    (fun o ho=>zia l (zQ l) (zdj l c) o (by omega) (by omega) (fun y hy=>zoY h hy))
  have hff:((zdj l c).filter fun o => !!zeK (zQ l) l (zdj l c) o)=ZP l c:=by
    rw [ZP]; congr 1; funext o; simp
  rw [hff] at hdel
  have hdelO:zg prog 182 [.arr 0 1,.clo 184 [.olp [.list ((zdj l c).map cOp)],.olp [zj l (zQ l)]]] [.arr 1 true false 242 5 ((zdj l c).map cOp)] (.arr 0 v1) [.arr v1 true false 242 5 ((ZP l c).map cOp)] :=
    hdel.freshH rfl (by simp [zl5,cOp,zaw]) rfl
  have hsort:=zfN (ZP l c) v1 242 (by omega)
  have hfl:(zca (ZP l c)).length=(ZP l c).length:=(zdg _).1.length_eq
  have hcl0:=zeL ((zdj l c).map cOp) (fun row hr=>by obtain ⟨o,-,rfl⟩:=yaG.1 hr; rfl) (by rw [yah]; omega)
  have hcl:zg prog 183 [.oll ((zdj l c).map cOp)] [] (.arr 0 1) [.arr 1 true false 242 5 ((zdj l c).map cOp)]:=hcl0.freshH rfl (by simp [zl5,cOp,zaw]) rfl
  refine zg.of_two func108 ntmps108 zot.1 zot.2 (by simp) 3 [(5,.rptr [zj l (zQ l)]),(6,.rptr [.list ((zdj l c).map cOp)])] (fun x hx=>?_) (fun x hx=>?_)
  · simp only [LC.flat,zqR,zqS,yau,yas,ybk,List.take_zero]
    refine zaz ?_
    simp only [go_sem,zqR,zqS,unO,zxN]
    refine zc (.pureE (zaj l h) (by simp [go_sem])) ?_
    simp only [go_sem,zj]
    refine zc (.pureE (zmg l c h hc ht) (by simp [go_sem])) ?_
    simp only [go_sem,zj]
    have e:=zbE (x:=x) (nt:=79) (st:=⟨mkE .top [(5,.ptr 0 0),(6,.ptr 1 0)],[.box [zj l (zQ l)],.box [.list ((zdj l c).map cOp)]]⟩) (cells' := [zj l (zQ l)]) (H' := [.gone,.box [.list ((zdj l c).map cOp)]]) 5 0 rfl rfl (by simp [frz,zj]) (by simp [PV.isPure,zj]) rfl
    have e2:=zbE (x:=x) (nt:=79) (st:=⟨mkE .top [(5,.rptr [zj l (zQ l)]),(5,.ptr 0 0),(6,.ptr 1 0)],[.gone,.box [.list ((zdj l c).map cOp)]]⟩) (cells' := [.list ((zdj l c).map cOp)]) (H' := [.gone,.gone]) 6 1 rfl rfl (by simp [frz]) (by simp [PV.isPure]) rfl
    rw [zc4] at e e2
    refine za3.trans (zdR [5,6]) (za3.trans (zkM ?_ (za3.trans e e2)) (za3.trans (Zk [5,6] [] (by simp) (by simp) (by simp [hx])) (zkM ?_ (za3.refl _ _ _))))
    · simp [ZX,go_sem,zj]
    · simp [zad,go_sem,ze,zdA,ren,zn,zp,zj]
  · simp only [LC.flat,zqR,zqS,yau,yas,yaJ,yaY,yaA,ya3,zgS]
    refine zaz ?_
    simp only [go_sem,zqR,zqS]
    refine zc (.heapE [] (r' := .arr 0 1) (H' := [.arr 1 true false 242 5 ((zdj l c).map cOp)]) hcl (by simp) (by simp) (by simp [go_sem]) rfl rfl rfl) ?_
    simp only [go_sem]
    refine zc (.heapE [0] (r' := .arr 0 v1) (H' := [.arr v1 true false 242 5 ((ZP l c).map cOp)]) hdelO (by simp) (by simp) (by simp [go_sem,pos,zj]) (by simp [ze,zf,go_sem,pos]) (by simp [zdA,ren,zn,zp,ZV,Zh]) (by simp [ZN,zS,zT,zf,pos,go_sem,yaa,ZV,Zh])) ?_
    simp only [go_sem]
    refine zc (.heapE [0] (r' := .tup []) (H' := [.arr v1 true false 242 5 ((zca (ZP l c)).map cOp)]) hsort (by simp) (by simp) (by simp [go_sem,pos]) (by simp [ze,zf,go_sem,pos]) rfl (by simp [ZN,zS,zT,zf,pos,go_sem,yaa,ZV,Zh])) ?_
    simp only [go_sem,yah]
    obtain ⟨S,hS⟩:∃ S,zca (ZP l c)=S:=⟨_,rfl⟩
    have hraw:ziZ l c=zjL (S.map FOp.kv):=by rw [ziZ,hS]
    rw [hS] at hfl
    rw [hS,hraw]
    refine zfw (fun n st=>∃ k vo:Nat,k + n=S.length ∧
      ((zjL ((S.take k).map FOp.kv) = []∧k=0∧st=⟨mkE .top [(7,.arr 0 v1),(8,.arr 1 vo),(23,.arr 0 v1),(24,.int .i64 S.length),(25,.int .i64 k)],[.arr v1 true false 242 5 (S.map cOp),.arr vo true true 102 2 []]⟩) ∨
       ∃ (o:List KV) (key:ByteArray) (vs:List ByteArray) (v2:Nat),zjL ((S.take k).map FOp.kv)=o ++ [(key,vs)]∧(o.length + 1≤k∧vs.length≤k) ∧
        st=⟨mkE .top [(7,.arr 0 v1),(8,.arr 1 vo),(23,.arr 0 v1),(24,.int .i64 S.length),(25,.int .i64 k)],[.arr v1 true false 242 5 (S.map cOp),.arr vo true true 102 2 (o.map ZO ++ [[.str key,.arr 2 v2]]),.arr v2 true false 9 1 (vs.map zbY)]⟩)) S.length ?_ ?_
    · refine ⟨_,za3.trans (ZR 8 0 102 2 true true rfl (by omega)) (Zk [7,8,23,24,25] [0,1] (by simp) (by simp [St.put]) (by simp [hx])),0,0,by omega,.inl ⟨rfl,rfl,?_⟩⟩
      rw [zc4]
      simp [zad,go_sem,ze,zf,pos,yaa]
    · rintro n st ⟨k,vo,hk,hI⟩
      by_cases hlt:k < S.length
      · have hg:S[k]? = some (nth S k):=zk _ _ hlt
        have wk:=zM (k:=k) (by omega)
        have hst:=zmk hlt
        rcases hI with ⟨hg0,rfl,rfl⟩ | ⟨o,key,vs,v2,hgo,hlen,rfl⟩
        · rw [hg0] at hst
          have h0:((0:Int) < (S.length:Int))=True:=eq_true (by omega)
          have hneg:IntKind.i64.wrap ((0:Int) - 1) = -1:=by decide
          have hneg2:((-1:Int) < 0)=True:=eq_true (by decide)
          have w1:IntKind.i64.wrap ((0:Int) + 1)=1:=by decide
          simp only [go_sem,zab,Int.reduceLT,Int.reduceLE,Int.reduceToNat,Int.reduceAdd,frz,yah,hlt,hg,h0,hneg,hneg2,yav,yaM,cOp,yaS,PV.isPure,ybN,ycc]
          rw [zdm rfl rfl (by simp) (by simp)]
          have w2:IntKind.i64.wrap (1:Int)=1:=by decide
          simp only [go_sem,zab,Int.reduceLT,Int.reduceLE,Int.reduceToNat,Int.reduceAdd,frz,w1,w2]
          refine ⟨n - 1,_,by omega,Zk [7,8,23,24,25] [0,1,3] (by simp) (by simp) (by simp [hx]),1,vo + 1,by omega,.inr ⟨[],(nth S 0).k,[(nth S 0).v],0,?_,by simp,?_⟩⟩
          · rw [hst]; rfl
          · simp [zad,go_sem,ze,zf,zn,zp,pos,yaa,zbY]
        · rw [hgo] at hst
          have hL:(List.map ZO o ++ [[PV.str key,PV.arr 2 v2]]).length=o.length + 1:=by simp
          have hw1:IntKind.i64.wrap (((o.length + 1:Nat):Int) - 1)=(o.length:Int):=by rw [IntWalk.i64_in _ (by omega)]; omega
          have hng:((o.length:Int) < 0)=False:=eq_false (by omega)
          have hge:(List.map ZO o ++ [[PV.str key,PV.arr 2 v2]])[o.length]? = some [PV.str key,PV.arr 2 v2]:=by
            rw [yaL (by simp)]; simp
          have hlo:o.length < o.length + 1:=by omega
          simp only [go_sem,zab,Int.reduceLT,Int.reduceLE,Int.reduceToNat,Int.reduceAdd,frz,yah,hlt,hg,yav,yaM,cOp,hL,hw1,hng,hge,hlo]
          by_cases hk2:key=(nth S k).k
          · simp only [go_sem,zab,Int.reduceLT,Int.reduceLE,Int.reduceToNat,Int.reduceAdd,frz,hk2,decide_true,hL,hw1,hng,hge,hlo]
            subst hk2
            simp only [go_sem,zab,Int.reduceLT,Int.reduceLE,Int.reduceToNat,Int.reduceAdd,frz,hL,hw1,hng,hge,hlo]
            refine zc (.scalarE (zdh vs (nth S k).v (by omega)) rfl (by simp [go_sem,zt,pos])) ?_
            cases hct:vs.any fun x=>decide ((nth S k).v=x)
            · simp only [go_sem,zab,Int.reduceLT,Int.reduceLE,Int.reduceToNat,Int.reduceAdd,frz,hL,hw1,hng,hge,hlo,PV.isPure,ybN,ycc]
              rw [Zf rfl rfl (by simp) (by simp; omega)]
              simp only [go_sem,zab,Int.reduceLT,Int.reduceLE,Int.reduceToNat,Int.reduceAdd,frz,hL,hw1,hng,hge,hlo,wk,true_or,or_true,yaM]
              repeat refine ⟨rfl,?_⟩
              try simp only [go_sem,zab,Int.reduceLT,Int.reduceLE,Int.reduceToNat,Int.reduceAdd,frz,wk]
              refine ⟨n - 1,_,by omega,Zk [7,8,23,24,25] [0,1,2] (by simp) (by simp) (by simp [hx]),k + 1,vo,by omega,.inr ⟨o,(nth S k).k,vs ++ [(nth S k).v],v2 + 1,?_,by simp; omega,?_⟩⟩
              · rw [hst]; exact zkK hct
              · simp [zad,go_sem,ze,zf,zn,zp,pos,yaa,zbY,ZO,zt]
            · simp only [go_sem,zab,Int.reduceLT,Int.reduceLE,Int.reduceToNat,Int.reduceAdd,frz,wk]
              refine ⟨n - 1,_,by omega,Zk [7,8,23,24,25] [0,1,2] (by simp) (by simp) (by simp [hx]),k + 1,vo,by omega,.inr ⟨o,(nth S k).k,vs,v2,?_,by omega,?_⟩⟩
              · rw [hst]; exact znK hct
              · simp [zad,go_sem,ze,zf,zn,zp,pos,yaa,zbY,ZO,zt]
          · simp only [go_sem,zab,Int.reduceLT,Int.reduceLE,Int.reduceToNat,Int.reduceAdd,frz,hk2,decide_false,hL,hw1,hng,hge,hlo,PV.isPure,ybN,ycc]
            rw [zdm rfl rfl (by simp) (by simp; omega)]
            simp only [go_sem,zab,Int.reduceLT,Int.reduceLE,Int.reduceToNat,Int.reduceAdd,frz,wk]
            refine ⟨n - 1,_,by omega,Zk [7,8,23,24,25] [0,1,4] (by simp) (by simp) (by simp [hx]),k + 1,vo + 1,by omega,.inr ⟨o ++ [(key,vs)],(nth S k).k,[(nth S k).v],0,?_,by simp; omega,?_⟩⟩
            · rw [hst]; exact zkL hk2
            · simp [zad,go_sem,ze,zf,zn,zp,pos,yaa,zbY,ZO,zt]
      · have hkS:k=S.length:=by omega
        have hkn:¬ ((k:Int) < (S.length:Int)):=by omega
        rw [yan (by omega)] at hI
        rcases hI with ⟨hg0,rfl,rfl⟩ | ⟨o,key,vs,v2,hgo,hlen,rfl⟩
        · rw [hg0]
          simp only [go_sem,zab,Int.reduceLT,Int.reduceLE,Int.reduceToNat,Int.reduceAdd,frz,hkn,hlt]
          have h0:((0:Int) < (S.length:Int))=False:=eq_false (by omega)
          simp only [go_sem,zab,Int.reduceLT,Int.reduceLE,Int.reduceToNat,Int.reduceAdd,frz,h0]
          refine zN (zhe 1 (rows' := []) rfl rfl rfl) ?_
          refine zd hx ?_
          simp [go_sem,zqR,zqS,zt,pos]
        · rw [hgo]
          simp only [go_sem,zab,Int.reduceLT,Int.reduceLE,Int.reduceToNat,Int.reduceAdd,frz,hkn,hlt]
          refine zN (za3.trans (Zk [4] [0,1] (by simp) (by simp) (by simp [hx])) (zhe 1 (v:=vo) (T:=102) (sz:=2) (sto:=true) (rows:=(o ++ [(key,vs)]).map ZO) (rows':=(o ++ [(key,vs)]).map ZO) ?_ ?_ ?_)) ?_
          · simp [zad,go_sem,ze,zf,zn,zp,pos,yaa,ZO,zt]
          · simp [ZO,frz]
          · simp [ZO,PV.isPure]
          refine zd hx ?_
          simp [zad,go_sem,zqR,zqS,zt,pos,ze]
theorem zqy (l:List Entry) (c:Int) (hl:l.length≤9223372036854775806):zg prog 35 [.oll (l.map cE),.int .i64 c] [] (.tup [.list ((zqw l c).map ZO),.int .i64 (zaT l c)]) []:=by
 refine zg.of_walk func35 ntmps35 zuo.1 zuo.2 (by simp) fun x hx=>?_
 simp only [go_sem,L35,R35]
 refine zc (.pureE (zbp l hl) (by simp [go_sem])) ?_
 by_cases h1:zJ l=0
 ·
  simp only [go_sem,h1]
  refine zc (.pureE (zaB c) (by simp [go_sem])) ?_
  cases h2:ZI c 1 7
  ·
   have he:zaT l c=3:=by simp [zaT,h1,h2]
   simp only [go_sem,zab,Int.reduceLT,Int.reduceLE,Int.reduceToNat,Int.reduceAdd,frz]
   refine zd hx ?_
   simp [go_sem,L35,R35,he,zqw]
  ·
   have he:zaT l c=0:=by simp [zaT,h1,h2]
   have hok:=zaE.1 h1
   simp only [go_sem,zab,Int.reduceLT,Int.reduceLE,Int.reduceToNat,Int.reduceAdd,frz]
   refine zc (.pureE (znL l c hok h2 (fun e hem=>by have:=zA7 hok e hem; omega)) (by simp [go_sem])) ?_
   simp only [go_sem]
   refine zd hx ?_
   simp [go_sem,L35,R35,he,zqw]
 ·
  have he:zaT l c=zJ l:=by simp [zaT,h1]
  simp only [go_sem,h1]
  refine zd hx ?_
  simp [go_sem,L35,R35,he,h1,zqw]
section
variable {P:Program} {x:Cx} {nt l n:Nat} {st:St}
theorem zyI {o:Oper} {a:Act} {next next':Act→World→Prop} {Q:Exit→Act→World→Prop} {r:Result Next} (hn:∀ a w,next a w→next' a w) (h:o.upon P a next Q r):o.uponIn (Fence.wide.inRound l) n P a next' Q r:=by
 cases r with
 | ok nx w' =>
  cases nx with
  | value v=>exact hn _ _ h
  | skip=>exact hn _ _ h
  | defer d=>exact hn _ _ h
  | enter f args =>
   refine ⟨(fun e=>by cases e),?_⟩
   have h2:Calls P f args w' _:=h
   exact (callsIn_wide.2 h2:CallsIn Fence.wide (n - 1) P f args w' _).mono fun e w'' hq=>by
    cases e with
    | returned v=>exact hn _ _ hq
    | panicked c=>exact hq
    | outgrown=>exact hq
  | row row args =>
   refine ⟨(fun e=>by cases e),fun c cs _=>?_⟩
   obtain ⟨v,w2,hv,hs⟩:=(h:Rows P row args w' _) c cs
   exact ⟨v,w2,hn _ _ hv,stepsIn_wide.2 hs⟩
  | _=>exact (h:False).elim
 | halt hh w' =>
  cases hh <;> first | exact h | exact (h:False).elim
theorem zic {ops:Array Oper} {Q:Exit→Act→World→Prop} (hQ:¬ LetsOut Q):∀ (os:List Oper),(∀ o ∈ os,∀ c,o.op ≠ .defer c)→∀ a w,wpList P ops Q os a w→wpListIn (Fence.wide.inRound l) n P ops Q os a w
 | [],_,a,w,h=>h
 | o :: os,hd,a,w,h=>by
  unfold wpList at h
  unfold wpListIn
  split at h
  ·
   rename_i hw
   rw [if_pos hw]
   rcases h with h | h
   ·
    refine ⟨fun f _=>trivial,?_⟩
    rw [show (Fence.wide.inRound l).round=some l from rfl,Oper.semAt_some l a.eval o (hd o ybZ)]
    exact zyI (fun a w h=>zic hQ os (fun o ho=>hd o (ybu _ ho)) a w h) h
   ·
    exact (hQ h.2).elim
  ·
   rename_i hw
   rw [if_neg hw]
   exact ⟨fun f _=>trivial,zic hQ os (fun o ho=>hd o (ybu _ ho)) _ w h⟩
theorem zqz {Q:AE→St→Prop}:¬ LetsOut (zbV x nt Q):=fun ⟨_,_,h⟩=>h
theorem zdi {ops:Array Oper}:∀ (os:List Oper) (l:List LOper),zF P nt ops os=some l→∀ o ∈ os,∀ c,o.op ≠ .defer c
 | [],_,_,o,ho,_=>by cases ho
 | o :: os,l,h,o',ho,c=>by
  simp only [zF] at h
  split at h <;> try (cases h; done)
  rename_i lo r h1 h2
  rcases yaN.1 ho with rfl | ho
  ·
   intro e
   unfold Zc at h1
   split at h1 <;> try (cases h1; done)
   rename_i lop hop
   rw [e] at hop
   simp [Z1] at hop
  ·
   exact zdi os r h2 o' ho c
def WR (P:Program) (x:Cx) (nt l n:Nat) (lc:LC) (Q:AE→St→Prop) (st:St):Prop :=
 ∀ c,zq P nt c=some lc→∀ a w,Rel x nt st a w→c.wpIn (Fence.wide.inRound l) n P (zbV x nt Q) a w
theorem WR.mono {lc:LC} {Q Q':AE→St→Prop} (h:WR P x nt l n lc Q st) (hq:∀ e st,Q e st→Q' e st):WR P x nt l n lc Q' st :=
 fun c hc a w hrel=>wpIn_mono (h c hc a w hrel) (zht hq)
theorem zyJ {Q:AE→St→Prop} (h:Q .normal st):WR P x nt l n .skip Q st:=by
 intro c hc a w hrel
 cases c <;> simp only [zq,reduceCtorEq] at hc
 case skip=>exact wpIn_skip ⟨st,h,hrel⟩
 all_goals (repeat' (split at hc)) <;> first | (cases hc; done) | (unfold Zl at hc; split at hc <;> cases hc; done) | (unfold Za at hc; split at hc <;> cases hc; done) | (obtain ⟨_,e⟩:=zE hc; cases e; done)
theorem zxe {Q:AE→St→Prop} (h:Q .ret st):WR P x nt l n .ret Q st:=by
 intro c hc a w hrel
 cases c <;> simp only [zq,reduceCtorEq] at hc
 case ret=>exact wpIn_ret ⟨st,h,hrel⟩
 all_goals (repeat' (split at hc)) <;> first | (cases hc; done) | (unfold Zl at hc; split at hc <;> cases hc; done) | (unfold Za at hc; split at hc <;> cases hc; done) | (obtain ⟨_,e⟩:=zE hc; cases e; done)
theorem zea {la lb:LC} {Q:AE→St→Prop} (h:WR P x nt l n la (zeU (WR P x nt l n lb Q) Q) st):WR P x nt l n (.seq la lb) Q st:=by
 intro c hc a w hrel
 cases c <;> simp only [zq,reduceCtorEq] at hc
 case seq c1 c2 =>
  split at hc <;> try (cases hc; done)
  rename_i h1 h2
  cases hc
  refine wpIn_seq (wpIn_mono (h c1 h1 a w hrel) fun e a' w' hq=>?_)
  cases e with
  | normal=>obtain ⟨st',g1,g2⟩:=hq; exact g1 c2 h2 a' w' g2
  | exit id=>exact hq
  | ret=>exact hq
  | goto l=>exact hq.elim
  | panic ch=>exact hq.elim
  | outgrown=>exact hq.elim
 all_goals (repeat' (split at hc)) <;> first | (cases hc; done) | (unfold Zl at hc; split at hc <;> cases hc; done) | (unfold Za at hc; split at hc <;> cases hc; done) | (obtain ⟨_,e⟩:=zE hc; cases e; done)
theorem zid {lc:LOpd} {la lb:LC} {Q:AE→St→Prop} {b:Bool} (hb:lc.ev st = .bool b) (h1:b=true→WR P x nt l n la Q st) (h2:b=false→WR P x nt l n lb Q st):WR P x nt l n (.cond lc la lb) Q st:=by
 intro c hc a w hrel
 cases c <;> simp only [zq,reduceCtorEq] at hc
 case cond c0 c1 c2 =>
  split at hc <;> try (cases hc; done)
  rename_i g0 g1 g2
  cases hc
  obtain ⟨⟨C,hr1,he⟩,hdf,hsz⟩:=hrel
  have:=zau (st:=st) he g0
  rw [hb] at this
  refine wpIn_cond this.bool_inv ?_
  cases b with
  | true=>exact h1 rfl c1 g1 a w ⟨⟨C,hr1,he⟩,hdf,hsz⟩
  | false=>exact h2 rfl c2 g2 a w ⟨⟨C,hr1,he⟩,hdf,hsz⟩
 all_goals (repeat' (split at hc)) <;> first | (cases hc; done) | (unfold Zl at hc; split at hc <;> cases hc; done) | (unfold Za at hc; split at hc <;> cases hc; done) | (obtain ⟨_,e⟩:=zE hc; cases e; done)
theorem zeo {id:Nat} {lb:LC} {Q:AE→St→Prop} (h:WR P x nt l n lb (zdB id Q) st):WR P x nt l n (.block id lb) Q st:=by
 intro c hc a w hrel
 cases c <;> simp only [zq,reduceCtorEq] at hc
 case block i c1 =>
  obtain ⟨lc1,h1,e⟩:=yad.1 hc
  cases e
  refine wpIn_block (wpIn_mono (h c1 h1 a w hrel) fun e a' w' hq=>?_)
  cases e with
  | normal=>exact hq
  | exit id' =>
   obtain ⟨st',g1,g2⟩:=hq
   simp only [zdB] at g1
   simp only [Exit.inBlock]
   split
   ·
    rename_i e; rw [if_pos e] at g1; exact ⟨st',g1,g2⟩
   ·
    rename_i e; rw [if_neg e] at g1; exact ⟨st',g1,g2⟩
  | ret=>exact hq
  | goto l=>exact hq.elim
  | panic ch=>exact hq.elim
  | outgrown=>exact hq.elim
 all_goals (repeat' (split at hc)) <;> first | (cases hc; done) | (unfold Zl at hc; split at hc <;> cases hc; done) | (unfold Za at hc; split at hc <;> cases hc; done) | (obtain ⟨_,e⟩:=zE hc; cases e; done)
theorem zeM {ops:List LOper} {Q:AE→St→Prop} (h:Zq P ops (fun st'=>Q .normal st') st):WR P x nt l n (.reg none ops) Q st:=by
 intro c hc a w hrel
 cases c <;> simp only [zq,reduceCtorEq] at hc
 case region id rops draw =>
  split at hc <;> try (cases hc; done)
  rename_i lo hl
  split at hc
  ·
   (repeat' (split at hc)) <;> first | (unfold Zl at hc; split at hc <;> cases hc; done) | (unfold Za at hc; split at hc <;> cases hc; done)
  ·
   cases hc
   rename_i hdr
   obtain rfl:draw=false:=by simpa using hdr
   exact wpIn_region_list (zic zqz _ (zdi _ _ hl) _ _ (Zq.wp (fun st a w hk hr=>⟨st,hk,hr⟩) rops.toList _ st a w hl h hrel))
 all_goals (repeat' (split at hc)) <;> first | (cases hc; done) | (obtain ⟨_,e⟩:=zE hc; cases e; done)
end
section
variable {x:Cx} {C C':Conc} {H H':List AObj} {w w':World}
def za7 (x:Cx) (C:Conc) (H:List AObj) (w:World):Cx:=⟨w,zu x C H w,C,H⟩
theorem HR.root (hr:HR x C H w):HR (za7 x C H w) C H w∧∀ p v,RepV (zu x C H w) w C p v→RepV (zu (za7 x C H w) C H w) w C p v:=by
 have hS:∀ b o,zu x C H w b o→zu (za7 x C H w) C H w b o:=fun b o h=>⟨.inl h,h.2.1,h.2.2⟩
 have hm:∀ p v,RepV (zu x C H w) w C p v→RepV (zu (za7 x C H w) C H w) w C p v:=fun p v h=>h.mono hS (fun _ _ _=>rfl) (yag _) (fun i _=>rfl) (fun i _ => .inl ⟨rfl,rfl⟩) fun b o h=>⟨h,rfl⟩
 exact ⟨⟨hr.n,fun i ob h=>(hr.obj i ob h).mono hm (fun p v h=>h.mono hS (fun _ _ _=>rfl)) (fun _ _=>rfl) rfl rfl rfl,hr.apart,fun id ob b h hb => .inr ⟨id,ob,h,hb⟩,fun b o h=>⟨h.2.1,h.2.2,rfl⟩,yag _,rfl,rfl,rfl,fun b _ _=>rfl,yag _,fun _ _=>rfl,fun _ _ => .inl ⟨rfl,rfl⟩,fun b o h=>⟨(hr.old b o h).1,(hr.old b o h).2.1,h,(hr.old b o h).1,(hr.old b o h).2.1⟩,fun _ _ h=>h,fun _ _ h=>h⟩,hm⟩
theorem HR.unroot (hr : HR x C H w) (h' : HR (za7 x C H w) C' H' w') : HR x C' H' w' ∧ (∀ p v, RepV (zu (za7 x C H w) C' H' w') w' C' p v → RepV (zu x C' H' w') w' C' p v) ∧
    ∀ b,b < w.heap.size→(∀ (i:Nat) ob0,H[i]? = some ob0→¬ ob0.holds C i b)→w'.heap[b]? = w.heap[b]? := by
  have hmine:∀ b,(w.heap.size≤b∨∃ (i:Nat) (ob0:AObj),H[i]? = some ob0∧ob0.holds C i b)→(x.w0.heap.size≤b∨∃ (i:Nat) (ob0:AObj),x.H0[i]? = some ob0∧ob0.holds x.C0 i b):=by
    rintro b (h | ⟨i,ob0,h1,h2⟩)
    · exact .inl (yaP hr.size h)
    · exact hr.mine i ob0 b h1 h2
  have hfirst:∀ b o,(zu x C H w b o∨(w.heap.size≤b∨∃ (i:Nat) (ob0:AObj),H[i]? = some ob0∧ob0.holds C i b)∧Unf w' b)→(x.S0 b o∨(x.w0.heap.size≤b∨∃ (i:Nat) (ob0:AObj),x.H0[i]? = some ob0∧ob0.holds x.C0 i b)∧Unf w' b):=by
    rintro b o (h | ⟨h,hu⟩)
    · rcases h.1 with q | ⟨q,hu⟩
      · exact .inl q
      · exact .inr ⟨q,h'.unf b h.2.1 hu⟩
    · exact .inr ⟨hmine b h,hu⟩
  have hS:∀ b o,zu (za7 x C H w) C' H' w' b o→zu x C' H' w' b o:=fun b o h=>⟨hfirst b o h.1,h.2.1,h.2.2⟩
  have hm:∀ p v,RepV (zu (za7 x C H w) C' H' w') w' C' p v→RepV (zu x C' H' w') w' C' p v:=fun p v h=>h.mono hS (fun _ _ _=>rfl) (yag _) (fun i _=>rfl) (fun i _ => .inl ⟨rfl,rfl⟩) fun b o h=>⟨h,rfl⟩
  refine ⟨⟨h'.n,fun i ob h=>(h'.obj i ob h).mono hm (fun p v h=>h.mono hS (fun _ _ _=>rfl)) (fun _ _=>rfl) rfl rfl rfl,h'.apart,fun id ob b h hb=>?_,fun b o h=>?_,yaP hr.size h'.size,h'.os.trans hr.os,h'.tape.trans hr.tape,h'.output.trans hr.output,fun b hb h=>?_,yaP hr.len h'.len,fun i hi=>(h'.ids i (yam hi hr.len)).trans (hr.ids i hi),fun i hi=>?_,fun b o h=>by
    obtain ⟨a1,a2,a3,-,-⟩:=h'.old b o h
    exact ⟨a1,a2,(hr.old b o a3).2.2⟩,fun b o h=>h'.old0 b o (hr.old0 b o h),fun b hb h=>h'.unf b (yam hb hr.size) (hr.unf b hb h)⟩,hm,fun b hb h=>h'.frame b hb h⟩
  · rcases h'.mine id ob b h hb with h1 | ⟨i,ob0,h1,h2⟩
    · exact .inl (yaP hr.size h1)
    · exact hr.mine i ob0 b h1 h2
  · obtain ⟨a1,a2,a3⟩:=hr.s0 b o h
    obtain ⟨b1,b2,b3⟩:=h'.s0 b o ⟨.inl h,yam a1 hr.size,a2⟩
    exact ⟨a1,b2,b3.trans a3⟩
  · refine (h'.frame b (yam hb hr.size) fun i ob0 hi hh=>?_).trans (hr.frame b hb h)
    rcases hr.mine i ob0 b hi hh with q | ⟨j,ob1,q1,q2⟩
    · omega
    · exact h j ob1 q1 q2
  · rcases h'.vers i (yam hi hr.len) with ⟨a,b⟩ | a
    · rcases hr.vers i hi with ⟨c,d⟩ | c
      · exact .inl ⟨a.trans c,b.trans d⟩
      · exact .inr (by rw [a]; exact c)
    · rcases hr.vers i hi with ⟨c,d⟩ | c
      · exact .inr (by rw [← c]; exact a)
      · exact .inr (Nat.lt_trans c a)
theorem HR.notHeld (hr:HR x C H w) {L:Nat} (hL:∀ cs T f,w.heap[L]? ≠ some (.cells cs T f)) {i:Nat} {ob:AObj} (h:H[i]? = some ob):¬ ob.holds C i L:=by
 intro hb
 have ho:=hr.obj i ob h
 cases ob with
 | box cells =>
  obtain ⟨cs,T,h1,_⟩:=ho
  rw [← (show L=C.blk i from hb)] at h1
  exact hL _ _ _ h1
 | arr ver st ipu T sz rows =>
  obtain ⟨_,_,_,xs,⟨_,h1⟩,_⟩:=ho
  have hb':(C.sv i).ownBlock=some L:=hb
  rcases h1 with ⟨h2,_⟩ | ⟨g,cap,cur,h2,_,h3,_⟩
  ·
   rw [h2] at hb'; cases hb'
  ·
   rw [h2] at hb'
   obtain rfl:g=L:=by simpa [Value.ownBlock] using hb'
   exact hL _ _ _ h3
 | gone=>exact hb.elim
theorem HR.loop (hr : HR x C H w) {L : Nat} {r r' : Loop} (h : w.heap[L]? = some (.loop r)) (h0 : x.w0.heap.size ≤ L) :
    HR x C H (w.putObj L (.loop r'))∧∀ p v,RepV (zu x C H w) w C p v→RepV (zu x C H (w.putObj L (.loop r'))) (w.putObj L (.loop r')) C p v:=by
  have hlt:L < w.heap.size:=(yak.1 h).1
  have hsz:(w.putObj L (.loop r')).heap.size=w.heap.size:=World.putObj_size
  have hnew:(w.putObj L (.loop r')).heap[L]? = some (.loop r'):=World.putObj_heap_same hlt
  have hold:∀ b,b≠L→(w.putObj L (.loop r')).heap[b]? = w.heap[b]? := fun b hb=>World.putObj_heap_other hb
  have hcell:∀ b o,(w.putObj L (.loop r')).cell? ⟨b,o,none⟩=w.cell? ⟨b,o,none⟩:=fun b o=>by
    by_cases e:b=L
    · subst e
      simp [World.cell?,hnew,h]
    · exact zbb (hold b e)
  have hunf:∀ b,Unf w b→Unf (w.putObj L (.loop r')) b:=fun b hu=>by
    by_cases e:b=L
    · subst e
      intro o
      simp [World.frozen?,hnew]
    · exact hu.same (hold b e)
  have hS:∀ b o,zu x C H w b o→zu x C H (w.putObj L (.loop r')) b o:=fun b o h=>⟨h.1.imp_right fun q=>⟨q.1,hunf b q.2⟩,by rw [hsz]; exact h.2.1,h.2.2⟩
  have hm:∀ p v,RepV (zu x C H w) w C p v→RepV (zu x C H (w.putObj L (.loop r'))) (w.putObj L (.loop r')) C p v:=fun p v h=>h.mono hS (fun b o _=>hcell b o) (yag _) (fun i _=>rfl) (fun i _ => .inl ⟨rfl,rfl⟩) fun b o h=>⟨h,hcell b o⟩
  have hne:∀ (i:Nat) ob,H[i]? = some ob→∀ b,ob.holds C i b→b≠L:=fun i ob hi b hb e=>by
    subst e
    exact hr.notHeld (fun cs T f e=>by rw [h] at e; cases e) hi hb
  refine ⟨⟨hr.n,fun i ob h=>(hr.obj i ob h).mono hm (fun p v h=>h.mono hS (fun b o _=>hcell b o)) (fun b hb=>hold b (hne i ob h b hb)) rfl rfl rfl,hr.apart,hr.mine,fun b o h=>?_,by rw [hsz]; exact hr.size,hr.os,hr.tape,hr.output,fun b hb h=>?_,hr.len,hr.ids,hr.vers,fun b o h=>⟨by rw [hsz]; exact (hr.old b o h).1,(hr.old b o h).2⟩,hr.old0,fun b hb h=>hunf b (hr.unf b hb h)⟩,hm⟩
  · obtain ⟨h1,h2,h3⟩:=hr.s0 b o h
    exact ⟨h1,h2,(hcell b o).trans h3⟩
  · exact (hold b (by omega)).trans (hr.frame b hb h)
end
section
variable {P:Program} {x:Cx} {nt n:Nat} {st:St}
theorem znM {F:Fence} {o:Oper} {a:Act} {next next':Act→World→Prop} {Q Q':Exit→Act→World→Prop} {r:Result Next} (hn:∀ a w,next a w→next' a w) (hQ:∀ e a w,e ≠ .normal→Q e a w→Q' e a w) (h:o.uponIn F n P a next Q r):o.uponIn F n P a next' Q' r:=by
 cases r with
 | ok nx w' =>
  cases nx with
  | value v=>exact hn _ _ h
  | skip=>exact hn _ _ h
  | defer d=>exact hn _ _ h
  | enter f args =>
   obtain ⟨h1,h2⟩:=(h:_∧CallsIn F (n - 1) P f args w' _)
   refine ⟨h1,h2.mono fun e w'' hq=>?_⟩
   cases e with
   | returned v=>exact hn _ _ hq
   | panicked c=>exact hQ _ _ _ (by simp) hq
   | outgrown=>obtain ⟨a0,w0,q⟩:=hq; exact ⟨a0,w0,hQ _ _ _ (by simp) q⟩
  | row row args =>
   obtain ⟨h1,h2⟩:=(h:_∧RowsIn F (n - 1) P row args w' _)
   exact ⟨h1,h2.mono fun v w'' hq=>hn _ _ hq⟩
  | round l f tmps assign body =>
   obtain ⟨h1,h2⟩:=(h:_∧RoundIn F (n - 1) P l f tmps assign body w' _)
   refine ⟨h1,h2.mono fun e w'' hq=>?_⟩
   cases e with
   | returned v=>exact hn _ _ hq
   | panicked c=>exact hQ _ _ _ (by simp) hq
   | outgrown=>obtain ⟨a0,w0,q⟩:=hq; exact ⟨a0,w0,hQ _ _ _ (by simp) q⟩
  | _=>exact (h:False).elim
 | halt hh w' =>
  cases hh <;> first | exact hQ _ _ _ (by simp) h | exact (h:False).elim
theorem zbt {F:Fence} {ops:Array Oper} {Q:Exit→Act→World→Prop} {K:Act→World→Prop}:∀ (os1 os2:List Oper) (a:Act) (w:World),wpListIn F n P ops (fun e a w=>e = .normal∧K a w) os1 a w→(∀ a w,K a w→wpListIn F n P ops Q os2 a w)→wpListIn F n P ops Q (os1 ++ os2) a w
 | [],os2,a,w,h,h2=>h2 a w h.2
 | o :: os1,os2,a,w,h,h2=>by
  rw [yau]
  unfold wpListIn at h ⊢
  split at h
  ·
   rename_i hw
   rw [if_pos hw]
   exact ⟨h.1,znM (fun a w h=>zbt os1 os2 a w h h2) (fun e a w he hq=>(he hq.1).elim) h.2⟩
  ·
   rename_i hw
   rw [if_neg hw]
   exact ⟨h.1,zbt os1 os2 _ w h.2 h2⟩
theorem zsS {o : Oper} {a : Act} {next next' : Act → World → Prop} {Q Q' : Exit → Act → World → Prop} {r : Result Next} {Φ : Array Value → Prop} (hd : ∀ v (a : Act), Φ a.tmps → Φ (a.put o.dst v).tmps) (hu : Φ a.tmps)
    (hn:∀ a w,Φ a.tmps→next a w→next' a w) (hQ:∀ e a w,e ≠ .normal→Q e a w→Q' e a w) (h:o.upon P a next Q r):o.upon P a next' Q' r:=by
  cases r with
  | ok nx w' =>
    cases nx with
    | value v=>exact hn _ _ (hd _ _ hu) h
    | skip=>exact hn _ _ (hd _ _ hu) h
    | defer d=>exact hn _ _ (hd _ { a with defers:=d :: a.defers } hu) h
    | enter f args =>
      refine (h:Calls P f args w' _).mono fun e w'' hq=>?_
      cases e with
      | returned v=>exact hn _ _ (hd _ _ hu) hq
      | panicked c=>exact hQ _ _ _ (by simp) hq
      | outgrown=>obtain ⟨a0,w0,q⟩:=hq; exact ⟨a0,w0,hQ _ _ _ (by simp) q⟩
    | row row args=>exact (h:Rows P row args w' _).mono fun v w'' hq=>hn _ _ (hd _ _ hu) hq
    | _=>exact (h:False).elim
  | halt hh w' =>
    cases hh <;> first | exact hQ _ _ _ (by simp) h | exact (h:False).elim
theorem zie {ops:Array Oper} {Q:Exit→Act→World→Prop} {Φ:Array Value→Prop}:∀ (os:List Oper) (a:Act) (w:World),(∀ o ∈ os,∀ v (a:Act),Φ a.tmps→Φ (a.put o.dst v).tmps)→Φ a.tmps→wpList P ops Q os a w→wpList P ops (fun e a w=>Q e a w∧(e = .normal→Φ a.tmps)) os a w
 | [],a,w,_,hu,h=>⟨h,fun _=>hu⟩
 | o :: os,a,w,hd,hu,h=>by
  unfold wpList at h ⊢
  have hr:=fun o' ho'=>hd o' (ybu o ho')
  split at h
  ·
   rename_i hw
   rw [if_pos hw]
   rcases h with h | ⟨h1,a0,w0,h2⟩
   ·
    exact .inl (zsS (hd o ybZ) hu (fun a w h1 h2=>zie os a w hr h1 h2) (fun e a w he hq=>⟨hq,fun h=>(he h).elim⟩) h)
   ·
    exact .inr ⟨h1,a0,w0,h2,fun h=>by cases h⟩
  ·
   rename_i hw
   rw [if_neg hw]
   exact zie os _ w hr (hd o ybZ _ _ hu) h
theorem zsT {o:Oper} {a:Act} {next next':Act→World→Prop} {Q:Exit→Act→World→Prop} {r:Result Next} (hn:∀ a w,next a w→next' a w) (h:o.upon P a next Q r):o.uponIn Fence.wide n P a next' Q r:=by
 cases r with
 | ok nx w' =>
  cases nx with
  | value v=>exact hn _ _ h
  | skip=>exact hn _ _ h
  | defer d=>exact hn _ _ h
  | enter f args =>
   refine ⟨(fun e=>by cases e),?_⟩
   have h2:Calls P f args w' _:=h
   exact (callsIn_wide.2 h2:CallsIn Fence.wide (n - 1) P f args w' _).mono fun e w'' hq=>by
    cases e with
    | returned v=>exact hn _ _ hq
    | panicked c=>exact hq
    | outgrown=>exact hq
  | row row args =>
   refine ⟨(fun e=>by cases e),fun c cs _=>?_⟩
   obtain ⟨v,w2,hv,hs⟩:=(h:Rows P row args w' _) c cs
   exact ⟨v,w2,hn _ _ hv,stepsIn_wide.2 hs⟩
  | _=>exact (h:False).elim
 | halt hh w' =>
  cases hh <;> first | exact h | exact (h:False).elim
theorem ze8 {ops:Array Oper} {Q:Exit→Act→World→Prop} (hQ:¬ LetsOut Q):∀ (os:List Oper),∀ a w,wpList P ops Q os a w→wpListIn Fence.wide n P ops Q os a w
 | [],a,w,h=>h
 | o :: os,a,w,h=>by
  unfold wpList at h
  unfold wpListIn
  split at h
  ·
   rename_i hw
   rw [if_pos hw]
   rcases h with h | h
   ·
    refine ⟨fun f _=>trivial,?_⟩
    rw [show Fence.wide.round=none from rfl,Oper.semAt_none]
    exact zsT (fun a w h=>ze8 hQ os a w h) h
   ·
    exact (hQ h.2).elim
  ·
   rename_i hw
   rw [if_neg hw]
   exact ⟨fun f _=>trivial,ze8 hQ os _ w h⟩
theorem zfP {ops:Array Oper}:∀ (os:List Oper) (l:List LOper),zF P nt ops os=some l→os.map (·.dst)=l.map (·.dst)
 | [],l,h=>by simp only [zF,yae] at h; subst h; rfl
 | o :: os,l,h=>by
  simp only [zF] at h
  split at h <;> try (cases h; done)
  rename_i lo r h1 h2
  cases h
  have hd:o.dst=lo.dst:=by
   unfold Zc at h1
   split at h1 <;> try (cases h1; done)
   split at h1 <;> try (cases h1; done)
   split at h1
   ·
    cases h1; rfl
   ·
    split at h1 <;> try (cases h1; done)
    split at h1 <;> try (cases h1; done)
    cases h1; rfl
  rw [yaA,yaA,zfP os r h2,hd]
theorem znN {ops : Array Oper} {os : List Oper} {lops : List LOper} {K : St → Prop} {a : Act} {w : World} {Φ : Array Value → Prop} (hlow : zF P nt ops os = some lops) (h : Zq P lops K st) (hrel : Rel x nt st a w)
    (hd:∀ o ∈ lops,∀ v (a:Act),Φ a.tmps→Φ (a.put o.dst v).tmps) (hu:Φ a.tmps):wpListIn Fence.wide n P ops (fun e a' w'=>e = .normal∧((∃ st',K st'∧Rel x nt st' a' w')∧Φ a'.tmps)) os a w:=by
  have h1:wpList P ops (fun e a' w'=>e = .normal∧∃ st',K st'∧Rel x nt st' a' w') os a w:=Zq.wp (fun st a w hk hr=>⟨rfl,st,hk,hr⟩) os lops st a w hlow h hrel
  have hd2:∀ o ∈ os,∀ v (a:Act),Φ a.tmps→Φ (a.put o.dst v).tmps:=fun o ho v a hp=>by
    have h2:=zfP os lops hlow
    obtain ⟨lo,hlo,e⟩:=yaG.1 (h2 ▸ yaG.2 ⟨o,ho,rfl⟩:o.dst ∈ lops.map (·.dst))
    rw [← e]
    exact hd lo hlo v a hp
  have h2:=zie (Φ:=Φ) os a w hd2 hu h1
  have h3:wpListIn Fence.wide n P ops _ os a w:=ze8 (n:=n) (fun ⟨_,_,h⟩=>by cases h.1.1) os a w h2
  have h4:=zbt (n:=n) (P:=P) (F:=Fence.wide) (ops:=ops) (Q:=fun e a' w'=>e = .normal∧((∃ st',K st'∧Rel x nt st' a' w')∧Φ a'.tmps)) (K:=fun a' w'=>(∃ st',K st'∧Rel x nt st' a' w')∧Φ a'.tmps) os [] a w ?_ (fun a w h=>⟨rfl,h⟩)
  · rwa [ya6] at h4
  · have:(fun e a' w'=>(e=Exit.normal∧∃ st',K st'∧Rel x nt st' a' w')∧(e = .normal→Φ a'.tmps))=(fun (e:Exit) (a':Act) (w':World)=>e = .normal∧((∃ st',K st'∧Rel x nt st' a' w')∧Φ a'.tmps)):=by
      funext e a' w'
      apply propext
      constructor
      · rintro ⟨⟨h1,h2⟩,h3⟩; exact ⟨h1,h2,h3 h1⟩
      · rintro ⟨h1,h2,h3⟩; exact ⟨⟨h1,h2⟩,fun _=>h3⟩
    rw [this] at h3
    exact h3
def znO (Q:AE→Act→World→Prop):Exit→Act→World→Prop
 | .normal,a,w=>Q .normal a w
 | .exit id,a,w=>Q (.exit id) a w
 | .ret,a,w=>Q .ret a w
 | _,_,_=>False
def WI (P:Program) (nt n:Nat) (lc:LC) (Q:AE→Act→World→Prop) (a:Act) (w:World):Prop:=∀ c,zq P nt c=some lc→c.wpIn Fence.wide n P (znO Q) a w
def zyK (K:Act→World→Prop) (Q:AE→Act→World→Prop):AE→Act→World→Prop
 | .normal,a,w=>K a w
 | e,a,w=>Q e a w
def zsU (id:Nat) (Q:AE→Act→World→Prop):AE→Act→World→Prop
 | .exit id',a,w=>if id'=id then Q .normal a w else Q (.exit id') a w
 | e,a,w=>Q e a w
variable {a:Act} {w:World} {Q:AE→Act→World→Prop}
theorem zsV (h:Q .normal a w):WI P nt n .skip Q a w:=by
 intro c hc
 cases c <;> simp only [zq,reduceCtorEq] at hc
 case skip=>exact wpIn_skip h
 all_goals (repeat' (split at hc)) <;> first | (cases hc; done) | (unfold Zl at hc; split at hc <;> cases hc; done) | (unfold Za at hc; split at hc <;> cases hc; done) | (obtain ⟨_,e⟩:=zE hc; cases e; done)
theorem zA8 (h:Q .ret a w):WI P nt n .ret Q a w:=by
 intro c hc
 cases c <;> simp only [zq,reduceCtorEq] at hc
 case ret=>exact wpIn_ret h
 all_goals (repeat' (split at hc)) <;> first | (cases hc; done) | (unfold Zl at hc; split at hc <;> cases hc; done) | (unfold Za at hc; split at hc <;> cases hc; done) | (obtain ⟨_,e⟩:=zE hc; cases e; done)
theorem zyL {id:Nat} (h:Q (.exit id) a w):WI P nt n (.exit id) Q a w:=by
 intro c hc
 cases c <;> simp only [zq,reduceCtorEq] at hc
 case exit i=>cases hc; exact wpIn_exit h
 all_goals (repeat' (split at hc)) <;> first | (cases hc; done) | (unfold Zl at hc; split at hc <;> cases hc; done) | (unfold Za at hc; split at hc <;> cases hc; done) | (obtain ⟨_,e⟩:=zE hc; cases e; done)
theorem zmm {la lb:LC} (h:WI P nt n la (zyK (WI P nt n lb Q) Q) a w):WI P nt n (.seq la lb) Q a w:=by
 intro c hc
 cases c <;> simp only [zq,reduceCtorEq] at hc
 case seq c1 c2 =>
  split at hc <;> try (cases hc; done)
  rename_i h1 h2
  cases hc
  refine wpIn_seq (wpIn_mono (h c1 h1) fun e a' w' hq=>?_)
  cases e with
  | normal=>exact hq c2 h2
  | exit id=>exact hq
  | ret=>exact hq
  | goto l=>exact hq.elim
  | panic ch=>exact hq.elim
  | outgrown=>exact hq.elim
 all_goals (repeat' (split at hc)) <;> first | (cases hc; done) | (unfold Zl at hc; split at hc <;> cases hc; done) | (unfold Za at hc; split at hc <;> cases hc; done) | (obtain ⟨_,e⟩:=zE hc; cases e; done)
theorem znP {lc:LOpd} {la lb:LC} {b:Bool} (hrel:Rel x nt st a w) (hb:lc.ev st = .bool b) (h1:b=true→WI P nt n la Q a w) (h2:b=false→WI P nt n lb Q a w):WI P nt n (.cond lc la lb) Q a w:=by
 intro c hc
 cases c <;> simp only [zq,reduceCtorEq] at hc
 case cond c0 c1 c2 =>
  split at hc <;> try (cases hc; done)
  rename_i g0 g1 g2
  cases hc
  obtain ⟨⟨C,hr1,he⟩,hdf,hsz⟩:=hrel
  have:=zau (st:=st) he g0
  rw [hb] at this
  refine wpIn_cond this.bool_inv ?_
  cases b with
  | true=>exact h1 rfl c1 g1
  | false=>exact h2 rfl c2 g2
 all_goals (repeat' (split at hc)) <;> first | (cases hc; done) | (unfold Zl at hc; split at hc <;> cases hc; done) | (unfold Za at hc; split at hc <;> cases hc; done) | (obtain ⟨_,e⟩:=zE hc; cases e; done)
theorem zoZ {id:Nat} {lb:LC} (h:WI P nt n lb (zsU id Q) a w):WI P nt n (.block id lb) Q a w:=by
 intro c hc
 cases c <;> simp only [zq,reduceCtorEq] at hc
 case block i c1 =>
  obtain ⟨lc1,h1,e⟩:=yad.1 hc
  cases e
  refine wpIn_block (wpIn_mono (h c1 h1) fun e a' w' hq=>?_)
  cases e with
  | normal=>exact hq
  | exit id' =>
   simp only [znO,zsU] at hq
   simp only [Exit.inBlock]
   split
   ·
    rename_i e; rw [if_pos e] at hq; exact hq
   ·
    rename_i e; rw [if_neg e] at hq; exact hq
  | ret=>exact hq
  | goto l=>exact hq.elim
  | panic ch=>exact hq.elim
  | outgrown=>exact hq.elim
 all_goals (repeat' (split at hc)) <;> first | (cases hc; done) | (unfold Zl at hc; split at hc <;> cases hc; done) | (unfold Za at hc; split at hc <;> cases hc; done) | (obtain ⟨_,e⟩:=zE hc; cases e; done)
theorem zyM {lb:LC} (I:Nat→Act→World→Prop) (k:Nat) (h0:I k a w) (hstep:∀ k a w,I k a w→WI P nt n lb (zyK (fun a' w'=>∃ k',k' < k∧I k' a' w') Q) a w):WI P nt n (.loop lb) Q a w:=by
 intro c hc
 cases c <;> simp only [zq,reduceCtorEq] at hc
 case loop c1 =>
  obtain ⟨l,h1,e⟩:=yad.1 hc
  cases e
  have key:∀ (m k:Nat) a w,k < m→I k a w→Code.rounds P c1 (znO Q) m a w:=by
   intro m
   induction m with
   | zero=>intro k a w h; omega
   | succ m ih =>
    intro k a w hlt hi
    rw [rounds_succ]
    refine wp_mono (wpIn_wide.1 (hstep k a w hi c1 h1)) fun e a' w' hq=>?_
    cases e with
    | normal=>obtain ⟨k',g1,g2⟩:=hq; exact ih k' a' w' (by omega) g2
    | exit id=>exact hq
    | ret=>exact hq
    | goto l=>exact hq.elim
    | panic ch=>exact hq.elim
    | outgrown=>exact hq.elim
  exact wpIn_wide.2 (wp_loop_rounds (k + 1) (key (k + 1) k a w (by omega) h0))
 all_goals (repeat' (split at hc)) <;> first | (cases hc; done) | (unfold Zl at hc; split at hc <;> cases hc; done) | (unfold Za at hc; split at hc <;> cases hc; done) | (obtain ⟨_,e⟩:=zE hc; cases e; done)
theorem znQ {lops:List LOper} (h:∀ ops os,zF P nt ops os=some lops→wpListIn Fence.wide n P ops (fun e a w=>e = .normal∧Q .normal a w) os a w):WI P nt n (.reg none lops) Q a w:=by
 intro c hc
 cases c <;> simp only [zq,reduceCtorEq] at hc
 case region id rops draw =>
  split at hc <;> try (cases hc; done)
  rename_i lo hl
  split at hc
  ·
   (repeat' (split at hc)) <;> first | (unfold Zl at hc; split at hc <;> cases hc; done) | (unfold Za at hc; split at hc <;> cases hc; done)
  ·
   cases hc
   rename_i hdr
   obtain rfl:draw=false:=by simpa using hdr
   refine wpIn_region_list ?_
   have h4:=zbt (n:=n) (P:=P) (F:=Fence.wide) (ops:=rops) (Q:=znO Q) (K:=fun a w=>Q .normal a w) rops.toList [] a w (h _ _ hl) (fun a w h=>h)
   rwa [ya6] at h4
 all_goals (repeat' (split at hc)) <;> first | (cases hc; done) | (obtain ⟨_,e⟩:=zE hc; cases e; done)
theorem zo0 {lops : List LOper} {K : St → Prop} {Φ : Array Value → Prop} (h : Zq P lops K st) (hrel : Rel x nt st a w)
    (hd:∀ o ∈ lops,∀ v (a:Act),Φ a.tmps→Φ (a.put o.dst v).tmps) (hu:Φ a.tmps) (hk:∀ st' a' w',K st'→Rel x nt st' a' w'→Φ a'.tmps→Q .normal a' w'):WI P nt n (.reg none lops) Q a w :=
  znQ fun ops os hl=>by
    have h1:=znN (n:=n) hl h hrel hd hu
    have h4:=zbt (n:=n) (P:=P) (F:=Fence.wide) (ops:=ops) (Q:=fun e a w=>e = .normal∧Q .normal a w) (K:=fun a' w'=>(∃ st',K st'∧Rel x nt st' a' w')∧Φ a'.tmps) os [] a w h1 (fun a w ⟨⟨st',g1,g2⟩,g3⟩=>⟨rfl,hk st' a w g1 g2 g3⟩)
    rwa [ya6] at h4
theorem zcb {ops:Array Oper}:∀ (l1 l2:List LOper) (os:List Oper),zF P nt ops os=some (l1 ++ l2)→∃ os1 os2,os=os1 ++ os2∧zF P nt ops os1=some l1∧zF P nt ops os2=some l2
 | [],l2,os,h=>⟨[],os,rfl,rfl,h⟩
 | lo :: l1,l2,[],h=>by simp [zF] at h
 | lo :: l1,l2,o :: os,h=>by
  simp only [zF] at h
  split at h <;> try (cases h; done)
  rename_i lo' r h1 h2
  simp only [yau,yae,yb6] at h
  obtain ⟨rfl,rfl⟩:=h
  obtain ⟨os1,os2,rfl,g1,g2⟩:=zcb l1 l2 os h2
  exact ⟨o :: os1,os2,rfl,by simp only [zF,h1,g1],g2⟩
theorem zu6 {o : Oper} {t u1 u2 L : Nat} {rc : Loop} {next : Act → World → Prop} {R : Ending → World → Prop} {Q : Exit → Act → World → Prop} (hl : Z1 P o.op = some (.callv (.tmp t) [.tmp u1, .tmp u2])) (h14 : a.tmps.getD t Go.undef = .func (.yield L) #[] #[])
    (hL:w.heap[L]? = some (.loop rc)) (hp:rc.params.size=2)
    (hround:RoundIn Fence.wide (n - 1) P L rc.fn ((rc.params.zip #[a.tmps.getD u1 Go.undef,a.tmps.getD u2 Go.undef]).foldl (fun tmps (t,a)=>tmps.setIfInBounds t a) rc.tmps) rc.assign rc.body w R) (hR:∀ e w',R e w'→∃ v,e = .returned v∧next (a.put o.dst v) w') :
    o.wpIn Fence.wide n P a w next Q:=by
  obtain ⟨Y,args0,tys,ho,hY,hargs⟩:=zhq hl
  have hY2:Y = .tmp t:=by
    cases Y with
    | tmp t'=>simp [zaK] at hY; rw [hY]
    | const v=>simp [zaK] at hY
    | func f=>simp [zaK] at hY
    | global g=>simp [zaK] at hY
  subst hY2
  have has:args0.map a.eval=#[a.tmps.getD u1 Go.undef,a.tmps.getD u2 Go.undef]:=by
    have key:∀ (l:List Operand) (ts:List Nat),zf4 l=some (ts.map .tmp)→l.map a.eval=ts.map fun t=>a.tmps.getD t Go.undef:=by
      intro l
      induction l with
      | nil=>intro ts h; simp [zf4] at h; cases ts with | nil=>rfl | cons t ts=>simp at h
      | cons X l ih =>
        intro ts h
        simp only [zf4] at h
        split at h <;> try (cases h; done)
        rename_i p ps h1 h2
        cases ts with
        | nil=>simp at h
        | cons t ts =>
          simp only [yaA,yae,yb6] at h
          obtain ⟨rfl,rfl⟩:=h
          rw [yaA,yaA,ih ts h2]
          congr 1
          cases X with
          | tmp t'=>simp [zaK] at h1; rw [← h1]; rfl
          | const v=>simp [zaK] at h1
          | func f=>simp [zaK] at h1
          | global g=>simp [zaK] at h1
    have:=key args0.toList [u1,u2] hargs
    apply Array.toList_inj.1
    rw [ybE,this]; rfl
  refine ⟨fun f _=>trivial,?_⟩
  rw [show Fence.wide.round=none from rfl,Oper.semAt_none]
  have hrun:(execOp a.eval o).run P w = .ok (.round L rc.fn ((rc.params.zip #[a.tmps.getD u1 Go.undef,a.tmps.getD u2 Go.undef]).foldl (fun tmps (t,a)=>tmps.setIfInBounds t a) rc.tmps) rc.assign rc.body) w:=by
    have hy:=run_yield (P:=P) (args:=#[a.tmps.getD u1 Go.undef,a.tmps.getD u2 Go.undef]) hL (by rw [hp]; rfl)
    simp only [execOp,ho,resolve,Deferred.ofValue,Act.eval,h14,yal,yay,Result.andThen_ok,invoke]
    rw [has]
    simpa using hy
  rw [hrun]
  refine ⟨(fun e=>by cases e),hround.mono fun e w' hq=>?_⟩
  obtain ⟨v,rfl,hn⟩:=hR e w' hq
  exact hn
end
theorem zeb (n a b:Int) (w:World):Calls prog 173 #[.int .i64 n,.int .i64 a,.int .i64 b] w fun e w'=>e = .returned (.bool (ZI n a b))∧w=w':=by
 by_cases h1:a≤n
 ·
  go_enter func173,ntmps173
  go_wp2
  go_ret
  exact ⟨by simp [ZI,h1],rfl⟩
 ·
  go_enter func173,ntmps173
  go_wp2
  go_ret
  exact ⟨by simp [ZI]; omega,rfl⟩
theorem zcM (r n:Int) (w:World):Calls prog 142 #[.agg #[.int .i64 r,.int .i64 n]] w fun e w'=>e = .returned (.bool (zcS ⟨r,n⟩))∧Below w.heap.size w w':=by
 cases h1:ZI r 0 1
 ·
  have e:zcS ⟨r,n⟩=false:=by simp [zcS,h1]
  rw [e]
  go_enter func142,ntmps142
  go_wp2_with (go_at_call 173; refine (zeb _ _ _ _).mono ?_; rintro e w' ⟨rfl,rfl⟩)
  go_ret
  exact ⟨rfl,(Below.refl _ _).alloc (yag _) _⟩
 ·
  have e:zcS ⟨r,n⟩=ZI n 1 20:=by simp [zcS,h1]
  rw [e]
  go_enter func142,ntmps142
  go_wp2_with (go_at_call 173; refine (zeb _ _ _ _).mono ?_; rintro e w' ⟨rfl,rfl⟩)
  go_ret
  exact ⟨rfl,(Below.refl _ _).alloc (yag _) _⟩
theorem zsW (a b:Int) (w:World):Calls prog 214 #[.int .i64 a,.int .i64 b] w fun e w'=>e = .returned (.int .i64 (ziI a b))∧w=w':=by
 by_cases h1:a < b
 ·
  go_enter func214,ntmps214
  go_wp2
  go_ret
  exact ⟨by simp [ziI,h1],rfl⟩
 ·
  by_cases h2:b < a
  ·
   go_enter func214,ntmps214
   go_wp2
   go_ret
   exact ⟨by simp [ziI,h1,h2],rfl⟩
  ·
   go_enter func214,ntmps214
   go_wp2
   go_ret
   exact ⟨zaA (by unfold ziI; rw [if_neg (by omega),if_neg (by omega)]),rfl⟩
theorem zif (a b:Id) (w:World):Calls prog 143 #[.agg #[.int .i64 a.r,.int .i64 a.n],.agg #[.int .i64 b.r,.int .i64 b.n]] w fun e w'=>e = .returned (.int .i64 (zgb a b))∧Below w.heap.size w w':=by
 go_enter func143,ntmps143
 go_wp2_with (go_at_call 214; refine (zsW _ _ _).mono ?_; rintro e w' ⟨rfl,rfl⟩)
 ·
  go_ret
  have h:(ziI a.r b.r != 0)=true:=by assumption
  exact ⟨zaA (by rw [zgb,if_neg (by simpa using h)]),by (repeat (first | exact Below.refl _ _ | assumption | refine Below.drew ?_ | refine zZ ?_ | refine Below.alloc ?_ (by first | (simp; done) | (simp; omega) | omega) _ | refine Below.setCell ?_ (by first | (simp; done) | (simp; omega) | omega) _))⟩
 ·
  go_ret
  have h:(ziI a.r b.r != 0)=false:=by assumption
  exact ⟨zaA (by rw [zgb,if_pos (by simpa using h)]),by (repeat (first | exact Below.refl _ _ | assumption | refine Below.drew ?_ | refine zZ ?_ | refine Below.alloc ?_ (by first | (simp; done) | (simp; omega) | omega) _ | refine Below.setCell ?_ (by first | (simp; done) | (simp; omega) | omega) _))⟩
theorem zcN (n:Int) (w:World):Calls prog 103 #[.int .i64 n] w fun e w'=>e = .returned (.bool (ZI n 1 7))∧w=w':=by
 go_enter func103,ntmps103
 go_wp2_with (go_at_call 173; refine (zeb _ _ _ _).mono ?_; rintro e w' ⟨rfl,rfl⟩)
 go_ret
 exact ⟨rfl,rfl⟩
theorem ze9 (S : Nat → Prop) (e : Entry) (lv : Value) (w : World) (hl : zb4 S w lv e.ls) (ht : e.t.size ≤ maxLen) :
    Calls prog 70 #[.agg #[.int .i64 e.id.r,.int .i64 e.id.n,.int .i64 e.c,.string e.t,lv]] w fun x w'=>x = .returned (.int .i64 (zm e))∧Below w.heap.size w w':=by
  obtain ⟨a,c,rfl,hc1,hc2⟩:=hl.form
  have HL:=Lib.hid hl; clear hl
  unfold maxLen at ht
  cases h1:zcS e.id
  · have H:Hid (zm e=3):=by show _=_; rw [zm,if_pos h1]
    go_enter func70,ntmps70
    go_wp2_with (go_at_call 142; refine (zcM _ _ _).mono ?_; rintro x w1 ⟨rfl,hb⟩)
    go_ret
    exact ⟨zaA H.out.symm,Zs (by (repeat (first | exact Below.refl _ _ | assumption | refine Below.drew ?_ | refine zZ ?_ | refine Below.alloc ?_ (by first | (simp; done) | (simp; omega) | omega) _ | refine Below.setCell ?_ (by first | (simp; done) | (simp; omega) | omega) _))) hb⟩
  cases h2:ZI e.c 1 7
  · have H:Hid (zm e=3):=by show _=_; rw [zm,if_neg (by simp [h1]),if_pos h2]
    go_enter func70,ntmps70
    go_wp2_with (first | (go_at_call 142; refine (zcM _ _ _).mono ?_; rintro x w1 ⟨rfl,hb⟩; (have B:=Zs (w:=w) (by (repeat (first | exact Below.refl _ _ | assumption | refine Below.drew ?_ | refine zZ ?_ | refine Below.alloc ?_ (by first | (simp; done) | (simp; omega) | omega) _ | refine Below.setCell ?_ (by first | (simp; done) | (simp; omega) | omega) _))) hb; obtain ⟨hc,hf⟩:=zeY hb; have hz:=hb.size; (try simp only [yba] at hz); clear hb)) | (go_at_call 103; refine (zcN _ _).mono ?_; rintro x w2 ⟨rfl,rfl⟩))
    go_ret
    exact ⟨zaA H.out.symm,B⟩
  have g1:(zcS e.id=false)=False:=by simp [h1]
  have g2:(ZI e.c 1 7=false)=False:=by simp [h2]
  by_cases h3:12 < e.t.size
  · have H:Hid (zm e=2):=by show _=_; simp only [zm,g1,g2,if_false,if_pos h3]
    clear g1 g2
    go_enter func70,ntmps70
    go_wp2_with (first | (go_at_call 142; refine (zcM _ _ _).mono ?_; rintro x w1 ⟨rfl,hb⟩; (have B:=Zs (w:=w) (by (repeat (first | exact Below.refl _ _ | assumption | refine Below.drew ?_ | refine zZ ?_ | refine Below.alloc ?_ (by first | (simp; done) | (simp; omega) | omega) _ | refine Below.setCell ?_ (by first | (simp; done) | (simp; omega) | omega) _))) hb; obtain ⟨hc,hf⟩:=zeY hb; have hz:=hb.size; (try simp only [yba] at hz); clear hb)) | (go_at_call 103; refine (zcN _ _).mono ?_; rintro x w2 ⟨rfl,rfl⟩))
    go_ret
    exact ⟨zaA H.out.symm,B⟩
  by_cases h4:6 < e.ls.length
  · have H:Hid (zm e=2):=by show _=_; simp only [zm,g1,g2,if_false,if_neg h3,if_pos h4]
    clear g1 g2
    go_enter func70,ntmps70
    go_wp2_with (first | (go_at_call 142; refine (zcM _ _ _).mono ?_; rintro x w1 ⟨rfl,hb⟩; (have B:=Zs (w:=w) (by (repeat (first | exact Below.refl _ _ | assumption | refine Below.drew ?_ | refine zZ ?_ | refine Below.alloc ?_ (by first | (simp; done) | (simp; omega) | omega) _ | refine Below.setCell ?_ (by first | (simp; done) | (simp; omega) | omega) _))) hb; obtain ⟨hc,hf⟩:=zeY hb; have hz:=hb.size; (try simp only [yba] at hz); clear hb)) | (go_at_call 103; refine (zcN _ _).mono ?_; rintro x w2 ⟨rfl,rfl⟩))
    go_ret
    exact ⟨zaA H.out.symm,B⟩
  have H:Hid (zm e=zP (zU e.id e.ls) e.ls.length):=by show _=_; simp only [zm,g1,g2,if_false,if_neg h3,if_neg h4]
  clear g1 g2
  go_enter func70,ntmps70
  go_wp2_with (first | (go_at_call 142; refine (zcM _ _ _).mono ?_; rintro x w1 ⟨rfl,hb⟩; (have B:=Zs (w:=w) (by (repeat (first | exact Below.refl _ _ | assumption | refine Below.drew ?_ | refine zZ ?_ | refine Below.alloc ?_ (by first | (simp; done) | (simp; omega) | omega) _ | refine Below.setCell ?_ (by first | (simp; done) | (simp; omega) | omega) _))) hb; obtain ⟨hc,hf⟩:=zeY hb; have hz:=hb.size; (try simp only [yba] at hz); clear hb)) | (go_at_call 103; refine (zcN _ _).mono ?_; rintro x w2 ⟨rfl,rfl⟩))
  go_loopw [30] (fun i wr=>∃ k:Nat,k≤e.ls.length∧i = .int .i64 k∧Hid (zP (zU e.id e.ls) k=0)∧Below w1.heap.size w1 wr) (fun i _=>e.ls.length - (intOf i).toNat)
  case atStart=>exact ⟨0,by omega,rfl,rfl,Below.refl _ _⟩
  case round =>
    obtain ⟨k,hk,rfl,hz0,hbe⟩:=hrel
    by_cases hlt:k < e.ls.length
    · obtain ⟨b,o,rfl,hS,hbs,c1,c2⟩:=((HL.out.below B).below hbe).get hlt
      obtain ⟨hcr,hfr⟩:=zeY hbe
      have hzr:=hbe.size
      cases h5:zcS (nth e.ls k)
      · have HE:Hid (zU e.id e.ls k=3):=by show _=_; rw [zU,if_pos h5]
        go_wp2_with (go_at_call 142; refine (zcM _ _ _).mono ?_; rintro x w3 ⟨rfl,hb⟩)
        go_ret
        exact ⟨zaA (by rw [H.out,Zg hz0.out (by rw [HE.out]; decide) hlt,HE.out]),B.trans (Zs (by (repeat (first | exact Below.refl _ _ | assumption | refine Below.drew ?_ | refine zZ ?_ | refine Below.alloc ?_ (by first | (simp; done) | (simp; omega) | omega) _ | refine Below.setCell ?_ (by first | (simp; done) | (simp; omega) | omega) _))) hb |>.mono B.size)⟩
      · by_cases hk0:0 < k
        · have hd:decide ((0:Int) < (k:Int))=true:=by simpa using hk0
          obtain ⟨b',o',hb',-,-,c3,c4⟩:=((HL.out.below B).below hbe).get (k:=k - 1) (by omega)
          obtain ⟨rfl,rfl⟩:b=b'∧o=o':=by simpa using hb'
          clear hb'
          go_wp2_with (first | (go_at_call 142; refine (zcM _ _ _).mono ?_; rintro x w3 ⟨rfl,hb⟩; have B3:=Zs (w:=w1) (by (repeat (first | exact Below.refl _ _ | assumption | refine Below.drew ?_ | refine zZ ?_ | refine Below.alloc ?_ (by first | (simp; done) | (simp; omega) | omega) _ | refine Below.setCell ?_ (by first | (simp; done) | (simp; omega) | omega) _))) hb; obtain ⟨hc3,hf3⟩:=zeY hb; have hz3:=hb.size; (try simp only [yba] at hz3); clear hb))
          have z1:w.heap.size < w3.heap.size:=by omega
          have z2:b < w3.heap.size:=by omega
          have z3:wr.heap.size < w3.heap.size:=by omega
          have z4:w.heap.size < wr.heap.size:=by omega
          have z5:w.heap.size < w1.heap.size:=by omega
          have hg:=zlq w3
          refine wp_region_quiet_below (by kernel_rfl) (by kernel_rfl) ?_
          repeat (go_big_quiet_step ((go_at_call 143; exact Calls.regrown_of (zif _ _ _))))
          (refine wpQuiet_nil ?_; intro wq hwq; have hbq:=zeG hwq; clear hwq hg)
          obtain ⟨hcq,hfq⟩:=zeY hbq
          have hzq:=hbq.size
          have BQ:Below w.heap.size w wq:=B.trans ((B3.trans (hbq.mono B3.size)).mono B.size)
          have BR:Below w1.heap.size w1 wq:=B3.trans (hbq.mono B3.size)
          go_wp2
          · go_ret
            have h:0≤zgb (nth e.ls (k - 1)) (nth e.ls k):=by assumption
            have h':=zm8 (e:=e.id) h5 hk0 h
            exact ⟨zaA (by rw [H.out,Zg hz0.out (by rw [h']; decide) hlt,h']),BQ⟩
          · go_ret
            have h':=zhB (ls:=e.ls) (k:=k) (e:=e.id) h5 (by assumption) (by assumption)
            exact ⟨zaA (by rw [H.out,Zg hz0.out (by rw [h']; decide) hlt,h']),BQ⟩
          all_goals
            have h:zgb (nth e.ls (k - 1)) (nth e.ls k) < 0:=by assumption
            have h':=zjk (ls:=e.ls) (k:=k) (e:=e.id) h5 (.inr h) (by first | (rintro ⟨-,h2⟩; omega) | (rintro ⟨h2,-⟩; contradiction))
            go_roundw
            case rel=>exact ⟨k + 1,by omega,by go_num,Zv hz0.out h',BR⟩
            case measure=>simp [intOf]; omega
        · have hd:decide ((0:Int) < (k:Int))=false:=by simpa using hk0
          go_wp2_with (first | (go_at_call 142; refine (zcM _ _ _).mono ?_; rintro x w3 ⟨rfl,hb⟩; have B3:=Zs (w:=w1) (by (repeat (first | exact Below.refl _ _ | assumption | refine Below.drew ?_ | refine zZ ?_ | refine Below.alloc ?_ (by first | (simp; done) | (simp; omega) | omega) _ | refine Below.setCell ?_ (by first | (simp; done) | (simp; omega) | omega) _))) hb; obtain ⟨hc3,hf3⟩:=zeY hb; have hz3:=hb.size; (try simp only [yba] at hz3); clear hb))
          have z1:w.heap.size < w3.heap.size:=by omega
          have z2:b < w3.heap.size:=by omega
          have z3:wr.heap.size < w3.heap.size:=by omega
          have z4:w.heap.size < wr.heap.size:=by omega
          have z5:w.heap.size < w1.heap.size:=by omega
          have hg:=zlq w3
          refine wp_region_quiet_below (by kernel_rfl) (by kernel_rfl) ?_
          repeat (go_big_quiet_step ((go_at_call 143; exact Calls.regrown_of (zif _ _ _))))
          (refine wpQuiet_nil ?_; intro wq hwq; have hbq:=zeG hwq; clear hwq hg)
          obtain ⟨hcq,hfq⟩:=zeY hbq
          have hzq:=hbq.size
          have BQ:Below w.heap.size w wq:=B.trans ((B3.trans (hbq.mono B3.size)).mono B.size)
          have BR:Below w1.heap.size w1 wq:=B3.trans (hbq.mono B3.size)
          go_wp2
          · go_ret
            have h':=zhB (ls:=e.ls) (k:=k) (e:=e.id) h5 (by assumption) (by assumption)
            exact ⟨zaA (by rw [H.out,Zg hz0.out (by rw [h']; decide) hlt,h']),BQ⟩
          all_goals
            have h':=zjk (ls:=e.ls) (k:=k) (e:=e.id) h5 (.inl (by omega)) (by first | (rintro ⟨-,h2⟩; omega) | (rintro ⟨h2,-⟩; contradiction))
            go_roundw
            case rel=>exact ⟨k + 1,by omega,by go_num,Zv hz0.out h',BR⟩
            case measure=>simp [intOf]; omega
    · go_wp2
      go_ret
      exact ⟨zaA (by rw [H.out,show e.ls.length=k from by omega,hz0.out]),B.trans (hbe.mono B.size)⟩
theorem zo1:prog.underlying 262=some (.slice 5):=by kernel_rfl
theorem zA9:prog.underlying 5=some (.int .u8):=by kernel_rfl
theorem zsX:prog.underlying 9=some .string:=by kernel_rfl
def zaf (l:List UInt8):List Value:=l.map fun b => .int .u8 (b.toNat:Int)
theorem zsY (n:Int):((byt n).toNat:Int)=n % 256:=by
 have h1:0≤n % 256:=Int.emod_nonneg _ (by decide)
 have h2:n % 256 < 256:=Int.emod_lt_of_pos _ (by decide)
 unfold byt
 rw [UInt8.toNat_ofNat']
 omega
theorem zxf:(prog.info? 5).map (fun i=>(i.zero,i.size,i.bytes))=some (some (.int .u8 0),1,1):=by kernel_rfl
def zBa (w:World) (blk bw:Nat) (cs:Array Value) (ys:List UInt8) (wr:World):Prop :=
 wr.heap[blk]? = some (.cells cs 3 (0,0))∧(∃ bv,wr.cell? ⟨bw,0,none⟩=some bv∧wr.frozen? ⟨bw,0,none⟩=false∧wr.ownsRow (bw + 1) 5 1 bv ys.length (zaf ys))∧Below bw w wr
theorem zsZ (ns : List Int) (blk bw c : Nat) (bv : Value) (xs : List UInt8) (cs : Array Value) (w : World)
    (hblk:w.heap[blk]? = some (.cells cs 3 (0,0))) (hcs:∀ k,k < ns.length→cs[k]? = some (.int .i64 (nth ns k))) (hbb:blk≠bw)
    (hb:w.cell? ⟨bw,0,none⟩=some bv) (hf:w.frozen? ⟨bw,0,none⟩=false) (hown:w.ownsRow (bw + 1) 5 1 bv xs.length (zaf xs)) (hsz:xs.length + ns.length≤1000) (hbw:bw < w.heap.size) :
    Calls prog 202 #[.slice (some ⟨blk,0,none⟩) ns.length c,.pointer (some ⟨bw,0,none⟩)] w
      fun e w'=>e = .returned (.tuple #[])∧∃ bv',w'.cell? ⟨bw,0,none⟩=some bv'∧w'.frozen? ⟨bw,0,none⟩=false∧w'.ownsRow (bw + 1) 5 1 bv' (xs ++ ns.map byt).length (zaf (xs ++ ns.map byt))∧Below bw w w':=by
  obtain ⟨i0,hi,hz0,hz1,hz2⟩:=info_parts zxf
  go_enter func202,ntmps202
  go_wp2
  have hml:ns.length≤1000:=by omega
  go_loopw [7] (fun i wr=>∃ k:Nat,k≤ns.length∧i = .int .i64 k∧zBa w blk bw cs (xs ++ (ns.take k).map byt) wr) (fun i _=>ns.length - (intOf i).toNat)
  case atStart=>exact ⟨0,by omega,rfl,hblk,by simpa using ⟨bv,hb,hf,hown⟩,Below.refl _ _⟩
  case round =>
    obtain ⟨k,hk,rfl,rb,rv,rbe⟩:=hrel
    clear hb hf hown
    obtain ⟨bv,hb,hf,hown⟩:=rv
    by_cases hlt:k < ns.length
    · have hc:wr.cell? ⟨blk,k,none⟩=some (.int .i64 (nth ns k)):=by
        rw [cell_of_row wr blk k cs 3 (0,0) rb]
        exact hcs k hlt
      have hl1:(xs ++ (ns.take k).map byt).length=xs.length + k:=by simp; omega
      have hx:xs ++ (ns.take (k + 1)).map byt=(xs ++ (ns.take k).map byt) ++ [byt (nth ns k)]:=by
        rw [yaE hlt,List.map_append,← ybb,zv ns k hlt]
        rfl
      have HX:=Lib.hid hx; clear hx
      have H1:=Lib.hid hl1; clear hl1
      have hz:=rbe.size
      have hnb:=Lib.hid hbb; clear hbb
      generalize hys:xs ++ (ns.take k).map byt=ys at *
      clear hys
      rw [H1.out] at hown
      go_wp2_with (at_builtin; refine wpList_append_own _ rfl _ _ 262 rfl (bw + 1) 5 i0 (.int .u8 0) 1 1 zo1 hi hz0 hz1 hz2 rfl (by decide) _ _ _ rfl (hown.alloc _) ⟨wr.heap.size,0,none⟩ 1 1 [.int .u8 (nth ns k % 256)] rfl rfl ?c1 ?c2 ?c3 ?c4 ?c5 ?_)
      case c1=>exact fun j u h=>zlr (vs := [.int .u8 (nth ns k % 256)]) h
      case c2=>simp [Value.oneCell']
      case c3=>unfold maxLen; omega
      case c4=>omega
      case c5=>simp; omega
      intro v' w1 hown1 hgrow _
      have hob:some blk≠bv.ownBlock:=by
        intro e
        obtain ⟨-,h2⟩:=hown
        rcases h2 with ⟨rfl,-⟩ | ⟨g,cap,cur,rfl,-,hg,-⟩
        · simp [Value.ownBlock] at e
        · simp only [Value.ownBlock,yae] at e
          rw [← e,rb] at hg
          simp at hg
      have hblt:blk < wr.heap.size:=(yak.1 rb).1
      have e1:w1.heap[blk]? = wr.heap[blk]? := (hgrow.block blk (by simp; omega) hob).trans (heap_alloc_old wr _ hblt)
      have e2:w1.heap[bw]? = wr.heap[bw]? := zcn hown (by omega) (by omega) hgrow
      have B1:Below bw w w1:=zm7 rbe hown (by omega) (by omega) hgrow
      have hb1:=(Zn (o:=0) e2).trans hb
      have hf1:=(ZJ (o:=0) e2).trans hf
      have HB:=Lib.hid e1; clear e1
      obtain ⟨av,cv,rfl⟩:=zdn hown1
      clear e2 hc hown hgrow
      go_wp2
      go_roundw
      case rel =>
        refine ⟨k + 1,by omega,by go_num,?_,⟨.slice av (xs.length + k + 1) cv,?_,?_,?_⟩,B1.setCell (yag _) _⟩
        · rw [Below.heap_setCell _ _ _ _ (by exact hnb.out),HB.out]; exact rb
        · simp [go_sem,hb1]
        · simp [go_sem,hf1]
        · have h2:=ownsRow_setCell_below hown1 (a:=⟨bw,0,none⟩) (by simp) (.slice av (xs.length + k + 1) cv)
          rw [HX.out]
          have e3:zaf (ys ++ [byt (nth ns k)])=zaf ys ++ [.int .u8 (nth ns k % 256)]:=by simp [zaf,zsY]
          rw [e3,yaR,H1.out]
          exact h2
      case measure=>simp [intOf]; omega
    · have hk2:k=ns.length:=by omega
      subst hk2
      rw [ybF] at *
      go_wp2
      go_end0
      exact ⟨rfl,bv,hb,hf,hown,rbe⟩
theorem zs0 {B:Nat} {W w1:World} (hb:Below B W w1):∀ b o,b < B→w1.cell? ⟨b,o,none⟩=W.cell? ⟨b,o,none⟩ :=
 fun b o h=>hb.cell (p:=⟨b,o,none⟩) h
def zgL (bw:Nat) (ys:List UInt8) (w w':World):Prop :=
 (∃ bv,w'.cell? ⟨bw,0,none⟩=some bv∧w'.frozen? ⟨bw,0,none⟩=false∧w'.ownsRow (bw + 1) 5 1 bv ys.length (zaf ys))∧Below bw w w'
theorem zgL.lt {bw:Nat} {ys:List UInt8} {w0 w:World} (h:zgL bw ys w0 w):bw < w.heap.size:=by
 obtain ⟨⟨bv,h1,-,-⟩,-⟩:=h
 exact World.block_lt_of_cell? w ⟨bw,0,none⟩ h1
theorem zgL.alloc {bw:Nat} {ys:List UInt8} {w0 w:World} (h:zgL bw ys w0 w) (hbw:bw < w.heap.size) (o:Obj):zgL bw ys w0 (w.alloc o):=by
 obtain ⟨⟨bv,h1,h2,h3⟩,h4⟩:=h
 have e2:(w.alloc o).heap[bw]? = w.heap[bw]? := heap_alloc_old _ _ hbw
 exact ⟨⟨bv,(Zn e2).trans h1,(ZJ e2).trans h2,h3.alloc _⟩,h4.alloc (by omega) _⟩
theorem znR (ns : List Int) (n bw c blk : Nat) (xs : List UInt8) (w0 w : World) (o : Obj) (hn : n = ns.length) (hblk : blk = w.heap.size) (ho : o = .cells (ns.map (Value.int .i64)).toArray 3) (h : zgL bw xs w0 w) (hsz : xs.length + ns.length ≤ 1000) (hbw : bw < w.heap.size) :
    Calls prog 202 #[.slice (some ⟨blk,0,none⟩) n c,.pointer (some ⟨bw,0,none⟩)] (w.alloc o)
      fun e w'=>e = .returned (.tuple #[])∧zgL bw (xs ++ ns.map byt) w0 w':=by
  subst ho hblk hn
  obtain ⟨⟨bv,h1,h2,h3⟩,h4⟩:=h
  have e2:(w.alloc (.cells (ns.map (Value.int .i64)).toArray 3)).heap[bw]? = w.heap[bw]? := heap_alloc_old _ _ hbw
  refine (zsZ ns w.heap.size bw c bv xs _ _ (heap_alloc_new w _) ?_ (by omega) ((Zn e2).trans h1) ((ZJ e2).trans h2) (h3.alloc _) hsz (by simp; omega)).mono ?_
  · intro k hk
    simp [nth,hk]
  · rintro e w' ⟨rfl,bv',g1,g2,g3,g4⟩
    exact ⟨rfl,⟨bv',g1,g2,g3⟩,(h4.alloc (by omega) _).trans g4⟩
theorem zu7 {base n:Nat} {w:World} {v:Value} {l:List UInt8} (h:w.ownsRow base 5 1 v n (zaf l)):(convert 262 9 v).run prog w = .ok (.string (BA l)) w:=by
 have hl:l.length=n:=by simpa [zaf] using h.1
 have h2:=h.2
 rcases h2 with ⟨rfl,rfl⟩ | ⟨g,cap,cur,rfl,-⟩
 ·
  have:l = []:=yaH hl
  subst this
  exact run_convert_bytes_nil w _ _ zo1 zA9 0 0 _ zsX
 ·
  have hc:=h.cells (g:=g) rfl
  have:=run_convert_bytes_back (P:=prog) w 262 9 5 ⟨g,0,none⟩ cap l zo1 zA9 zsX (fun j hj=>hc j _ (by simp [zaf,hj]))
  rw [hl] at this
  exact this
theorem znS (s:ByteArray):Lib.strCells s=zaf s.data.toList:=rfl
theorem zig (S : Nat → Prop) (e : Entry) (lv : Value) (w : World) (hl : zb4 S w lv e.ls) (ht : e.t.size ≤ 12) (h6 : e.ls.length ≤ 6) :
    Calls prog 123 #[.agg #[.int .i64 e.id.r,.int .i64 e.id.n,.int .i64 e.c,.string e.t,lv]] w fun x w'=>x = .returned (.string (BA (ziD e)))∧Below w.heap.size w w':=by
  obtain ⟨a,c,rfl,hc1,hc2⟩:=hl.form
  have HL:=Lib.hid hl; clear hl
  have hmf:∀ (fn:Fn) (first cap:Array Value) (w:World),(Instr.makeFunc fn first cap).run prog w = .ok (.func fn first cap) w:=fun _ _ _ _=>rfl
  go_enter func123,ntmps123
  go_wp2_with fail
  refine (znR [e.id.r,e.id.n,e.c,e.ls.length] 4 _ _ _ [] (w.alloc (.cells #[.int .i64 e.id.r,.int .i64 e.id.n,.int .i64 e.c,.string e.t,.slice a e.ls.length c] 32)) _ _ rfl ?_ rfl ⟨⟨_,?_,?_,ybL _ _ _ _⟩,?_⟩ ?_ ?_).mono ?_
  · simp
  · simp [go_sem]
  · simp [go_sem]
  · exact (Below.refl _ _).alloc (by simp) _
  · simp
  · simp
  rintro x w1 ⟨rfl,hp⟩
  have hk:=zs0 hp.2
  have hz:=hp.2.size
  simp only [yba] at hz
  go_wp2_with fail
  go_loopw [25] (fun i wr=>∃ k:Nat,k≤e.ls.length∧i = .int .i64 k∧zgL (w.heap.size + 1) (zm9 e k) (w.alloc (.cells #[.int .i64 e.id.r,.int .i64 e.id.n,.int .i64 e.c,.string e.t,.slice a e.ls.length c] 32)) wr) (fun i _=>e.ls.length - (intOf i).toNat)
  case atStart=>exact ⟨0,by omega,rfl,hp⟩
  case round =>
    obtain ⟨k,hk',rfl,hpk⟩:=hrel
    clear hk hp
    have hk:=zs0 hpk.2
    have hzk:=hpk.2.size
    simp only [yba] at hzk
    have hzl:=hpk.lt
    have hl:=zoo e k hk'
    have HK:=Lib.hid hl; clear hl
    by_cases hlt:k < e.ls.length
    · obtain ⟨b,o,rfl,-,hbs,c1,c2⟩:=(HL.out.keep (w':=wr) (by omega) (fun b' _ h=>(hpk.2.block b' (by omega)).trans (heap_alloc_old w _ h))).get hlt
      go_wp2_with fail
      refine (znR [(nth e.ls k).r,(nth e.ls k).n] 2 _ _ _ (zm9 e k) (w.alloc (.cells #[.int .i64 e.id.r,.int .i64 e.id.n,.int .i64 e.c,.string e.t,.slice (some ⟨b,o,none⟩) e.ls.length c] 32)) _ _ rfl ?_ rfl (hpk.alloc ?_ _) ?_ ?_).mono ?_
      · simp
      · omega
      · rw [HK.out]; simp; omega
      · simp; omega
      rintro x w2 ⟨rfl,hp2⟩
      go_wp2_with fail
      go_roundw
      case rel=>exact ⟨k + 1,by omega,by go_num,by rw [zls e k hlt]; exact hp2⟩
      case measure=>simp [intOf]; omega
    · obtain rfl:k=e.ls.length:=by omega
      go_wp2_with fail
      refine (znR [(e.t.size:Int)] 1 _ _ _ (zm9 e e.ls.length) (w.alloc (.cells #[.int .i64 e.id.r,.int .i64 e.id.n,.int .i64 e.c,.string e.t,.slice a e.ls.length c] 32)) _ _ rfl ?_ rfl hpk ?_ ?_).mono ?_
      · simp
      · rw [HK.out]; simp; omega
      · omega
      rintro x w2 ⟨rfl,hp2⟩
      clear hk
      have hk:=zs0 hp2.2
      have hz2:=hp2.lt
      obtain ⟨i0,hi,hz0,hz1,hz3⟩:=info_parts zxf
      obtain ⟨⟨bv,q1,q2,q3⟩,q4⟩:=hp2
      obtain ⟨av,cv,rfl⟩:=zdn q3
      have hys:zm9 e e.ls.length ++ [(e.t.size:Int)].map byt ++ e.t.data.toList=ziD e:=by simp [zm9,ziD]
      have hyl:(zm9 e e.ls.length ++ [(e.t.size:Int)].map byt).length≤100:=by rw [yaR,HK.out]; simp; omega
      generalize zm9 e e.ls.length ++ [(e.t.size:Int)].map byt=ys at *
      have HY:=Lib.hid hys; clear hys
      go_wp2_with (at_builtin; refine Lib.wpList_append_own_string _ rfl _ _ 262 9 rfl (w.heap.size + 1 + 1) 5 i0 zo1 zsX hi hz0 hz1 hz3 _ _ _ rfl q3 e.t rfl ?c1 ?c2 ?c3 ?_)
      case c1=>unfold maxLen; omega
      case c2=>omega
      case c3=>omega
      intro v' w3 hown3 hgrow _
      have hown4:w3.ownsRow (w.heap.size + 1 + 1) 5 1 v' (ys.length + e.t.size) (zaf (ziD e)):=by
        rw [← HY.out]
        simpa [zaf,znS] using hown3
      have hcv:=zu7 hown4
      have B3:Below w.heap.size w w3:=((((Below.refl _ _).alloc (yag _) _).trans (q4.mono (by omega))).grown hgrow (by omega) (fun k hk=>by have:=(q3.lt k hk).1; omega))
      clear hown3 hown4 hgrow hk q1 q2 q3 q4
      go_wp2
      go_ret
      exact ⟨rfl,B3⟩
theorem zmn (S : Nat → Prop) (e : Entry) (lv : Value) (w : World) (hl : zb4 S w lv e.ls) (ht : e.t.size ≤ maxLen) :
    Calls prog 42 #[.agg #[.int .i64 e.id.r,.int .i64 e.id.n,.int .i64 e.c,.string e.t,lv]] w fun x w'=>x = .returned (.tuple #[.string (BA (zfp e)),.int .i64 (zm e)])∧Below w.heap.size w w':=by
  have HL:=Lib.hid hl
  obtain ⟨a,c,rfl,-,-⟩:=hl.form
  clear hl
  by_cases h:zm e=0
  · have H:Hid (zfp e=ziD e):=by show _=_; rw [zfp,if_pos h]
    rw [H.out,h]
    have h1:=(zV h).2.2.1
    have h2:=(zV h).2.2.2.1
    have HT:=Lib.hid ht; clear ht
    go_enter func42,ntmps42
    go_wp2_with (first | (go_at_call 70; refine (ze9 S _ _ _ (HL.out.below (by (repeat (first | exact Below.refl _ _ | assumption | refine Below.drew ?_ | refine zZ ?_ | refine Below.alloc ?_ (by first | (simp; done) | (simp; omega) | omega) _ | refine Below.setCell ?_ (by first | (simp; done) | (simp; omega) | omega) _)))) HT.out).mono ?_; rintro x w1 ⟨rfl,hb⟩; (have B:=Zs (w:=w) (by (repeat (first | exact Below.refl _ _ | assumption | refine Below.drew ?_ | refine zZ ?_ | refine Below.alloc ?_ (by first | (simp; done) | (simp; omega) | omega) _ | refine Below.setCell ?_ (by first | (simp; done) | (simp; omega) | omega) _))) hb; obtain ⟨hc,hf⟩:=zeY hb; have hz:=hb.size; (try simp only [yba] at hz); clear hb); (try have zz0:w.heap.size < w1.heap.size:=by omega); (try have zz1:w.heap.size + 1 < w1.heap.size:=by omega); (try have zz2:w.heap.size + 1 + 1 < w1.heap.size:=by omega); (try have zz3:w.heap.size + 1 + 1 + 1 < w1.heap.size:=by omega)) | (go_at_call 123; refine (zig S _ _ _ (HL.out.below (by (repeat (first | exact Below.refl _ _ | assumption | refine Below.drew ?_ | refine zZ ?_ | refine Below.alloc ?_ (by first | (simp; done) | (simp; omega) | omega) _ | refine Below.setCell ?_ (by first | (simp; done) | (simp; omega) | omega) _)))) h1 h2).mono ?_; rintro x w2 ⟨rfl,hb⟩; (have B:=Zs (w:=w) (by (repeat (first | exact Below.refl _ _ | assumption | refine Below.drew ?_ | refine zZ ?_ | refine Below.alloc ?_ (by first | (simp; done) | (simp; omega) | omega) _ | refine Below.setCell ?_ (by first | (simp; done) | (simp; omega) | omega) _))) hb; obtain ⟨hc,hf⟩:=zeY hb; have hz:=hb.size; (try simp only [yba] at hz); clear hb); (try have zz0:w.heap.size < w2.heap.size:=by omega); (try have zz1:w.heap.size + 1 < w2.heap.size:=by omega); (try have zz2:w.heap.size + 1 + 1 < w2.heap.size:=by omega); (try have zz3:w.heap.size + 1 + 1 + 1 < w2.heap.size:=by omega)))
    go_ret2
    exact ⟨rfl,B⟩
  · have H:Hid (zfp e = []):=by show _=_; rw [zfp,if_neg h]
    rw [H.out]
    have h1:(zm e == 0)=false:=by simpa using h
    have h2:(zm e != 0)=true:=by simpa using h
    have HT:=Lib.hid ht; clear ht h
    go_enter func42,ntmps42
    go_wp2_with (first | (go_at_call 70; refine (ze9 S _ _ _ (HL.out.below (by (repeat (first | exact Below.refl _ _ | assumption | refine Below.drew ?_ | refine zZ ?_ | refine Below.alloc ?_ (by first | (simp; done) | (simp; omega) | omega) _ | refine Below.setCell ?_ (by first | (simp; done) | (simp; omega) | omega) _)))) HT.out).mono ?_; rintro x w1 ⟨rfl,hb⟩; (have B:=Zs (w:=w) (by (repeat (first | exact Below.refl _ _ | assumption | refine Below.drew ?_ | refine zZ ?_ | refine Below.alloc ?_ (by first | (simp; done) | (simp; omega) | omega) _ | refine Below.setCell ?_ (by first | (simp; done) | (simp; omega) | omega) _))) hb; obtain ⟨hc,hf⟩:=zeY hb; have hz:=hb.size; (try simp only [yba] at hz); clear hb); (try have zz0:w.heap.size < w1.heap.size:=by omega); (try have zz1:w.heap.size + 1 < w1.heap.size:=by omega); (try have zz2:w.heap.size + 1 + 1 < w1.heap.size:=by omega); (try have zz3:w.heap.size + 1 + 1 + 1 < w1.heap.size:=by omega)))
    go_ret2
    exact ⟨rfl,B⟩
theorem zyN (t:List UInt8) (n:Nat):(BA t).extract 0 n=BA (t.take n):=by
 apply ByteArray.ext
 simp [BA]
theorem zyO (t:List UInt8) (n:Nat):(BA t).extract n t.length=BA (t.drop n):=by
 apply ByteArray.ext
 simp [BA]
 rw [yan (by simp)]
abbrev zo2 (c:Int):Ending := .panicked [{ v := .iface 38 (.int .i64 c),recovered:=false }]
theorem zjM (t : List UInt8) (n blk : Nat) (w : World) (hc : w.cell? ⟨blk, 0, none⟩ = some (.string (BA t))) (hf : w.frozen? ⟨blk, 0, none⟩ = false) (hnt : n ≤ t.length) :
    Calls prog 239 #[.pointer (some ⟨blk,0,none⟩),.int .i64 n] w fun e w'=>e = .returned (.string (BA (t.take n)))∧w'=w.setCell ⟨blk,0,none⟩ (.string (BA (t.drop n))):=by
  have a1:=zyN
  have a2:=zyO
  have a3:=zcT
  go_enter func239,ntmps239
  go_wp2
  go_ret
  exact ⟨rfl,rfl⟩
theorem zmo (t : List UInt8) (n blk : Nat) (w : World) (hc : w.cell? ⟨blk, 0, none⟩ = some (.string (BA t))) (hnt : t.length < n) :
    Calls prog 239 #[.pointer (some ⟨blk,0,none⟩),.int .i64 n] w fun e w'=>e=zo2 5∧w'=w:=by
  have a3:=zcT
  go_enter func239,ntmps239
  go_wp2
  exact ⟨rfl,rfl,rfl⟩
theorem ix0 (b:UInt8) (W:World):(Instr.index 9 (.string (BA [b])) (.int .i64 0)).run prog W = .ok (.int .u8 b.toNat) W:=by kernel_rfl
theorem zbK (b : UInt8) (t : List UInt8) (blk : Nat) (w : World) (hc : w.cell? ⟨blk, 0, none⟩ = some (.string (BA (b :: t)))) (hf : w.frozen? ⟨blk, 0, none⟩ = false) :
    Calls prog 238 #[.pointer (some ⟨blk,0,none⟩)] w fun e w'=>e = .returned (.int .i64 b.toNat)∧w'=w.setCell ⟨blk,0,none⟩ (.string (BA t)):=by
  have hx:=ix0 b
  have hb:(b.toNat:Int) < 256:=by have:=b.toNat_lt; omega
  go_enter func238,ntmps238
  go_wp2_with (go_at_call 239; refine (zjM (b :: t) 1 blk _ hc hf (by simp)).mono ?_; rintro e w1 ⟨rfl,rfl⟩)
  go_ret
  exact ⟨rfl,rfl⟩
theorem zfQ (blk : Nat) (w : World) (hc : w.cell? ⟨blk, 0, none⟩ = some (.string (BA []))) :
    Calls prog 238 #[.pointer (some ⟨blk,0,none⟩)] w fun e w'=>e=zo2 5∧w'=w:=by
  go_enter func238,ntmps238
  go_wp2_with (go_at_call 239; refine (zmo [] 1 blk _ hc (by simp)).mono ?_; rintro e w1 ⟨rfl,rfl⟩)
  exact ⟨rfl,rfl,rfl⟩
def zyP (blk:Nat) (t:List UInt8) (w w':World):Prop :=
 w.grownBy w' (some blk)∧w'.cell? ⟨blk,0,none⟩=some (.string (BA t))∧w'.frozen? ⟨blk,0,none⟩=false
theorem zar {w w':World} {blk:Nat} (h:w.grownBy w' (some blk)) (v:Value):w.grownBy (w'.setCell ⟨blk,0,none⟩ v) (some blk) :=
 ⟨h.os,h.tape,h.output,by simpa using h.size,fun k hk hne=>(Below.heap_setCell _ _ _ _ (by intro e; exact hne (by rw [e]))).trans (h.block k hk hne)⟩
theorem za2 {w w':World} {blk b o:Nat} (h:w.grownBy w' (some blk)) (hb:w.heap.size≤b) (v:Value):w.grownBy (w'.setCell ⟨b,o,none⟩ v) (some blk) :=
 ⟨h.os,h.tape,h.output,by simpa using h.size,fun k hk hne'=>(Below.heap_setCell _ _ _ _ (by simp; omega)).trans (h.block k hk hne')⟩
theorem Zy {w w':World} {row:Option Nat} (h:w.grownBy w' row) (o:Obj):w.grownBy (w'.alloc o) row :=
 ⟨h.os,h.tape,h.output,by have:=h.size; simp; omega,fun k hk hne=>(heap_alloc_old _ _ (yam hk h.size)).trans (h.block k hk hne)⟩
theorem zag (w:World) (row:Option Nat):w.grownBy w row:=⟨rfl,rfl,rfl,yag _,fun _ _ _=>rfl⟩
theorem zbu {a b c:World} {row:Option Nat} (h:a.grownBy b row) (k:b.grownBy c row):a.grownBy c row :=
 ⟨k.os.trans h.os,k.tape.trans h.tape,k.output.trans h.output,yaP h.size k.size,fun i hi hne=>(k.block i (yam hi h.size) hne).trans (h.block i hi hne)⟩
def Rd {α:Type} (blk:Nat) (w:World) (val:α→Value) (r:Except Int (α × List UInt8)) (e:Ending) (w':World):Prop :=
 match r with
 | .error c=>e=zo2 c∧w.grownBy w' (some blk)
 | .ok (x,t)=>e = .returned (val x)∧zyP blk t w w'
theorem zgr (t : List UInt8) (blk : Nat) (w : World) (hc : w.cell? ⟨blk, 0, none⟩ = some (.string (BA t))) (hf : w.frozen? ⟨blk, 0, none⟩ = false) (hb : blk < w.heap.size) :
    Calls prog 237 #[.pointer (some ⟨blk,0,none⟩)] w (Rd blk w (fun x:Id => .agg #[.int .i64 x.r,.int .i64 x.n]) (zgQ t)):=by
  have hne:blk≠w.heap.size:=by omega
  have hne':w.heap.size≠blk:=by omega
  match t with
  | [] =>
    go_enter func237,ntmps237
    go_wp2_with (go_at_call 238; refine (zfQ blk _ ?_).mono ?_; (simp [go_sem,hc,hb]); rintro e w1 ⟨rfl,rfl⟩)
    exact ⟨rfl,rfl,Zy (zag _ _) _⟩
  | a :: t =>
    by_cases ha:1 < a
    · have ha':(1:Int) < (a.toNat:Int):=by have:=UInt8.lt_iff_toNat_lt.1 ha; simp at this; omega
      have HR:Hid (zgQ (a :: t) = .error 1):=by show _=_; simp [zgQ,ha]
      rw [HR.out]
      clear ha
      go_enter func237,ntmps237
      go_wp2_with (go_at_call 238; refine (zbK a t blk _ ?_ ?_).mono ?_; (simp [go_sem,hc,hb]); (simp [go_sem,hf,hb]); rintro e w1 ⟨rfl,rfl⟩)
      exact ⟨rfl,rfl,by (repeat (first | with_reducible exact zag _ _ | with_reducible assumption | with_reducible refine Zy ?_ _ | with_reducible refine zar ?_ _ | with_reducible refine za2 ?_ (by first | (simp; done) | (simp; omega) | omega) _))⟩
    · have ha':¬ (1:Int) < (a.toNat:Int):=by
        intro h; apply ha; rw [UInt8.lt_iff_toNat_lt]; simp; omega
      match t with
      | [] =>
        have HR:Hid (zgQ [a] = .error 5):=by show _=_; simp [zgQ,ha]
        rw [HR.out]
        clear ha
        go_enter func237,ntmps237
        go_wp2_with fail
        refine (zbK a [] blk _ (by simp [go_sem,hc,hb]) (by simp [go_sem,hf,hb])).mono ?_
        rintro x w1 ⟨rfl,rfl⟩
        go_wp2_with fail
        refine (zfQ blk _ (by simp [go_sem,hc,hb])).mono ?_
        rintro x w1 ⟨rfl,rfl⟩
        go_wp2
        exact ⟨rfl,rfl,by (repeat (first | with_reducible exact zag _ _ | with_reducible assumption | with_reducible refine Zy ?_ _ | with_reducible refine zar ?_ _ | with_reducible refine za2 ?_ (by first | (simp; done) | (simp; omega) | omega) _))⟩
      | b :: t =>
        have HR:Hid (zgQ (a :: b :: t) = .ok (⟨a.toNat,b.toNat⟩,t)):=by show _=_; simp [zgQ,ha]
        rw [HR.out]
        clear ha
        go_enter func237,ntmps237
        go_wp2_with fail
        refine (zbK a (b :: t) blk _ (by simp [go_sem,hc,hb]) (by simp [go_sem,hf,hb])).mono ?_
        rintro x w1 ⟨rfl,rfl⟩
        go_wp2_with fail
        refine (zbK b t blk _ (by simp [go_sem,hc,hb]) (by simp [go_sem,hf,hb])).mono ?_
        rintro x w1 ⟨rfl,rfl⟩
        go_wp2
        exact bodyPost_ret (v := .agg #[.int .i64 a.toNat,.int .i64 b.toNat]) (by simp [results,Tryz.results237,go_sem]) rfl ⟨rfl,by (repeat (first | with_reducible exact zag _ _ | with_reducible assumption | with_reducible refine Zy ?_ _ | with_reducible refine zar ?_ _ | with_reducible refine za2 ?_ (by first | (simp; done) | (simp; omega) | omega) _)),by simp [go_sem,hc,hb],by simp [go_sem,hf,hb]⟩
def zah (l:List Id):List Value:=l.flatMap fun x => [.int .i64 x.r,.int .i64 x.n]
structure RdLoop (w0:World) (blk be:Nat) (x:Id) (c:Int) (l:List Id) (t:List UInt8) (w:World):Prop where
 gr:w0.grownBy w (some blk)
 s:w.cell? ⟨blk,0,none⟩=some (.string (BA t))
 f:w.frozen? ⟨blk,0,none⟩=false
 c0:w.cell? ⟨be,0,none⟩=some (.int .i64 x.r)
 c1:w.cell? ⟨be,1,none⟩=some (.int .i64 x.n)
 c2:w.cell? ⟨be,2,none⟩=some (.int .i64 c)
 c3:w.cell? ⟨be,3,none⟩=some (.string (BA []))
 cl:∃ lv,w.cell? ⟨be,4,none⟩=some lv∧w.ownsRow (be + 1) 29 2 lv l.length (zah l)
 fe:∀ o,w.frozen? ⟨be,o,none⟩=false
 z0:w0.heap.size≤be
 zb:be < w.heap.size
theorem zcf {w w':World} {row:Option Nat} (h:w.drew.grownBy w' row):w.grownBy w' row:=⟨h.os,h.tape,h.output,h.size,h.block⟩
theorem zaU {w w1:World} {row:Option Nat} {b:Nat} (hg:w.grownBy w1 row) (hb:b < w.heap.size) (hne:some b≠row):w1.heap[b]? = w.heap[b]? := hg.block b hb hne
def RdE (blk:Nat) (w:World) (r:Except Int (Entry × List UInt8)) (e:Ending) (w':World):Prop :=
 match r with
 | .error c=>e=zo2 c∧w.grownBy w' (some blk)
 | .ok (x,t)=>∃ lv,e = .returned (.agg #[.int .i64 x.id.r,.int .i64 x.id.n,.int .i64 x.c,.string x.t,lv])∧zyP blk t w w'∧w'.ownsRow w.heap.size 29 2 lv x.ls.length (zah x.ls)
theorem zo3 {P : Program} {ops : Array Oper} {Q : Exit → Act → World → Prop} {w : World} (Good : Nat → Array Bool → Act → Prop) (h0 : ∀ l a, ¬ Good 0 l a) (hr : ∀ f l a, Good f l a → Region.ready .any ops l ≠ [])
    (hs:∀ f l a i,Good (f + 1) l a→i ∈ Region.ready .any ops l→wpOp P ops Q i (fun a' w'=>w'=w∧Good f (l.setIfInBounds i true) a') a w):∀ f l a,Good f l a→wpAny P .any ops Q f l a w
  | 0,l,a,h=>absurd h (h0 l a)
  | f + 1,l,a,h=>⟨fun e=>absurd e (hr _ _ _ h),fun i hi=>wpOp_mono (fun a' w' ⟨hw,hg⟩=>by subst hw; exact zo3 Good h0 hr hs f _ _ hg) (hs f l a i h hi)⟩
theorem zkP (a:Act) (d t:Nat) (v:Value) (h:d < a.tmps.size):(a.put (some d) v).tmps.getD t undef=if t=d then v else a.tmps.getD t undef:=by
 simp only [Act.put,Array.getD_eq_getD_getElem?,Array.getElem?_setIfInBounds]
 by_cases e:d=t
 ·
  subst e; simp [h]
 ·
  simp [e,Ne.symm e]
theorem zhf (a:Act) (d:Option Nat) (v:Value):(a.put d v).tmps.size=a.tmps.size:=by cases d <;> simp [Act.put]
theorem zep (a:Act) (d:Option Nat) (v:Value):(a.put d v).defers=a.defers:=by cases d <;> rfl
def zs1 (blk be:Nat) (f:Nat) (ls:Array Bool) (ac:Act):Prop:=∃ b0 b1 b2 b6:Bool,ls=#[b0,b1,b2,false,false,false,b6,false]∧8≤f + (b0.toNat + b1.toNat + b2.toNat + b6.toNat)∧ac.defers = []∧ac.tmps.size=32 ∧
 ac.tmps.getD 0 undef = .pointer (some ⟨blk,0,none⟩)∧ac.tmps.getD 3 undef = .pointer (some ⟨be,0,none⟩)∧(b0=true→ac.tmps.getD 18 undef = .pointer (some ⟨be,4,none⟩))∧(b1=true→b0=true)∧(b2=true→ac.tmps.getD 20 undef = .pointer (some ⟨blk,0,none⟩))
theorem zs2 {w0 w3 w4:World} {row:Option Nat} {base size n:Nat} {e:TypeId} {v:Value} {xs:List Value} {o:Obj} (h:w0.grownBy w3 row) (hg:(w3.alloc o).grownBy w4 v.ownBlock) (hown:w3.ownsRow base e size v n xs) (hb:w0.heap.size≤base):w0.grownBy w4 row:=by
 have h1:w0.grownBy (w3.alloc o) row:=Zy h o
 refine ⟨hg.os.trans h1.os,hg.tape.trans h1.tape,hg.output.trans h1.output,yaP h1.size hg.size,fun k hk hne=>?_⟩
 exact (hg.block k (yam hk h1.size) (zvK hown (by omega))).trans (h1.block k hk hne)
theorem RdLoop.next {w0 wr w3 w4 : World} {blk be gg cap : Nat} {x y : Id} {c : Int} {l : List Id} {t' t2 : List UInt8} {v : Value} {o : Obj} (hR : RdLoop w0 blk be x c l t' wr) (hg : wr.grownBy w3 (some blk)) (hs : w3.cell? ⟨blk, 0, none⟩ = some (.string (BA t2)))
    (hf:w3.frozen? ⟨blk,0,none⟩=false) (hb:blk < w0.heap.size) (hown3:w3.ownsRow (be + 1) 29 2 v l.length (zah l)) (hgrow:(w3.alloc o).grownBy w4 v.ownBlock)
    (hown4:w4.ownsRow (be + 1) 29 2 (.slice (some ⟨gg,0,none⟩) (l.length + 1) cap) (l.length + 1) (zah l ++ [.int .i64 y.r,.int .i64 y.n])) :
    RdLoop w0 blk be x c (l ++ [y]) t2 (w4.setCell ⟨be,4,none⟩ (.slice (some ⟨gg,0,none⟩) (l.length + 1) cap)):=by
  have z0:=hR.z0
  have zb:=hR.zb
  have g0:=zbu hR.gr hg
  have z3:be < w3.heap.size:=yam zb hg.size
  have eb:w4.heap[be]? = wr.heap[be]? := (zcn hown3 (by omega) z3 hgrow).trans (hg.block be zb (by simp; omega))
  have ek:w4.heap[blk]? = w3.heap[blk]? := zcn hown3 (by omega) (by omega) hgrow
  have g4:=zs2 g0 hgrow hown3 (by omega)
  have ne:blk≠be:=by omega
  have c4:w4.cell? ⟨be,4,none⟩≠none:=by
    obtain ⟨lv,h1,-⟩:=hR.cl
    rw [Zn (o:=4) eb,h1]; simp
  obtain ⟨u,hu⟩:=Option.ne_none_iff_exists'.1 c4
  have far:∀ j,j≠4→(w4.setCell ⟨be,4,none⟩ (.slice (some ⟨gg,0,none⟩) (l.length + 1) cap)).cell? ⟨be,j,none⟩=wr.cell? ⟨be,j,none⟩:=by
    intro j hj
    rw [← Zn (o:=j) eb]
    simp [go_sem]
  refine ⟨za2 g4 z0 _,?_,?_,?_,?_,?_,?_,⟨.slice (some ⟨gg,0,none⟩) (l.length + 1) cap,?_,?_⟩,?_,z0,?_⟩
  · rw [← hs,← Zn (o:=0) ek]; simp [go_sem]
  · rw [← hf,← ZJ (o:=0) ek]; simp [go_sem]
  · rw [far 0 (by decide)]; exact hR.c0
  · rw [far 1 (by decide)]; exact hR.c1
  · rw [far 2 (by decide)]; exact hR.c2
  · rw [far 3 (by decide)]; exact hR.c3
  · simp [go_sem,hu]
  · have e3:zah (l ++ [y])=zah l ++ [.int .i64 y.r,.int .i64 y.n]:=by simp [zah]
    rw [e3,yaR]
    exact ownsRow_setCell_below hown4 (by simp) _
  · intro o'
    rw [← hR.fe o',← ZJ (o:=o') eb]; simp [go_sem]
  · have:=hgrow.size; simp at this ⊢; omega
theorem zfR {w:World} {base base' size n:Nat} {e:TypeId} {v:Value} {xs:List Value} (h:w.ownsRow base e size v n xs) (hb:base'≤base):w.ownsRow base' e size v n xs:=by
 refine ⟨h.1,?_⟩
 rcases h.2 with h2 | ⟨g,cap,cur,hv,hg,r⟩
 ·
  exact .inl h2
 ·
  exact .inr ⟨g,cap,cur,hv,yaP hb hg,r⟩
theorem zBb:(prog.info? 29).map (fun i=>(i.zero,i.size,i.bytes))=some (some (.agg #[.int .i64 0,.int .i64 0]),2,16):=by kernel_rfl
theorem zBc:prog.underlying 30=some (.slice 29):=by kernel_rfl
theorem zs3 (w wr : World) (blk be bw n : Nat) (t2 : List UInt8) (s1 s3 v0 v1 v2 v3 v4 lv : Value) (xs : List Value) (r1 : ∃ u, wr.cell? ⟨blk, 0, none⟩ = some u) (r2 : wr.frozen? ⟨blk, 0, none⟩ = false)
    (gW:w.grownBy wr (some blk)) (hb:blk < bw) (hbw:bw=w.heap.size) (hbe:bw < be) (hown:wr.ownsRow (be + 1) 29 2 lv n xs) :
    zyP blk t2 w ((((((((wr.setCell ⟨blk,0,none⟩ s1).setCell ⟨blk,0,none⟩ (.string (BA t2))).setCell ⟨be,3,none⟩ s3).setCell ⟨bw,0,none⟩ v0).setCell ⟨bw,1,none⟩ v1).setCell ⟨bw,2,none⟩ v2).setCell ⟨bw,3,none⟩ v3).setCell ⟨bw,4,none⟩ v4) ∧
    ((((((((wr.setCell ⟨blk,0,none⟩ s1).setCell ⟨blk,0,none⟩ (.string (BA t2))).setCell ⟨be,3,none⟩ s3).setCell ⟨bw,0,none⟩ v0).setCell ⟨bw,1,none⟩ v1).setCell ⟨bw,2,none⟩ v2).setCell ⟨bw,3,none⟩ v3).setCell ⟨bw,4,none⟩ v4).ownsRow w.heap.size 29 2 lv n xs:=by
  obtain ⟨u,r1⟩:=r1
  have n1:blk≠bw:=by omega
  have n2:blk≠be:=by omega
  refine ⟨⟨by (repeat (first | with_reducible exact zag _ _ | with_reducible assumption | with_reducible refine Zy ?_ _ | with_reducible refine zar ?_ _ | with_reducible refine za2 ?_ (by first | (simp; done) | (simp; omega) | omega) _)),?_,?_⟩,?_⟩
  · simp [go_sem,r1]
  · simp [go_sem,r2]
  · refine zfR (base:=be + 1) ?_ (by omega)
    repeat (refine ownsRow_setCell_below ?_ (by first | (simp; done) | (simp; omega)) _)
    exact hown
theorem zqA (t0 : List UInt8) (blk : Nat) (w : World) (hc : w.cell? ⟨blk, 0, none⟩ = some (.string (BA t0))) (hf : w.frozen? ⟨blk, 0, none⟩ = false) (hb : blk < w.heap.size) (x : Id) (a n : UInt8) (t : List UInt8) (h1 : zgQ t0 = .ok (x, a :: n :: t)) :
    Calls prog 204 #[.pointer (some ⟨blk,0,none⟩)] w (RdE blk w (zbC x a.toNat (zaQ n.toNat t))):=by
  have hne:blk≠w.heap.size:=by omega
  have hne':w.heap.size≠blk:=by omega
  have hn:(n.toNat:Int) < 256:=by have:=n.toNat_lt; omega
  go_enter func204,ntmps204
  go_wp2_with fail
  refine (zgr t0 blk _ (by simp [go_sem,hc,hb]) (by simp [go_sem,hf,hb]) (by simp; omega)).mono ?_
  intro e w1 h
  rw [h1] at h
  obtain ⟨rfl,hg,hs,hfz⟩:=h
  have hz:=hg.size
  simp only [yba] at hz
  have hk:=Zn (o:=0) (zaU hg (b:=w.heap.size) (by simp) (by simp; omega))
  have z1:blk≠w1.heap.size:=by omega
  have z2:w1.heap.size≠blk:=by omega
  have z3:blk < w1.heap.size:=by omega
  go_wp2_with fail
  refine (zbK a (n :: t) blk _ (by simp [go_sem,hs,z3]) (by simp [go_sem,hfz,z3])).mono ?_
  rintro e w2 ⟨rfl,rfl⟩
  go_wp2_with fail
  refine (zbK n t blk _ (by simp [go_sem,hs,z3]) (by simp [go_sem,hfz,z3])).mono ?_
  rintro e w2 ⟨rfl,rfl⟩
  go_wp2_with fail
  obtain ⟨w0,hw0⟩:∃ w0,w0=w.alloc (.cells #[.int .i64 0,.int .i64 0,.int .i64 0,.string { data:=#[] },.slice none 0 0] 32):=⟨_,rfl⟩
  rw [← hw0] at hg hk
  have W0:=Lib.hid hw0
  have hz0:w0.heap.size=w.heap.size + 1:=by rw [hw0]; simp
  have HZ:=Lib.hid hz0; clear hz0
  have GW:Hid (∀ w',w0.grownBy w' (some blk)→w.grownBy w' (some blk)):=fun w' h=>zbu (by rw [hw0]; exact Zy (zag _ _) _) h
  clear hw0
  go_loopw [4] (fun i wr=>∃ (m:Nat) (l:List Id) (t':List UInt8),i = .int .i64 m∧m≤255∧l.length + m≤255∧Hid (zaQ n.toNat t=zgR l (zaQ m t'))∧RdLoop w0 blk w1.heap.size x a.toNat l t' wr) (fun i _=>(intOf i).toNat)
  case atStart =>
    refine ⟨n.toNat,[],t,rfl,by omega,by simp; omega,?_,?_⟩
    · show _=_
      cases zaQ n.toNat t <;> simp [zgR]
    · refine ⟨by (repeat (first | with_reducible exact zag _ _ | with_reducible assumption | with_reducible refine Zy ?_ _ | with_reducible refine zar ?_ _ | with_reducible refine za2 ?_ (by first | (simp; done) | (simp; omega) | omega) _)),by simp [go_sem,hs,z3],by simp [go_sem,hfz,z3],by simp [go_sem],by simp [go_sem],by simp [go_sem],by simp [go_sem]; rfl,⟨.slice none 0 0,by simp [go_sem],ybL _ _ _ _⟩,fun o=>by simp [go_sem],by rw [HZ.out]; omega,by simp⟩
  case round =>
    obtain ⟨m,l,t',rfl,hm1,hm2,hT,hR⟩:=hrel
    cases m with
    | zero =>
      have r1:=hR.s
      have r2:=hR.f
      have c0:=hR.c0
      have c1:=hR.c1
      have c2:=hR.c2
      have c3:=hR.c3
      have fe:=hR.fe
      obtain ⟨lv,c4,hown⟩:=hR.cl
      obtain ⟨av,cv,rfl⟩:=zdn hown
      have zb:=hR.zb
      have z0:=hR.z0
      have GR:=Lib.hid hR.gr
      have zw:w.heap.size < w1.heap.size:=by have:=HZ.out; omega
      have zr:w.heap.size < wr.heap.size:=by omega
      have zr2:blk < wr.heap.size:=by omega
      have kk:wr.heap[w.heap.size]? = w0.heap[w.heap.size]? := zaU hR.gr (by rw [HZ.out]; omega) (by simp; omega)
      have qq:∀ j,j < 5→∃ u,wr.cell? ⟨w.heap.size,j,none⟩=some u:=by
        intro j hj
        rw [Zn (o:=j) kk,W0.out]
        match j,hj with
        | 0,_=>exact ⟨_,by simp [go_sem]; rfl⟩
        | 1,_=>exact ⟨_,by simp [go_sem]; rfl⟩
        | 2,_=>exact ⟨_,by simp [go_sem]; rfl⟩
        | 3,_=>exact ⟨_,by simp [go_sem]; rfl⟩
        | 4,_=>exact ⟨_,by simp [go_sem]; rfl⟩
      have qf:∀ j,wr.frozen? ⟨w.heap.size,j,none⟩=false:=by
        intro j
        rw [ZJ (o:=j) kk,W0.out]
        simp [go_sem]
      clear kk hR
      obtain ⟨u0,k0⟩:=qq 0 (by omega)
      obtain ⟨u1,k1⟩:=qq 1 (by omega)
      obtain ⟨u2,k2⟩:=qq 2 (by omega)
      obtain ⟨u3,k3⟩:=qq 3 (by omega)
      obtain ⟨u4,k4⟩:=qq 4 (by omega)
      clear qq
      have ne1:blk≠w1.heap.size:=by have:=HZ.out; omega
      have ne2:w1.heap.size≠blk:=Ne.symm ne1
      have ne3:w.heap.size≠w1.heap.size:=by omega
      have ne4:w1.heap.size≠w.heap.size:=Ne.symm ne3
      match t' with
      | [] =>
        have HE:Hid (zbC x a.toNat (zaQ n.toNat t) = .error 5):=by show _=_; rw [hT.out]; simp [zaQ,zgR,zbC]
        go_wp2_with fail
        refine (zfQ blk _ r1).mono ?_
        rintro e w3 ⟨rfl,rfl⟩
        go_wp2
        exact ⟨rfl,by rw [HE.out]; exact ⟨rfl,GW.out _ GR.out⟩⟩
      | q :: t3 =>
        go_wp2_with fail
        refine (zbK q t3 blk _ r1 r2).mono ?_
        rintro e w3 ⟨rfl,rfl⟩
        by_cases hq:t3.length < q.toNat
        · have HE:Hid (zbC x a.toNat (zaQ n.toNat t) = .error 5):=by show _=_; rw [hT.out]; simp [zaQ,zgR,zbC,hq]
          go_wp2_with fail
          refine (zmo t3 q.toNat blk _ (by simp [go_sem,r1]) hq).mono ?_
          rintro e w3 ⟨rfl,rfl⟩
          go_wp2
          exact ⟨rfl,by rw [HE.out]; exact ⟨rfl,GW.out _ (zar GR.out _)⟩⟩
        · have HE:Hid (zbC x a.toNat (zaQ n.toNat t) = .ok (⟨x,a.toNat,BA (t3.take q.toNat),l⟩,t3.drop q.toNat)):=by show _=_; rw [hT.out]; simp [zaQ,zgR,zbC,hq]
          go_wp2_with fail
          refine (zjM t3 q.toNat blk _ (by simp [go_sem,r1]) (by simp [go_sem,r2]) (by omega)).mono ?_
          rintro e w3 ⟨rfl,rfl⟩
          go_wp2
          exact bodyPost_ret (v := .agg #[.int .i64 x.r,.int .i64 x.n,.int .i64 a.toNat,.string (BA (t3.take q.toNat)),.slice av l.length cv]) (by simp [results,Tryz.results204,go_sem,k0,k1,k2,k3,k4]) rfl
            (by
              have HF:=zs3 w wr blk w1.heap.size w.heap.size l.length (t3.drop q.toNat) (.string (BA t3)) (.string (BA (t3.take q.toNat))) (.int .i64 x.r) (.int .i64 x.n) (.int .i64 a.toNat) (.string (BA (t3.take q.toNat))) (.slice av l.length cv) (.slice av l.length cv) (zah l) ⟨_,r1⟩ r2 (GW.out _ GR.out) hb rfl zw hown
              rw [HE.out]
              exact ⟨_,rfl,HF.1,HF.2⟩)
    | succ m =>
      obtain ⟨lv,hcl,hown⟩:=hR.cl
      obtain ⟨av,cv,rfl⟩:=zdn hown
      have r1:=hR.s
      have r2:=hR.f
      have r3:blk < wr.heap.size:=by have:=hR.gr.size; have:=HZ.out; omega
      cases h2:zgQ t' with
      | error d =>
        have HE:Hid (zbC x a.toNat (zaQ n.toNat t) = .error d):=by show _=_; rw [hT.out,zrC h2]; rfl
        have GR:=Lib.hid hR.gr
        go_wp2_with fail
        refine wp_region_any (by kernel_rfl) (zo3 (zs1 blk w1.heap.size) ?_ ?_ ?_ _ _ _ ?_)
        · rintro ls ac ⟨b0,b1,b2,b6,-,h,-⟩
          cases b0 <;> cases b1 <;> cases b2 <;> cases b6 <;> simp at h
        · rintro f ls ac ⟨b0,b1,b2,b6,rfl,-⟩
          cases b0 <;> cases b1 <;> cases b2 <;> cases b6 <;> decide +kernel
        · rintro f ls ac i ⟨b0,b1,b2,b6,rfl,hf,hd,hsz,e0,e3,e18,e1,e20⟩ hi
          have hi2:(i=0∧b0=false)∨(i=1∧b0=true∧b1=false)∨(i=2∧b2=false)∨(i=3∧b2=true)∨(i=6∧b6=false):=by
            clear hf hd hsz e0 e3 e18 e20
            cases b0 <;> cases b1 <;> first | (exact absurd (e1 rfl) (by decide)) | (clear e1; cases b2 <;> cases b6 <;> (revert i; decide +kernel))
          rcases hi2 with ⟨rfl,rfl⟩ | ⟨rfl,rfl,rfl⟩ | ⟨rfl,rfl⟩ | ⟨rfl,rfl⟩ | ⟨rfl,rfl⟩
          · refine .inl ?_
            have G:zs1 blk w1.heap.size f #[true,b1,b2,false,false,false,b6,false] (ac.put (some 18) (.pointer (some ⟨w1.heap.size,4,none⟩))):=by
              refine ⟨true,b1,b2,b6,rfl,by simp at hf ⊢; omega,by rw [zep]; exact hd,by rw [zhf]; exact hsz,?_,?_,fun _=>?_,fun _=>rfl,fun h=>?_⟩
              all_goals rw [zkP _ _ _ _ (by omega)]
              · exact e0
              · exact e3
              · rfl
              · exact e20 h
            simp [Oper.wp,execOp,Act.eval,go_sem,e3]
            exact G
          · refine .inl ?_
            have G:zs1 blk w1.heap.size f #[true,true,b2,false,false,false,b6,false] (ac.put (some 19) (.slice av l.length cv)):=by
              refine ⟨true,true,b2,b6,rfl,by simp at hf ⊢; omega,by rw [zep]; exact hd,by rw [zhf]; exact hsz,?_,?_,fun _=>?_,fun _=>rfl,fun h=>?_⟩
              all_goals rw [zkP _ _ _ _ (by omega)]
              · exact e0
              · exact e3
              · exact e18 rfl
              · exact e20 h
            have e18':=e18 rfl
            simp [Oper.wp,execOp,Act.eval,go_sem,e18',hcl]
            exact G
          · refine .inl ?_
            have G:zs1 blk w1.heap.size f #[b0,b1,true,false,false,false,b6,false] (ac.put (some 20) (.pointer (some ⟨blk,0,none⟩))):=by
              refine ⟨b0,b1,true,b6,rfl,by simp at hf ⊢; omega,by rw [zep]; exact hd,by rw [zhf]; exact hsz,?_,?_,fun h=>?_,e1,fun _=>?_⟩
              all_goals rw [zkP _ _ _ _ (by omega)]
              · exact e0
              · exact e3
              · exact e18 h
              · rfl
            simp [Oper.wp,execOp,Act.eval,go_sem,e0]
            exact G
          · refine .inl ?_
            have e20':=e20 rfl
            simp [Oper.wp,execOp,Act.eval,go_sem,e20']
            refine (zgr t' blk _ (by simpa using r1) (by simpa using r2) (by simpa using r3)).mono ?_
            intro e w3 h
            rw [h2] at h
            obtain ⟨rfl,hg3⟩:=h
            refine ⟨hd,?_⟩
            show RdE blk w (zbC x a.toNat (zaQ n.toNat t)) _ _
            rw [HE.out]
            exact ⟨rfl,GW.out _ (zbu GR.out (zcf hg3))⟩
          · refine .inl ?_
            have G:zs1 blk w1.heap.size f #[b0,b1,b2,false,false,false,true,false] (ac.put (some 24) (.pointer (some ⟨w1.heap.size,4,none⟩))):=by
              refine ⟨b0,b1,b2,true,rfl,by simp at hf ⊢; omega,by rw [zep]; exact hd,by rw [zhf]; exact hsz,?_,?_,fun h=>?_,e1,fun h=>?_⟩
              all_goals rw [zkP _ _ _ _ (by omega)]
              · exact e0
              · exact e3
              · exact e18 h
              · exact e20 h
            simp [Oper.wp,execOp,Act.eval,go_sem,e3]
            exact G
        · exact ⟨false,false,false,false,rfl,by simp,rfl,rfl,rfl,rfl,(fun h=>by cases h),(fun h=>by cases h),(fun h=>by cases h)⟩
      | ok v =>
        obtain ⟨y,t2⟩:=v
        have GR:=Lib.hid hR.gr
        have f4:=hR.fe 4
        have zb:=hR.zb
        have z0:=hR.z0
        have hne3:w1.heap.size≠blk:=by have:=HZ.out; omega
        go_wp2_with fail
        have hnb:Value.ownBlock (.slice av l.length cv)=none∨Value.ownBlock (.slice av l.length cv)≠some blk := .inr (fun e=>by have:=(hown.lt blk e).1; have:=HZ.out; omega)
        obtain ⟨i0,hi,hz0,hz1,hz2⟩:=info_parts zBb
        go_region_law (first
            | (refine step_append_lies _ (by rfl) _ _ _ (by rfl) (w1.heap.size + 1) 29 i0 _ 2 16 zBc hi hz0 hz1 hz2 rfl (by omega) _ l.length _ (by rfl) (hown3.alloc _) ⟨w3.heap.size,0,none⟩ 1 1 [.int .i64 y.r,.int .i64 y.n] (by rfl) (by rfl) (fun j u h=>zlr (vs := [.int .i64 y.r,.int .i64 y.n]) h) (by simp [Value.oneCell']) (by omega) (by unfold maxLen; omega) (by omega) (by simp; omega) (w3.heap.size + 1) (by simp) ?_; intro gg cap w4 hown4 hgrow hat hlt; have hfe4:=(ZJ (o:=4) (zcn hown3 (Nat.lt_succ_self _) zb3 hgrow)).trans hfe3; have hc4:=(Zn (o:=4) (zcn hown3 (Nat.lt_succ_self _) zb3 hgrow)).trans hc3)
            | (go_simp; go_at_call 237; refine (zgr t' blk _ (by simp [go_sem,r1]) (by simp [go_sem,r2]) (by simpa using r3)).mono ?_; intro e w3 h; rw [h2] at h; obtain ⟨rfl,hg3,hs3,hf3⟩:=h; have hc3:=(Zn (o:=4) (zaU (zcf hg3) zb (by simpa using hne3))).trans hcl; have hown3:=hown.kept (zcf hg3) hnb; have zb3:=yam zb (zcf hg3).size; have hfe3:=(ZJ (o:=4) (zaU (zcf hg3) zb (by simpa using hne3))).trans f4))
        all_goals
          have RN:=RdLoop.next (y:=y) hR (zcf hg3) hs3 hf3 (by rw [HZ.out]; omega) hown3 hgrow hown4
          have HT2:Hid (zaQ n.toNat t=zgR (l ++ [y]) (zaQ m t2)):=by show _=_; rw [hT.out,zuj h2]
          clear hown3 hown4 hgrow hfe4 hc4 hfe3 hc3 hs3 hf3 hg3 hR hown hcl r1 r2 f4
          go_wp2
          go_roundw
          case rel=>exact ⟨m,l ++ [y],t2,by go_num,by omega,by simp; omega,HT2,RN⟩
          case measure=>simp [intOf]
theorem zjN (t0 : List UInt8) (blk : Nat) (w : World) (hc : w.cell? ⟨blk, 0, none⟩ = some (.string (BA t0))) (hf : w.frozen? ⟨blk, 0, none⟩ = false) (hb : blk < w.heap.size) :
    Calls prog 204 #[.pointer (some ⟨blk,0,none⟩)] w (RdE blk w (Zt t0)):=by
  have hne:blk≠w.heap.size:=by omega
  have hne':w.heap.size≠blk:=by omega
  cases h1:zgQ t0 with
  | error c =>
    have HE:Hid (Zt t0 = .error c):=by show _=_; simp [Zt,h1]
    rw [HE.out]
    go_enter func204,ntmps204
    go_wp2_with fail
    refine (zgr t0 blk _ (by simp [go_sem,hc,hb]) (by simp [go_sem,hf,hb]) (by simp; omega)).mono ?_
    intro e w1 h
    rw [h1] at h
    obtain ⟨rfl,hg⟩:=h
    go_wp2
    exact ⟨rfl,rfl,zbu (Zy (zag _ _) _) hg⟩
  | ok v =>
    obtain ⟨x,t⟩:=v
    match t,h1 with
    | a :: n :: t,h1 =>
      have HE:Hid (Zt t0=zbC x a.toNat (zaQ n.toNat t)):=by show _=_; simp [Zt,h1]
      rw [HE.out]
      exact zqA t0 blk w hc hf hb x a n t h1
    | [],h1 =>
      have HE:Hid (Zt t0 = .error 5):=by show _=_; simp [Zt,h1]
      rw [HE.out]
      go_enter func204,ntmps204
      go_wp2_with fail
      refine (zgr t0 blk _ (by simp [go_sem,hc,hb]) (by simp [go_sem,hf,hb]) (by simp; omega)).mono ?_
      intro e w1 h
      rw [h1] at h
      obtain ⟨rfl,hg,hs,hfz⟩:=h
      have z3:blk < w1.heap.size:=by have:=hg.size; simp at this; omega
      go_wp2_with fail
      refine (zfQ blk _ (by simp [go_sem,hs,z3])).mono ?_
      rintro e w2 ⟨rfl,rfl⟩
      go_wp2
      exact ⟨rfl,rfl,Zy (zbu (Zy (zag _ _) _) hg) _⟩
    | [a],h1 =>
      have HE:Hid (Zt t0 = .error 5):=by show _=_; simp [Zt,h1]
      rw [HE.out]
      go_enter func204,ntmps204
      go_wp2_with fail
      refine (zgr t0 blk _ (by simp [go_sem,hc,hb]) (by simp [go_sem,hf,hb]) (by simp; omega)).mono ?_
      intro e w1 h
      rw [h1] at h
      obtain ⟨rfl,hg,hs,hfz⟩:=h
      have z3:blk < w1.heap.size:=by have:=hg.size; simp at this; omega
      have gW:=zbu (Zy (zag w (some blk)) _) hg
      have z4:w.heap.size≤w1.heap.size:=by have:=hg.size; simp at this; omega
      go_wp2_with fail
      refine (zbK a [] blk _ (by simp [go_sem,hs,z3]) (by simp [go_sem,hfz,z3])).mono ?_
      rintro e w2 ⟨rfl,rfl⟩
      go_wp2_with fail
      refine (zfQ blk _ (by simp [go_sem,hs,z3])).mono ?_
      rintro e w2 ⟨rfl,rfl⟩
      go_wp2
      exact ⟨rfl,rfl,by (repeat (first | with_reducible exact zag _ _ | with_reducible assumption | with_reducible refine Zy ?_ _ | with_reducible refine zar ?_ _ | with_reducible refine za2 ?_ (by first | (simp; done) | (simp; omega) | omega) _))⟩
end Go.Proofs.YtkcahmbcpkjpiaaGreatDoor
