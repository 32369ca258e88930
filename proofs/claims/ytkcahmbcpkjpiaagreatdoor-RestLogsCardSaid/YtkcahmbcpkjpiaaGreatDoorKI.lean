/- Joined texts of this claim: ToldW DecW E9 Q4 Q5 E13 Q6 Q7 Q8 Q9 E10 G4 G5 D16 PE R1 R2 D17 U21 U23 U26 U24 L11 D18 D19. -/
import Derived.Test.YtkcahmbcpkjpiaaGreatDoorKH
import Derived.Defers
import Derived.Recover
import Derived.Laws.Pointers
import Derived.Test.YtkcahmbcpkjpiaaGreatDoorKE
import Derived.Test.YtkcahmbcpkjpiaaGreatDoorKB
import Derived.Test.YtkcahmbcpkjpiaaGreatDoorKF
import Derived.Test.YtkcahmbcpkjpiaaGreatDoorKG
set_option linter.unusedSimpArgs false
set_option linter.unusedVariables false
set_option linter.unusedSectionVars false
set_option maxHeartbeats 8000000
set_option maxRecDepth 100000
namespace Go.Proofs.YtkcahmbcpkjpiaaGreatDoor
open Go.RowKit
open Tryz
theorem zqB (b0 b1 b2 : Nat) (c : Int) (w : World) (k : ∀ j, j < 5 → ∃ u, w.cell? ⟨b0, j, none⟩ = some u) (f0 : ∀ j, w.frozen? ⟨b0, j, none⟩ = false) (k1 : ∃ u, w.cell? ⟨b1, 0, none⟩ = some u) (f1 : w.frozen? ⟨b1, 0, none⟩ = false)
    (k2:∃ u,w.cell? ⟨b2,0,none⟩=some u) (f2:w.frozen? ⟨b2,0,none⟩=false) (h01:b0 < b1) (h12:b1 < b2) :
    CallsD prog 203 #[.pointer (some ⟨b0,0,none⟩),.pointer (some ⟨b1,0,none⟩),.pointer (some ⟨b2,0,none⟩)] (.panicking [{ v := .iface 38 (.int .i64 c),recovered:=false }]) w fun e u' w' =>
      e = .returned (.tuple #[])∧u' = .panicking [{ v := .iface 38 (.int .i64 c),recovered:=true }] ∧
      w'=((((((w.setCell ⟨b0,0,none⟩ (.int .i64 0)).setCell ⟨b0,1,none⟩ (.int .i64 0)).setCell ⟨b0,2,none⟩ (.int .i64 0)).setCell ⟨b0,3,none⟩ (.string (BA []))).setCell ⟨b0,4,none⟩ (.slice none 0 0)).setCell ⟨b1,0,none⟩ (.string (BA []))).setCell ⟨b2,0,none⟩ (.int .i64 c):=by
  obtain ⟨u0,k00⟩:=k 0 (by omega)
  obtain ⟨u1,k01⟩:=k 1 (by omega)
  obtain ⟨u2,k02⟩:=k 2 (by omega)
  obtain ⟨u3,k03⟩:=k 3 (by omega)
  obtain ⟨u4,k04⟩:=k 4 (by omega)
  obtain ⟨v1,k10⟩:=k1
  obtain ⟨v2,k20⟩:=k2
  refine callsD_of_wpS func203 rfl fun c₀ cs hu=>?_
  apply wpS_seq
  apply wpS_region
  simp [wpOpsS,go_sem,recoverD,hu,ntmps203,Exit.thenS]
  apply wpS_seq
  apply wpS_region
  simp [wpOpsS,go_sem,Exit.thenS]
  refine wpS_cond (t:=true) (by simp [Act.eval,Array.replicate]) ?_
  simp only [if_true]
  apply wpS_seq
  apply wpS_region
  have hta:(Instr.typeAssert (.iface 38 (.int .i64 c)) 20 38 true).run prog w = .ok (.tuple #[.int .i64 c,.bool true]) w:=by kernel_rfl
  simp [wpOpsS,go_sem,Exit.thenS,hta,recoverD]
  apply wpS_seq
  apply wpS_seq
  apply wpS_region
  simp [wpOpsS,go_sem,Exit.thenS]
  refine wpS_cond (t:=false) (by simp [Act.eval,Array.replicate]) ?_
  simp only [yap,if_false]
  refine wpS_of_wp (wp_skip ?_)
  simp only [Exit.thenS]
  apply wpS_region
  simp [wpOpsS,go_sem,k00,k01,k02,k03,k04,k10,k20,f0,f1,f2,bodyPostS,results,Tryz.results203]
  rfl
theorem zs4 (b0 b1 b2 : Nat) (w : World) :
    CallsD prog 203 #[.pointer (some ⟨b0,0,none⟩),.pointer (some ⟨b1,0,none⟩),.pointer (some ⟨b2,0,none⟩)] .returning w fun e u' w'=>e = .returned (.tuple #[])∧u' = .returning∧w'=w:=by
  refine callsD_of_wpS func203 rfl fun c₀ cs hu=>?_
  apply wpS_seq
  apply wpS_region
  simp [wpOpsS,go_sem,recoverD,hu,ntmps203,Exit.thenS]
  apply wpS_seq
  apply wpS_region
  simp [wpOpsS,go_sem,Exit.thenS]
  refine wpS_cond (t:=false) (by simp [Act.eval,Array.replicate]) ?_
  simp only [yap,if_false]
  refine wpS_of_wp (wp_skip ?_)
  cases c₀
  simp_all [bodyPostS,results,Tryz.results203]
theorem zeN {w W w1:World} {blk B:Nat} (h:Below B w W) (hg:W.grownBy w1 (some blk)) (hb:B≤blk) (hB:B≤W.heap.size):Below B w w1 :=
 ⟨hg.os.trans h.os,hg.tape.trans h.tape,hg.output.trans h.output,yaP h.size hg.size,fun k hk=>(hg.block k (by omega) (by simp; omega)).trans (h.block k hk)⟩
theorem Ze {w w1:World} {B b o:Nat} (h:Below B w w1) (hb:B≤b) (v:Value):Below B w (w1.setCell ⟨b,o,none⟩ v):=h.setCell hb v
theorem zdx (l:List Id) (k:Nat) (hk:k < l.length):(zah l)[k * 2]? = some (.int .i64 (nth l k).r)∧(zah l)[k * 2 + 1]? = some (.int .i64 (nth l k).n):=by
 induction l generalizing k with
 | nil=>simp at hk
 | cons x l ih =>
  cases k with
  | zero=>simp [zah,nth]
  | succ k =>
   have h:=ih k (by simpa using hk)
   have e:zah (x :: l) = .int .i64 x.r :: .int .i64 x.n :: zah l:=by simp [zah]
   rw [e,show (k + 1) * 2=k * 2 + 1 + 1 from by omega,show k * 2 + 1 + 1 + 1=(k * 2 + 1) + 1 + 1 from rfl]
   simpa [nth] using h
theorem zqC {w:World} {base:Nat} {v:Value} {l:List Id} (h:w.ownsRow base 29 2 v l.length (zah l)):zb4 (fun b=>base≤b) w v l:=by
 rcases h.2 with ⟨rfl,h0⟩ | ⟨g,cap,cur,rfl,hg,h1,h2,h3,h4,h5⟩
 ·
  refine ⟨none,0,by rw [h0],by omega,by decide,fun k hk=>by omega⟩
 ·
  refine ⟨some ⟨g,0,none⟩,cap,rfl,h2,h3,fun k hk=>⟨g,0,rfl,hg,?_,?_,?_⟩⟩
  ·
   exact (h.lt g rfl).2
  ·
   rw [yaF,h.cellAt _ (by omega)]; exact (zdx l k hk).1
  ·
   rw [yaF,h.cellAt _ (by omega)]; exact (zdx l k hk).2
theorem zs5 {w w':World} {base size n:Nat} {e:TypeId} {v:Value} {xs:List Value} (h:w.ownsRow base e size v n xs) (hb:Below w.heap.size w w'):w'.ownsRow base e size v n xs:=by
 refine ⟨h.1,?_⟩
 rcases h.2 with h2 | ⟨g,cap,cur,hv,hg,hh,r⟩
 ·
  exact .inl h2
 ·
  have hlt:g < w.heap.size:=by subst hv; exact (h.lt g rfl).2
  exact .inr ⟨g,cap,cur,hv,hg,(hb.block g hlt).trans hh,r⟩
theorem zaJ {w:World} {base size n b o:Nat} {e:TypeId} {v:Value} {xs:List Value} (h:w.ownsRow base e size v n xs) (hb:b < base) (u:Value):(w.setCell ⟨b,o,none⟩ u).ownsRow base e size v n xs:=by
 refine ⟨h.1,?_⟩
 rcases h.2 with h2 | ⟨g,cap,cur,hv,hg,hh,r⟩
 ·
  exact .inl h2
 ·
  exact .inr ⟨g,cap,cur,hv,hg,(Below.heap_setCell _ _ _ _ (by simp; omega)).trans hh,r⟩
theorem zu8 {w : World} {base size n b : Nat} {e : TypeId} {v u0 u1 u2 u3 u4 : Value} {xs : List Value} (h : w.ownsRow base e size v n xs) (hb : b < base) :
    (((((w.setCell ⟨b,0,none⟩ u0).setCell ⟨b,1,none⟩ u1).setCell ⟨b,2,none⟩ u2).setCell ⟨b,3,none⟩ u3).setCell ⟨b,4,none⟩ u4).drew.ownsRow base e size v n xs :=
  World.ownsRow.drew (zaJ (zaJ (zaJ (zaJ (zaJ h hb u0) hb u1) hb u2) hb u3) hb u4)
def zjO (Q:Exit→Act→World→Prop) (e:Exit) (a:Act) (w:World):Prop :=
 match e with
 | .normal=>Q .normal a w
 | _=>False
theorem zkQ {P:Program} {c:Code} {Q:Exit→Act→World→Prop} {a:Act} {w:World} (h:c.wp P (zjO Q) a w):c.wp P Q a w:=by
 refine Code.wp_mono (fun e a w h=>?_) h
 cases e <;> first | exact h | exact h.elim
theorem zBd {w : World} {base b : Nat} {v u0 u1 u2 u3 u4 : Value} {l : List Id} (h : zb4 (fun b => base ≤ b) w v l) (hb : b < base) :
    zb4 (fun b=>base≤b) (((((w.setCell ⟨b,0,none⟩ u0).setCell ⟨b,1,none⟩ u1).setCell ⟨b,2,none⟩ u2).setCell ⟨b,3,none⟩ u3).setCell ⟨b,4,none⟩ u4).drew v l:=by
  refine h.keep (by simp [World.drew]) fun k hk _=>?_
  have e:∀ (W:World) (o:Nat) (u:Value),(W.setCell ⟨b,o,none⟩ u).heap[k]? = W.heap[k]? := fun W o u=>Below.heap_setCell _ _ _ _ (by simp; omega)
  rw [heap_drew,e,e,e,e,e]
theorem znT {x:Id} {c:Int} {r:Except Int (List Id × List UInt8)} {z:Entry} {t':List UInt8} (h:zbC x c r = .ok (z,t')):z.t.size≤255:=by
 unfold zbC at h
 split at h
 ·
  cases h
 ·
  cases h
 ·
  rename_i l m t
  split at h
  ·
   cases h
  ·
   cases h
   have:=m.toNat_lt
   simp only [zcT,yaz]
   omega
theorem zmp {t:List UInt8} {z:Entry} {t':List UInt8} (h:Zt t = .ok (z,t')):z.t.size≤255:=by
 unfold Zt at h
 split at h
 ·
  cases h
 ·
  cases h
 ·
  cases h
 ·
  exact znT h
def zu9 (w:World) (r:Except Int (Entry × List UInt8)) (e:Ending) (w':World):Prop :=
 match r with
 | .error c=>e = .returned (.tuple #[.agg #[.int .i64 0,.int .i64 0,.int .i64 0,.string (BA []),.slice none 0 0],.string (BA []),.int .i64 c])∧Below w.heap.size w w'
 | .ok (x,t)=>∃ lv,e = .returned (.tuple #[.agg #[.int .i64 x.id.r,.int .i64 x.id.n,.int .i64 x.c,.string x.t,lv],.string (BA t),.int .i64 (zm x)])∧Below w.heap.size w w'∧w'.ownsRow w.heap.size 29 2 lv x.ls.length (zah x.ls)
theorem zva {w w2 : World} {x : Entry} {t' : List UInt8} {v u0 u1 u2 u3 u4 u5 u6 : Value} (hb : Below w.heap.size w w2) (ho : w2.ownsRow (w.heap.size + 1 + 1 + 1 + 1) 29 2 v x.ls.length (zah x.ls)) :
    zu9 w (.ok (x,t')) (.returned (.tuple #[.agg #[.int .i64 x.id.r,.int .i64 x.id.n,.int .i64 x.c,.string x.t,v],.string (BA t'),.int .i64 (zm x)]))
      (((((((w2.setCell ⟨w.heap.size,0,none⟩ u0).setCell ⟨w.heap.size,1,none⟩ u1).setCell ⟨w.heap.size,2,none⟩ u2).setCell ⟨w.heap.size,3,none⟩ u3).setCell ⟨w.heap.size,4,none⟩ u4).setCell ⟨w.heap.size + 1,0,none⟩ u5).setCell ⟨w.heap.size + 1 + 1,0,none⟩ u6):=by
  refine ⟨v,rfl,?_,?_⟩
  · exact Ze (Ze (Ze (Ze (Ze (Ze (Ze hb (by omega) _) (by omega) _) (by omega) _) (by omega) _) (by omega) _) (by omega) _) (by omega) _
  · refine zfR (base:=w.heap.size + 1 + 1 + 1 + 1) ?_ (by omega)
    exact zaJ (zaJ (zaJ (zaJ (zaJ (zaJ (zaJ ho (by omega) _) (by omega) _) (by omega) _) (by omega) _) (by omega) _) (by omega) _) (by omega) _
theorem zvb (t : List UInt8) (c : Int) (w : World) (hr : Zt t = .error c) :
    Calls prog 124 #[.string (BA t)] w (zu9 w (Zt t)):=by
  have hmf:∀ (fn:Fn) (first cap:Array Value) (w:World),(Instr.makeFunc fn first cap).run prog w = .ok (.func fn first cap) w:=fun _ _ _ _=>rfl
  have HR:=Lib.hid hr
  rw [hr]
  clear hr
  go_enter_defers func124,ntmps124
  go_wp2_with fail
  refine (zjN t (w.heap.size + 1 + 1 + 1) _ (by simp [go_sem]) (by simp [go_sem]) (by simp)).mono ?_
  intro e w1 h
  rw [HR.out] at h
  obtain ⟨rfl,hg⟩:=h
  have hz:=hg.size
  simp only [yba] at hz
  have b0:=zaU hg (b:=w.heap.size) (by simp; omega) (by simp; omega)
  have b1:=zaU hg (b:=w.heap.size + 1) (by simp) (by simp)
  have b2:=zaU hg (b:=w.heap.size + 1 + 1) (by simp) (by simp)
  have c0:w1.cell? ⟨w.heap.size,0,none⟩=some (.int .i64 0):=by rw [Zn b0]; simp [go_sem]
  have c1:w1.cell? ⟨w.heap.size,1,none⟩=some (.int .i64 0):=by rw [Zn b0]; simp [go_sem]
  have c2:w1.cell? ⟨w.heap.size,2,none⟩=some (.int .i64 0):=by rw [Zn b0]; simp [go_sem]
  have c3:w1.cell? ⟨w.heap.size,3,none⟩=some (.string ⟨#[]⟩):=by rw [Zn b0]; simp [go_sem]
  have c4:w1.cell? ⟨w.heap.size,4,none⟩=some (.slice none 0 0):=by rw [Zn b0]; simp [go_sem]
  have c5:w1.cell? ⟨w.heap.size + 1,0,none⟩=some (.string ⟨#[]⟩):=by rw [Zn b1]; simp [go_sem]
  have c6:w1.cell? ⟨w.heap.size + 1 + 1,0,none⟩=some (.int .i64 0):=by rw [Zn b2]; simp [go_sem]
  have d0:∀ o,w1.frozen? ⟨w.heap.size,o,none⟩=false:=fun o=>by rw [ZJ b0]; simp [go_sem]
  have d1:w1.frozen? ⟨w.heap.size + 1,0,none⟩=false:=by rw [ZJ b1]; simp [go_sem]
  have d2:w1.frozen? ⟨w.heap.size + 1 + 1,0,none⟩=false:=by rw [ZJ b2]; simp [go_sem]
  go_wp2
  refine leaves_cons (f:=203) (args:=#[.pointer (some ⟨w.heap.size,0,none⟩),.pointer (some ⟨w.heap.size + 1,0,none⟩),.pointer (some ⟨w.heap.size + 1 + 1,0,none⟩)]) (by simp) (by simp [go_sem]) ?_
  refine (zqB w.heap.size (w.heap.size + 1) (w.heap.size + 1 + 1) c _ (fun j hj=>?_) (fun j=>?_) ?_ ?_ ?_ ?_ (by omega) (by omega)).mono ?_
  · match j,hj with
    | 0,_=>exact ⟨_,c0⟩
    | 1,_=>exact ⟨_,c1⟩
    | 2,_=>exact ⟨_,c2⟩
    | 3,_=>exact ⟨_,c3⟩
    | 4,_=>exact ⟨_,c4⟩
  · exact d0 j
  · exact ⟨_,c5⟩
  · exact d1
  · exact ⟨_,c6⟩
  · exact d2
  rintro e u' w'' ⟨rfl,rfl,rfl⟩
  simp [Leaves,settle,results,Tryz.results124,go_sem,c0,c1,c2,c3,c4,c5,c6]
  have B:Below w.heap.size w w1:=zeN (by (repeat (first | exact Below.refl _ _ | assumption | refine Below.drew ?_ | refine zZ ?_ | refine Below.alloc ?_ (by first | (simp; done) | (simp; omega) | omega) _ | refine Below.setCell ?_ (by first | (simp; done) | (simp; omega) | omega) _))) hg (by omega) (by simp; omega)
  refine ⟨rfl,?_⟩
  exact Ze (Ze (Ze (Ze (Ze (Ze (Ze B (by omega) _) (by omega) _) (by omega) _) (by omega) _) (by omega) _) (by omega) _) (by omega) _
theorem zyQ (t : List UInt8) (x : Entry) (t' : List UInt8) (w : World) (hr : Zt t = .ok (x, t')) :
    Calls prog 124 #[.string (BA t)] w (zu9 w (Zt t)):=by
  have hmf:∀ (fn:Fn) (first cap:Array Value) (w:World),(Instr.makeFunc fn first cap).run prog w = .ok (.func fn first cap) w:=fun _ _ _ _=>rfl
  have HR:=Lib.hid hr
  rw [hr]
  clear hr
  go_enter_defers func124,ntmps124
  go_wp2_with fail
  refine (zjN t (w.heap.size + 1 + 1 + 1) _ (by simp [go_sem]) (by simp [go_sem]) (by simp)).mono ?_
  intro e w1 h
  rw [HR.out] at h
  obtain ⟨lv,rfl,⟨hg,hs,hf⟩,ho⟩:=h
  have hz:=hg.size
  simp only [yba] at hz ho
  have b0:=zaU hg (b:=w.heap.size) (by simp; omega) (by simp; omega)
  have b1:=zaU hg (b:=w.heap.size + 1) (by simp) (by simp)
  have b2:=zaU hg (b:=w.heap.size + 1 + 1) (by simp) (by simp)
  have c0:w1.cell? ⟨w.heap.size,0,none⟩=some (.int .i64 0):=by rw [Zn b0]; simp [go_sem]
  have c1:w1.cell? ⟨w.heap.size,1,none⟩=some (.int .i64 0):=by rw [Zn b0]; simp [go_sem]
  have c2:w1.cell? ⟨w.heap.size,2,none⟩=some (.int .i64 0):=by rw [Zn b0]; simp [go_sem]
  have c3:w1.cell? ⟨w.heap.size,3,none⟩=some (.string ⟨#[]⟩):=by rw [Zn b0]; simp [go_sem]
  have c4:w1.cell? ⟨w.heap.size,4,none⟩=some (.slice none 0 0):=by rw [Zn b0]; simp [go_sem]
  have c5:w1.cell? ⟨w.heap.size + 1,0,none⟩=some (.string ⟨#[]⟩):=by rw [Zn b1]; simp [go_sem]
  have c6:w1.cell? ⟨w.heap.size + 1 + 1,0,none⟩=some (.int .i64 0):=by rw [Zn b2]; simp [go_sem]
  have d0:∀ o,w1.frozen? ⟨w.heap.size,o,none⟩=false:=fun o=>by rw [ZJ b0]; simp [go_sem]
  have d1:w1.frozen? ⟨w.heap.size + 1,0,none⟩=false:=by rw [ZJ b1]; simp [go_sem]
  have d2:w1.frozen? ⟨w.heap.size + 1 + 1,0,none⟩=false:=by rw [ZJ b2]; simp [go_sem]
  have B:Below w.heap.size w w1:=zeN (by (repeat (first | exact Below.refl _ _ | assumption | refine Below.drew ?_ | refine zZ ?_ | refine Below.alloc ?_ (by first | (simp; done) | (simp; omega) | omega) _ | refine Below.setCell ?_ (by first | (simp; done) | (simp; omega) | omega) _))) hg (by omega) (by simp; omega)
  clear b0 b1 b2
  obtain ⟨a,m,rfl⟩:=zdn ho
  have hI:=zqC ho
  have HT:x.t.size≤maxLen:=yaP (zmp HR.out) (by decide)
  have HO:=Lib.hid ho
  have HI:=Lib.hid hI
  have HTT:=Lib.hid HT
  have HG:=Lib.hid hg
  clear ho hI HT hg
  have zA:w.heap.size < w1.heap.size:=by omega
  have zB:w.heap.size + 1 < w1.heap.size:=by omega
  have zC:w.heap.size + 1 + 1 < w1.heap.size:=by omega
  have zD:w.heap.size + 1 + 1 + 1 < w1.heap.size:=by omega
  go_wp2_with fail
  refine zkQ ?_
  (first | go_region_law (go_simp; go_at_call 70; refine (ze9 _ x _ _ (zBd HI.out (by omega)) HTT.out).mono ?_; rintro e w2 ⟨rfl,hb⟩; obtain ⟨hc,hff⟩:=zeY hb) | fail)
  all_goals
    have O1:=HO.out
    have O2:=zs5 (zu8 O1 (by omega)) hb
    have B2:=Zs (w:=w) (Below.drew (Ze (Ze (Ze (Ze (Ze B (by omega) _) (by omega) _) (by omega) _) (by omega) _) (by omega) _)) hb
    have BH:=Lib.hid B2
    have OH:=Lib.hid O2
    have e0:w2.cell? ⟨w.heap.size,0,none⟩=some (.int .i64 x.id.r):=by rw [hc _ _ (by simpa using zA)]; simp [go_sem,c0]
    have e1:w2.cell? ⟨w.heap.size,1,none⟩=some (.int .i64 x.id.n):=by rw [hc _ _ (by simpa using zA)]; simp [go_sem,c1]
    have e2:w2.cell? ⟨w.heap.size,2,none⟩=some (.int .i64 x.c):=by rw [hc _ _ (by simpa using zA)]; simp [go_sem,c2]
    have e3:w2.cell? ⟨w.heap.size,3,none⟩=some (.string x.t):=by rw [hc _ _ (by simpa using zA)]; simp [go_sem,c3]
    have e4:w2.cell? ⟨w.heap.size,4,none⟩=some (.slice a x.ls.length m):=by rw [hc _ _ (by simpa using zA)]; simp [go_sem,c4]
    have e5:w2.cell? ⟨w.heap.size + 1,0,none⟩=some (.string ⟨#[]⟩):=by rw [hc _ _ (by simpa using zB)]; simp [go_sem,c5]
    have e6:w2.cell? ⟨w.heap.size + 1 + 1,0,none⟩=some (.int .i64 0):=by rw [hc _ _ (by simpa using zC)]; simp [go_sem,c6]
    clear hb B B2 O1 O2 hf hs hc hff c0 c1 c2 c3 c4 c5 c6 d0 d1 d2
    simp only [zjO]
    go_wp2
    refine leaves_cons (f:=203) (args:=#[.pointer (some ⟨w.heap.size,0,none⟩),.pointer (some ⟨w.heap.size + 1,0,none⟩),.pointer (some ⟨w.heap.size + 1 + 1,0,none⟩)]) (by simp) (by simp [go_sem]) ?_
    refine (zs4 w.heap.size (w.heap.size + 1) (w.heap.size + 1 + 1) _).mono ?_
    rintro e u' w'' ⟨rfl,rfl,rfl⟩
    simp [Leaves,settle,results,Tryz.results124,go_sem,e0,e1,e2,e3,e4,e5,e6]
    exact zva BH.out OH.out
theorem zqD (t:List UInt8) (w:World):Calls prog 124 #[.string (BA t)] w (zu9 w (Zt t)):=by
 cases h:Zt t with
 | error c=>rw [← h]; exact zvb t c w h
 | ok v=>rw [← h]; exact zyQ t v.1 v.2 w h
theorem zmq (t : List UInt8) (w : World) :
    Calls prog 124 #[.string (BA t)] w fun e w'=>∃ a m,e = .returned (.tuple #[.agg #[.int .i64 (z6 t).1.id.r,.int .i64 (z6 t).1.id.n,.int .i64 (z6 t).1.c,.string (z6 t).1.t,.slice a (z6 t).1.ls.length m],.string (BA (z6 t).2.1),.int .i64 (z6 t).2.2]) ∧
      Below w.heap.size w w'∧w'.ownsRow w.heap.size 29 2 (.slice a (z6 t).1.ls.length m) (z6 t).1.ls.length (zah (z6 t).1.ls):=by
  refine (zqD t w).mono fun e w' h=>?_
  unfold z6
  cases hr:Zt t with
  | error c =>
    rw [hr] at h
    exact ⟨none,0,h.1,h.2,ybL _ _ _ _⟩
  | ok v =>
    rw [hr] at h
    obtain ⟨lv,he,hb,ho⟩:=h
    obtain ⟨a,m,rfl⟩:=zdn ho
    exact ⟨a,m,he,hb,ho⟩
theorem zmr {w w1 : World} {u0 u1 u2 u3 u4 : Value} {o : Obj} (hb : Below w.heap.size w w1) :
    Below w.heap.size w ((((((w1.setCell ⟨w.heap.size,0,none⟩ u0).setCell ⟨w.heap.size,1,none⟩ u1).setCell ⟨w.heap.size,2,none⟩ u2).setCell ⟨w.heap.size,3,none⟩ u3).setCell ⟨w.heap.size,4,none⟩ u4).alloc o):=by
  have h:=Ze (o:=4) (Ze (o:=3) (Ze (o:=2) (Ze (o:=1) (Ze (o:=0) hb (yag _) u0) (yag _) u1) (yag _) u2) (yag _) u3) (yag _) u4
  exact Below.alloc h h.size o
theorem zyR {w w1 : World} {u0 u1 u2 u3 u4 v : Value} {o : Obj} {n : Nat} {xs : List Value} (h : w1.ownsRow (w.heap.size + 1) 29 2 v n xs) :
    ((((((w1.setCell ⟨w.heap.size,0,none⟩ u0).setCell ⟨w.heap.size,1,none⟩ u1).setCell ⟨w.heap.size,2,none⟩ u2).setCell ⟨w.heap.size,3,none⟩ u3).setCell ⟨w.heap.size,4,none⟩ u4).alloc o).ownsRow w.heap.size 29 2 v n xs:=by
  have l:=Nat.lt_succ_self w.heap.size
  have h:=zaJ (o:=4) (zaJ (o:=3) (zaJ (o:=2) (zaJ (o:=1) (zaJ (o:=0) h l u0) l u1) l u2) l u3) l u4
  exact zfR (h.alloc o) (Nat.le_succ _)
theorem zms (t : List UInt8) (w : World) (ht : t.length ≤ maxLen) :
    Calls prog 44 #[.string (BA t)] w fun e w'=>∃ lv,e = .returned (.tuple #[.agg #[.int .i64 (Zj t).1.id.r,.int .i64 (Zj t).1.id.n,.int .i64 (Zj t).1.c,.string (Zj t).1.t,lv],.int .i64 (Zj t).2.1,.int .i64 (Zj t).2.2]) ∧
      Below w.heap.size w w'∧w'.ownsRow w.heap.size 29 2 lv (Zj t).1.ls.length (zah (Zj t).1.ls):=by
  have hl:=znb t
  unfold maxLen at ht
  have a1:=zcT
  have n1:(0:Int)≤(t.length:Int) - ((z6 t).2.1.length:Int):=by omega
  have n2:(t.length:Int) - ((z6 t).2.1.length:Int)≤9223372036854775807:=by omega
  by_cases h:(z6 t).2.2=0
  · have H:Hid (Zj t=((z6 t).1,(t.length:Int) - ((z6 t).2.1.length:Int),0)):=by show _=_; rw [Zj,if_pos h]
    rw [H.out]
    go_enter func44,ntmps44
    go_wp2_with fail
    refine (zmq t _).mono ?_
    rintro e w1 ⟨a,m,rfl,hb,ho⟩
    rw [h]
    obtain ⟨hc,hff⟩:=zeY hb
    have z0:w.heap.size < w1.heap.size:=by have:=hb.size; simp at this; omega
    have z1:w.heap.size≠w1.heap.size:=by omega
    have z2:w1.heap.size≠w.heap.size:=by omega
    have c0:w1.cell? ⟨w.heap.size,0,none⟩=some (.int .i64 0):=by rw [hc _ _ (by simp)]; simp [go_sem]
    have c1:w1.cell? ⟨w.heap.size,1,none⟩=some (.int .i64 0):=by rw [hc _ _ (by simp)]; simp [go_sem]
    have c2:w1.cell? ⟨w.heap.size,2,none⟩=some (.int .i64 0):=by rw [hc _ _ (by simp)]; simp [go_sem]
    have c3:w1.cell? ⟨w.heap.size,3,none⟩=some (.string ⟨#[]⟩):=by rw [hc _ _ (by simp)]; simp [go_sem]
    have c4:w1.cell? ⟨w.heap.size,4,none⟩=some (.slice none 0 0):=by rw [hc _ _ (by simp)]; simp [go_sem]
    have d0:∀ o,w1.frozen? ⟨w.heap.size,o,none⟩=false:=fun o=>by rw [hff _ _ (by simp)]; simp [go_sem]
    have B:=Zs (w:=w) (by (repeat (first | exact Below.refl _ _ | assumption | refine Below.drew ?_ | refine zZ ?_ | refine Below.alloc ?_ (by first | (simp; done) | (simp; omega) | omega) _ | refine Below.setCell ?_ (by first | (simp; done) | (simp; omega) | omega) _))) hb
    have BH:=Lib.hid B
    have OH:=Lib.hid (zfR ho (base':=w.heap.size + 1) (by simp))
    clear hb ho B hc hff
    go_wp2
    refine bodyPost_ret (v := .tuple #[.agg #[.int .i64 (z6 t).1.id.r,.int .i64 (z6 t).1.id.n,.int .i64 (z6 t).1.c,.string (z6 t).1.t,.slice a (z6 t).1.ls.length m],.int .i64 ((t.length:Int) - ((z6 t).2.1.length:Int)),.int .i64 0]) (by simp [results,Tryz.results44,go_sem,c0,c1,c2,c3,c4,z0]) rfl ⟨_,rfl,?_,?_⟩
    · exact zmr BH.out
    · exact zyR OH.out
  · have H:Hid (Zj t=(zxM,0,(z6 t).2.2)):=by show _=_; rw [Zj,if_neg h]
    have h1:((z6 t).2.2 == 0)=false:=by simpa using h
    have h2:((z6 t).2.2 != 0)=true:=by simpa using h
    rw [H.out]
    go_enter func44,ntmps44
    go_wp2_with fail
    refine (zmq t _).mono ?_
    rintro e w1 ⟨a,m,rfl,hb,ho⟩
    obtain ⟨hc,hff⟩:=zeY hb
    have z0:w.heap.size < w1.heap.size:=by have:=hb.size; simp at this; omega
    have z1:w.heap.size≠w1.heap.size:=by omega
    have z2:w1.heap.size≠w.heap.size:=by omega
    have c0:w1.cell? ⟨w.heap.size,0,none⟩=some (.int .i64 0):=by rw [hc _ _ (by simp)]; simp [go_sem]
    have c1:w1.cell? ⟨w.heap.size,1,none⟩=some (.int .i64 0):=by rw [hc _ _ (by simp)]; simp [go_sem]
    have c2:w1.cell? ⟨w.heap.size,2,none⟩=some (.int .i64 0):=by rw [hc _ _ (by simp)]; simp [go_sem]
    have c3:w1.cell? ⟨w.heap.size,3,none⟩=some (.string ⟨#[]⟩):=by rw [hc _ _ (by simp)]; simp [go_sem]
    have c4:w1.cell? ⟨w.heap.size,4,none⟩=some (.slice none 0 0):=by rw [hc _ _ (by simp)]; simp [go_sem]
    have d0:∀ o,w1.frozen? ⟨w.heap.size,o,none⟩=false:=fun o=>by rw [hff _ _ (by simp)]; simp [go_sem]
    have B:=Zs (w:=w) (by (repeat (first | exact Below.refl _ _ | assumption | refine Below.drew ?_ | refine zZ ?_ | refine Below.alloc ?_ (by first | (simp; done) | (simp; omega) | omega) _ | refine Below.setCell ?_ (by first | (simp; done) | (simp; omega) | omega) _))) hb
    have BH:=Lib.hid B
    have OH:=Lib.hid (zfR ho (base':=w.heap.size + 1) (by simp))
    clear hb ho B hc hff
    go_wp2
    refine bodyPost_ret (v := .tuple #[.agg #[.int .i64 0,.int .i64 0,.int .i64 0,.string ⟨#[]⟩,.slice none 0 0],.int .i64 0,.int .i64 (z6 t).2.2]) (by simp [results,Tryz.results44,go_sem,c0,c1,c2,c3,c4,z0]) rfl ⟨_,rfl,?_,?_⟩
    · exact zmr BH.out
    · exact ybL _ _ _ _
theorem zyS {S:Nat→Prop} {T:Nat→Nat→Prop} {w:World} {v:Value} {l:List Id} (h:zb4 S w v l) (hT:∀ b o,S b→b < w.heap.size→T b o):RepP T w (.list (l.map cId)) v:=by
 obtain ⟨a,c,rfl,h1,h2,h3⟩:=h
 have key:∀ (k:Nat) row (j:Nat) p,(l.map cId)[k]? = some row→row[j]? = some p→k < l.length∧((j=0∧p = .int .i64 (nth l k).r)∨(j=1∧p = .int .i64 (nth l k).n)):=by
  intro k row j p hk hj
  obtain ⟨y,hy,rfl⟩:=zO hk
  have hlt:k < l.length:=(yab.1 hy).1
  have:y=nth l k:=by have:=zk l k hlt; rw [hy] at this; exact ybe this
  subst this
  refine ⟨hlt,?_⟩
  match j,hj with
  | 0,hj=>simp [cId] at hj; exact .inl ⟨rfl,hj.symm⟩
  | 1,hj=>simp [cId] at hj; exact .inr ⟨rfl,hj.symm⟩
  | j + 2,hj=>simp [cId] at hj
 have:=RepP.list (S:=T) (w:=w) (l.map cId) a c 2 (fun k j=>if j=0 then .int .i64 (nth l k).r else .int .i64 (nth l k).n) (by simpa using h1) h2 (by omega) (fun row hr=>by
  obtain ⟨y,-,rfl⟩:=yaG.1 hr; rfl) (fun k row j p hk hj=>by
  obtain ⟨hlt,hp⟩:=key k row j p hk hj
  obtain ⟨b,o,ha,hs,hb,c1,c2⟩:=h3 k hlt
  refine ⟨b,o,ha,hT _ _ hs hb,?_⟩
  rcases hp with ⟨rfl,-⟩ | ⟨rfl,-⟩
  ·
   simpa using c1
  ·
   simpa using c2) (fun k row j p hk hj=>by
  obtain ⟨hlt,hp⟩:=key k row j p hk hj
  rcases hp with ⟨rfl,rfl⟩ | ⟨rfl,rfl⟩
  ·
   exact .int _ _
  ·
   exact .int _ _)
 simpa using this
theorem znU {w:World} {base:Nat} {v:Value} {l:List Id} (h:w.ownsRow base 29 2 v l.length (zah l)):zb4 (fun b=>base≤b∧Unf w b) w v l:=by
 rcases h.2 with ⟨rfl,h0⟩ | ⟨g,cap,cur,rfl,hg,h1,h2,h3,h4,h5⟩
 ·
  refine ⟨none,0,by rw [h0],by omega,by decide,fun k hk=>by omega⟩
 ·
  refine ⟨some ⟨g,0,none⟩,cap,rfl,h2,h3,fun k hk=>⟨g,0,rfl,⟨hg,.of h1⟩,?_,?_,?_⟩⟩
  ·
   exact (h.lt g rfl).2
  ·
   rw [yaF,h.cellAt _ (by omega)]; exact (zdx l k hk).1
  ·
   rw [yaF,h.cellAt _ (by omega)]; exact (zdx l k hk).2
theorem zbL (t:List UInt8) (ht:t.length≤maxLen):zg prog 44 [.str (BA t)] [] (.tup [.agg (cE (Zj t).1),.int .i64 (Zj t).2.1,.int .i64 (Zj t).2.2]) []:=by
 intro x vs hx hr hp
 obtain ⟨hlen,hp0⟩:=hp
 have hvs:vs=#[.string (BA t)]:=by
  cases vs with
  | mk l =>
   match l,hlen with
   | [v],_ =>
    have:=hp0 0 _ v rfl rfl
    rw [this.str_inv]
 subst hvs
 refine (zms t x.w0 ht).mono fun e w' ⟨lv,he,hb,ho⟩=>?_
 subst he
 have hstep:Step x.w0 w' fun _=>False:=⟨hb.size,hb.os,hb.tape,hb.output,fun b h _=>hb.block b h⟩
 obtain ⟨k1,-,-⟩:=hr.grow hstep
 refine ⟨_,x.C0,rfl,k1,?_⟩
 have hS:∀ b o,x.w0.heap.size≤b∧Unf w' b→b < w'.heap.size→zu x x.C0 [] w' b o:=fun b o h1 h2=>⟨.inr ⟨.inl h1.1,h1.2⟩,h2,fun id ob h=>by simp at h⟩
 have hl:=zyS (T:=zu x x.C0 [] w') (znU ho) hS
 have hone:∃ a c,lv = .slice a (Zj t).1.ls.length c:=zdn ho
 refine .tup _ [_,_,_] rfl fun j p u hj hu=>?_
 match j,hj,hu with
 | 0,hj,hu =>
  simp at hj hu
  subst hj; subst hu
  refine .agg (cE (Zj t).1) [_,_,_,_,lv] rfl (fun j y hy=>?_) fun j p y hp hy=>?_
  ·
   obtain ⟨a,c,rfl⟩:=hone
   match j,hy with
   | 0,hy=>simp at hy; subst hy; rfl
   | 1,hy=>simp at hy; subst hy; rfl
   | 2,hy=>simp at hy; subst hy; rfl
   | 3,hy=>simp at hy; subst hy; rfl
   | 4,hy=>simp at hy; subst hy; rfl
   | j + 5,hy=>simp at hy
  ·
   match j,hp,hy with
   | 0,hp,hy=>simp [cE] at hp hy; subst hp; subst hy; exact .pure (.int _ _)
   | 1,hp,hy=>simp [cE] at hp hy; subst hp; subst hy; exact .pure (.int _ _)
   | 2,hp,hy=>simp [cE] at hp hy; subst hp; subst hy; exact .pure (.int _ _)
   | 3,hp,hy=>simp [cE] at hp hy; subst hp; subst hy; exact .pure (.str _)
   | 4,hp,hy=>simp [cE] at hp hy; subst hp; subst hy; exact .pure hl
   | j + 5,hp,hy=>simp at hy
 | 1,hj,hu=>simp at hj hu; subst hj; subst hu; exact .pure (.int _ _)
 | 2,hj,hu=>simp at hj hu; subst hj; subst hu; exact .pure (.int _ _)
 | j + 3,hj,hu=>simp at hu
def hP (c:Int) (v:Nat) (r:List UInt8) (es:List Entry):List AObj := [.box [.nilsl],.box [.int .i64 c],.box [.arr 4 v],.box [.str (BA r)],.arr v true false 32 5 (es.map cE)]
def lcA:LC := .seq (.reg none [⟨some 5,.alloc [.int .i64 0,.int .i64 0,.int .i64 0,.str ⟨#[]⟩,.nilsl],none,true⟩,⟨none,.store 5 (.tmp 5) (.tmp 9),none,true⟩]) (.reg none [⟨some 6,.mv (.tmp 10),none,true⟩])
def lcB:LC := .block 1 (.seq (.block 2 (.seq (.reg none [⟨some 12,.mv (.tmp 6),none,true⟩,⟨some 13,.not (.tmp 12),none,true⟩,⟨some 11,.mv (.tmp 13),none,true⟩]) (.cond (.tmp 11) (.seq (.reg none [⟨none,.store 1 (.tmp 2) (.val .nilsl),none,true⟩,⟨none,.store 1 (.tmp 3) (.val (.int .i64 1)),none,true⟩]) .ret)
 (.seq (.reg none [⟨some 15,.load 1 false (.tmp 4),none,true⟩,⟨some 16,.len false (.tmp 15),none,true⟩,⟨some 17,.bin .eql (.tmp 16) (.val (.int .i64 40)),none,true⟩,⟨some 14,.mv (.tmp 17),none,true⟩]) (.cond (.tmp 14) (.seq (.reg none [⟨none,.store 1 (.tmp 2) (.val .nilsl),none,true⟩,⟨none,.store 1 (.tmp 3) (.val (.int .i64 2)),none,true⟩]) .ret) .skip)))))
 (.reg none [⟨some 18,.load 1 false (.tmp 4),none,true⟩,⟨some 19,.load 5 true (.tmp 5),none,true⟩,⟨some 20,.mks 5 [.int .i64 0,.int .i64 0,.int .i64 0,.str ⟨#[]⟩,.nilsl] 1 [(0,.tmp 19)],none,true⟩,⟨some 21,.append 32 5 64 (.tmp 18) (.tmp 20),none,true⟩,⟨none,.store 1 (.tmp 4) (.tmp 21),none,true⟩]))
def zfS (fn:Nat) (tm:Array Value) (cA cB:Code) (D:Nat) (s:LoopState) (p:Option Code):Loop := { state:=s,pending:=p,fn,tmps:=tm,params:=#[9,10],assign:=cA,body:=cB,defers:=D }
structure Rnd (x:Cx) (B:Nat→Nat) (L D:Nat) (rc:Loop) (c:Int) (r:List UInt8) (es:List Entry) (w:World):Prop where
 len:es.length≤40
 ex:∃ C v,HR x C (hP c v r es) w∧∀ i,i < 4→C.blk i=B i
 L:w.heap[L]? = some (.loop rc)
 D:w.heap[D]? = some (.deferred (some []))
theorem zfT {tm:Array Value} {k t:Nat} {v:Value} (h:k < tm.size):(tm.setIfInBounds k v).getD t Go.undef=if t=k then v else tm.getD t Go.undef:=by
 by_cases e:t=k
 ·
  subst e; simp [Array.getD,h]
 ·
  rw [if_neg e]
  simp only [Array.getD,Array.size_setIfInBounds]
  split
  ·
   simp only [ybT]
   rw [Array.getElem_setIfInBounds_ne _ (Ne.symm e)]
  ·
   rfl
section
variable {x:Cx} {n l:Nat}
def zCr (b:Bool) (e:Entry) (v:Nat) (r:List UInt8) (es:List Entry):St:=⟨mkE .top [(10,.bool b),(9,.agg (cE e)),(4,.ptr 2 0),(3,.ptr 1 0),(2,.ptr 0 0)],hP 0 v r es⟩
def zxg (b:Bool) (e:Entry) (v:Nat) (r:List UInt8) (es:List Entry):St:=⟨mkE .top [(6,.bool b),(5,.ptr 5 0),(4,.ptr 2 0),(3,.ptr 1 0),(2,.ptr 0 0)],hP 0 v r es ++ [.box (cE e)]⟩
theorem znV (b:Bool) (e:Entry) (v:Nat) (r:List UInt8) (es:List Entry):WR prog x 23 l n lcA (fun q st=>q = .normal∧st.heap=hP 0 v r es ++ [.box (cE e)]∧st.env 2 = .ptr 0 0∧st.env 3 = .ptr 1 0∧st.env 4 = .ptr 2 0∧st.env 5 = .ptr 5 0∧st.env 6 = .bool b) (zCr b e v r es):=by
 unfold lcA zCr
 refine zea (zeM ?_)
 simp only [go_sem,hP,cE]
 refine zeM ?_
 simp only [go_sem]
theorem zyT (e:Entry) (v:Nat) (r:List UInt8) (es:List Entry):WR prog x 23 l n lcB (fun q st=>q = .ret∧st.heap=hP 1 v r es ++ [.box (cE e)]) (zxg false e v r es):=by
 unfold lcB zxg
 refine zeo (zea (zeo (zea (zeM ?_))))
 simp only [go_sem,hP,cE]
 refine zid (b:=true) (by simp [go_sem]) (fun _=>?_) (fun h=>by cases h)
 refine zea (zeM ?_)
 simp only [go_sem]
 refine zxe ?_
 exact ⟨rfl,rfl⟩
theorem zs6 (e:Entry) (v:Nat) (r:List UInt8) (es:List Entry) (h:es.length=40):WR prog x 23 l n lcB (fun q st=>q = .ret∧st.heap=hP 2 v r es ++ [.box (cE e)]) (zxg true e v r es):=by
 have h':(es.length:Int)=40:=by omega
 unfold lcB zxg
 refine zeo (zea (zeo (zea (zeM ?_))))
 simp only [go_sem,hP,cE]
 refine zid (b:=false) (by simp [go_sem]) (fun h=>by cases h) (fun _=>?_)
 refine zea (zeM ?_)
 simp only [go_sem,h']
 refine zid (b:=true) (by simp [go_sem]) (fun _=>?_) (fun h=>by cases h)
 refine zea (zeM ?_)
 simp only [go_sem]
 refine zxe ?_
 exact ⟨rfl,rfl⟩
theorem zyU (e:Entry) (v:Nat) (r:List UInt8) (es:List Entry) (h:es.length≠40) (hl:es.length≤40):WR prog x 23 l n lcB (fun q st=>q = .normal∧st.heap=hP 0 (v + 1) r (es ++ [e]) ++ [.box (cE e)]) (zxg true e v r es):=by
 have h':¬ (es.length:Int)=40:=by omega
 unfold lcB zxg
 refine zeo (zea (zeo (zea (zeM ?_))))
 simp only [go_sem,hP,cE]
 refine zid (b:=false) (by simp [go_sem]) (fun h=>by cases h) (fun _=>?_)
 refine zea (zeM ?_)
 simp only [go_sem,h']
 refine zid (b:=false) (by simp [go_sem]) (fun h=>by cases h) (fun _=>?_)
 refine zyJ ?_
 refine zeM ?_
 simp only [go_sem]
 rw [Zf rfl rfl (by simp) (by simp; omega)]
 simp only [go_sem]
 simp [cE]
end
section
variable {x:Cx} {n:Nat} {B:Nat→Nat} {L D fn:Nat} {tm:Array Value} {cA cB:Code}
theorem Rnd.back (hx:x.H0 = []) {C:Conc} {w:World} {c:Int} {v:Nat} {r:List UInt8} {es:List Entry} {e:Entry} (hr:HR x C (hP c v r es ++ [.box (cE e)]) w) (hb:∀ i,i < 4→C.blk i=B i):∃ C v,HR x C (hP c v r es) w∧∀ i,i < 4→C.blk i=B i:=by
 obtain ⟨k1,-⟩:=hr.restrict (ks:=List.range 5) ybS (fun k hk=>by have:=yaW.1 hk; simp [hP]; omega) (fun i hi=>by rw [hx] at hi; simp at hi)
 have hs:ze (pos (List.range 5)) (zt true (hP c v r es ++ [.box (cE e)])) (hP c v r es ++ [.box (cE e)]) (List.range 5)=hP c v r es:=by
  simp [ze,zf,zn,zp,pos,yaa,hP]
 rw [hs] at k1
 refine ⟨_,v,k1,fun i hi=>?_⟩
 show C.blk ((List.range 5).getD i 0)=B i
 rw [show (List.range 5).getD i 0=i by rw [zas (ya0 (by omega))]]
 exact hb i hi
theorem zvc (hx : x.H0 = []) (hA : zq prog 23 cA = some lcA) (hB : zq prog 23 cB = some lcB) (htm : tm.size = 23)
    (h2:tm.getD 2 Go.undef = .pointer (some ⟨B 0,0,none⟩)) (h3:tm.getD 3 Go.undef = .pointer (some ⟨B 1,0,none⟩)) (h4:tm.getD 4 Go.undef = .pointer (some ⟨B 2,0,none⟩)) (hL:x.w0.heap.size≤L)
    {r:List UInt8} {es:List Entry} {w:World} {C:Conc} {v:Nat} (hle:es.length≤40) (hr:HR x C (hP 0 v r es) w) (hb:∀ i,i < 4→C.blk i=B i) (hLw:w.heap[L]? = some (.loop (zfS fn tm cA cB D .ready none))) (hDw:w.heap[D]? = some (.deferred (some []))) {e:Entry} {b:Bool} {ve:Value}
    (hve:RepV (zu x C (hP 0 v r es) w) w C (.agg (cE e)) ve) :
    RoundIn Fence.wide n prog L fn ((tm.setIfInBounds 9 ve).setIfInBounds 10 (.bool b)) cA cB w (fun en w'=>(en = .returned (.bool true)∧b=true∧es.length≠40∧Rnd x B L D (zfS fn tm cA cB D .ready none) 0 r (es ++ [e]) w') ∨
      (en = .returned (.bool false)∧∃ c:Int,((b=false∧c=1)∨(b=true∧es.length=40∧c=2))∧Rnd x B L D (zfS fn tm cA cB D .done (some .ret)) c r es w')):=by
  have hLD:D≠L:=fun h=>by rw [h,hLw] at hDw; cases hDw
  have hLlt:L < w.heap.size:=(yak.1 hLw).1
  have hDlt:D < w.heap.size:=(yak.1 hDw).1
  have hn:C.n=5:=hr.n
  obtain ⟨hr1,hm1⟩:=hr.root
  have hrel:Rel (za7 x C (hP 0 v r es) w) 23 (zCr b e v r es) { tmps:=(tm.setIfInBounds 9 ve).setIfInBounds 10 (.bool b),defers := [] } w:=by
    refine ⟨⟨C,hr1,fun t=>?_⟩,rfl,by simp [htm]⟩
    simp only [zCr,mkE]
    rw [zfT (by simp [htm]),zfT (by simp [htm])]
    by_cases t10:10=t
    · rw [if_pos t10,if_pos t10.symm]; exact .pure (.bool b)
    · rw [if_neg t10,if_neg (Ne.symm t10)]
      by_cases t9:9=t
      · rw [if_pos t9,if_pos t9.symm]; exact hm1 _ _ hve
      · rw [if_neg t9,if_neg (Ne.symm t9)]
        by_cases t4:4=t
        · rw [if_pos t4,← t4,h4,← hb 2 (by omega)]; exact .ptr 2 0 (by omega)
        · rw [if_neg t4]
          by_cases t3:3=t
          · rw [if_pos t3,← t3,h3,← hb 1 (by omega)]; exact .ptr 1 0 (by omega)
          · rw [if_neg t3]
            by_cases t2:2=t
            · rw [if_pos t2,← t2,h2,← hb 0 (by omega)]; exact .ptr 0 0 (by omega)
            · rw [if_neg t2]; exact .any
  refine roundIn_of_wpIn trivial (wpIn_mono (znV (l:=L) (n:=n) b e v r es cA hA _ _ hrel) fun q a1 w1 hq=>?_)
  cases q <;> simp only [zbV] at hq
  case normal =>
    obtain ⟨st1,⟨-,q1,q2,q3,q4,q5,q6⟩,⟨C1,hr2,he1⟩,hdf1,hsz1⟩:=hq
    have ids1:∀ i,i < 5→C1.blk i=C.blk i:=fun i hi=>hr2.ids i hi
    rw [q1] at hr2 he1
    obtain ⟨hr3,hm3,hf3⟩:=hr.unroot hr2
    have hL1:w1.heap[L]? = some (.loop (zfS fn tm cA cB D .ready none)):=(hf3 L hLlt fun i ob hi=>hr.notHeld (fun cs T f h=>by rw [hLw] at h; cases h) hi).trans hLw
    have hD1:w1.heap[D]? = some (.deferred (some [])):=(hf3 D hDlt fun i ob hi=>hr.notHeld (fun cs T f h=>by rw [hDw] at h; cases h) hi).trans hDw
    refine ⟨_,run_beginRound hL1 rfl,?_⟩
    obtain ⟨hr4,hm4⟩:=hr3.loop (r' := { zfS fn tm cA cB D .ready none with state := .busy }) hL1 hL
    have hL1lt:L < w1.heap.size:=(yak.1 hL1).1
    have hL2:(w1.putObj L (.loop { zfS fn tm cA cB D .ready none with state := .busy })).heap[L]? = some (.loop { zfS fn tm cA cB D .ready none with state := .busy }):=World.putObj_heap_same hL1lt
    have hD2:(w1.putObj L (.loop { zfS fn tm cA cB D .ready none with state := .busy })).heap[D]? = some (.deferred (some [])):=(World.putObj_heap_other hLD).trans hD1
    generalize w1.putObj L (.loop { zfS fn tm cA cB D .ready none with state := .busy })=w2 at *
    obtain ⟨hr5,hm5⟩:=hr4.root
    have hL2lt:L < w2.heap.size:=(yak.1 hL2).1
    have hD2lt:D < w2.heap.size:=(yak.1 hD2).1
    have hrel2:Rel (za7 x C1 (hP 0 v r es ++ [.box (cE e)]) w2) 23 (zxg b e v r es) a1 w2:=by
      refine ⟨⟨C1,hr5,fun t=>?_⟩,hdf1,hsz1⟩
      have tr:∀ p u,RepV (zu (za7 x C (hP 0 v r es) w) C1 (hP 0 v r es ++ [.box (cE e)]) w1) w1 C1 p u→RepV (zu (za7 x C1 (hP 0 v r es ++ [.box (cE e)]) w2) C1 (hP 0 v r es ++ [.box (cE e)]) w2) w2 C1 p u:=fun p u h=>hm5 _ _ (hm4 _ _ (hm3 _ _ h))
      simp only [zxg,mkE]
      by_cases t6:6=t
      · rw [if_pos t6,← t6]; have:=he1 6; rw [q6] at this; exact tr _ _ this
      · rw [if_neg t6]
        by_cases t5:5=t
        · rw [if_pos t5,← t5]; have:=he1 5; rw [q5] at this; exact tr _ _ this
        · rw [if_neg t5]
          by_cases t4:4=t
          · rw [if_pos t4,← t4]; have:=he1 4; rw [q4] at this; exact tr _ _ this
          · rw [if_neg t4]
            by_cases t3:3=t
            · rw [if_pos t3,← t3]; have:=he1 3; rw [q3] at this; exact tr _ _ this
            · rw [if_neg t3]
              by_cases t2:2=t
              · rw [if_pos t2,← t2]; have:=he1 2; rw [q2] at this; exact tr _ _ this
              · rw [if_neg t2]; exact .any
    have fin : ∀ {c : Int} {v' : Nat} {es' : List Entry} {a3 : Act} {w3 : World} {st3 : St} (jump : Option Code), st3.heap = hP c v' r es' ++ [.box (cE e)] → es'.length ≤ 40 → Rel (za7 x C1 (hP 0 v r es ++ [.box (cE e)]) w2) 23 st3 a3 w3 →
        ∃ w4,(Instr.endRound L jump).run prog w3 = .ok (.bool jump.isNone) w4∧Rnd x B L D (zfS fn tm cA cB D (if jump.isNone then .ready else .done) jump) c r es' w4:=by
      intro c v' es' a3 w3 st3 jump hst hlen ⟨⟨C5,hr6,_⟩,_,_⟩
      have ids5:∀ i,i < 6→C5.blk i=C1.blk i:=fun i hi=>hr6.ids i hi
      rw [hst] at hr6
      obtain ⟨hr7,-,hf7⟩:=hr4.unroot hr6
      have hL3:w3.heap[L]? = some (.loop { zfS fn tm cA cB D .ready none with state := .busy }):=(hf7 L hL2lt fun i ob hi=>hr4.notHeld (fun cs T f h=>by rw [hL2] at h; cases h) hi).trans hL2
      have hD3:w3.heap[D]? = some (.deferred (some [])):=(hf7 D hD2lt fun i ob hi=>hr4.notHeld (fun cs T f h=>by rw [hD2] at h; cases h) hi).trans hD2
      have hL3lt:L < w3.heap.size:=(yak.1 hL3).1
      obtain ⟨hr8,-⟩:=hr7.loop (r':=zfS fn tm cA cB D (if jump.isNone then .ready else .done) jump) hL3 hL
      refine ⟨_,run_endRound jump hL3,hlen,Rnd.back hx hr8 (fun i hi=>by rw [ids5 i (by omega),ids1 i (by omega),hb i hi]),World.putObj_heap_same hL3lt,(World.putObj_heap_other hLD).trans hD3⟩
    cases b with
    | false =>
      refine wpIn_mono (zyT (l:=L) (n:=n) e v r es cB hB _ _ hrel2) fun q a3 w3 hq=>?_
      cases q <;> simp only [zbV] at hq
      case ret =>
        obtain ⟨st3,⟨-,hst⟩,hrel3⟩:=hq
        obtain ⟨w4,g1,g2⟩:=fin (some .ret) hst hle hrel3
        exact ⟨_,w4,g1,.inr ⟨rfl,1,.inl ⟨rfl,rfl⟩,g2⟩⟩
      all_goals first | exact hq.elim | (obtain ⟨_,⟨h,_⟩,_⟩:=hq; cases h)
    | true =>
      by_cases h40:es.length=40
      · refine wpIn_mono (zs6 (l:=L) (n:=n) e v r es h40 cB hB _ _ hrel2) fun q a3 w3 hq=>?_
        cases q <;> simp only [zbV] at hq
        case ret =>
          obtain ⟨st3,⟨-,hst⟩,hrel3⟩:=hq
          obtain ⟨w4,g1,g2⟩:=fin (some .ret) hst hle hrel3
          exact ⟨_,w4,g1,.inr ⟨rfl,2,.inr ⟨rfl,h40,rfl⟩,g2⟩⟩
        all_goals first | exact hq.elim | (obtain ⟨_,⟨h,_⟩,_⟩:=hq; cases h)
      · refine wpIn_mono (zyU (l:=L) (n:=n) e v r es h40 hle cB hB _ _ hrel2) fun q a3 w3 hq=>?_
        cases q <;> simp only [zbV] at hq
        case normal =>
          obtain ⟨st3,⟨-,hst⟩,hrel3⟩:=hq
          obtain ⟨w4,g1,g2⟩:=fin none hst (by simp; omega) hrel3
          exact ⟨_,w4,g1,.inl ⟨rfl,rfl,h40,g2⟩⟩
        all_goals first | exact hq.elim | (obtain ⟨_,⟨h,_⟩,_⟩:=hq; cases h)
  all_goals first | exact hq.elim | (obtain ⟨_,⟨h,_⟩,_⟩:=hq; cases h)
end
theorem zqE (t:List UInt8) (a b:Nat):(BA t).extract a b=BA ((t.drop a).take (b - a)):=by
 apply ByteArray.ext
 simp [BA,ByteArray.data_extract]
def zcc:Nat→List UInt8→List Entry→List Entry × Int
 | 0,_,es=>(es,0)
 | f + 1,r,es=>if r = [] then (es,0) else if (Zj r).2.2≠0 then ([],1) else if es.length=40 then ([],2) else zcc f (r.drop (Zj r).2.1.toNat) (es ++ [(Zj r).1])
theorem zqF {t:List UInt8} {x:Entry} {r:List UInt8} (h:Zt t = .ok (x,r)):r.length < t.length:=by
 unfold Zt at h
 split at h
 ·
  cases h
 ·
  cases h
 ·
  cases h
 ·
  rename_i y c n u hx
  obtain ⟨l,v,hv,hr⟩:=zjl h
  have:=zj8 hx
  have:=(zlt hv).1
  simp at *
  omega
theorem zo4 {t:List UInt8} {c:Int} (h:zgQ t = .error c):c≠0:=by
 match t,h with
 | [],h=>simp [zgQ] at h; omega
 | [a],h=>simp only [zgQ] at h; split at h <;> (cases h; decide)
 | a :: b :: t,h=>simp only [zgQ] at h; split at h <;> cases h; decide
theorem zmt:∀ {n:Nat} {t:List UInt8} {c:Int},zaQ n t = .error c→c≠0
 | 0,t,c,h=>by cases h
 | n + 1,t,c,h=>by
  rw [zaQ] at h
  cases h1:zgQ t with
  | error d=>rw [h1] at h; cases h; exact zo4 h1
  | ok v =>
   rw [h1] at h
   simp only at h
   cases h2:zaQ n v.2 with
   | error d=>rw [h2] at h; cases h; exact zmt h2
   | ok u=>rw [h2] at h; cases h
theorem znW {t:List UInt8} {c:Int} (h:Zt t = .error c):c≠0:=by
 unfold Zt at h
 split at h
 ·
  rename_i d hd; cases h; exact zo4 hd
 ·
  cases h; decide
 ·
  cases h; decide
 ·
  rename_i x y n u hx
  cases hv:zaQ n.toNat u with
  | error d=>rw [hv] at h; cases h; exact zmt hv
  | ok v =>
   rw [hv] at h
   unfold zbC at h
   split at h
   ·
    rename_i e; cases e
   ·
    cases h; decide
   ·
    split at h
    ·
     cases h; decide
    ·
     cases h
theorem znX {r:List UInt8} (h:(Zj r).2.2=0):∃ m:Nat,(Zj r).2.1=m∧0 < m∧m≤r.length:=by
 by_cases h0:(z6 r).2.2=0
 ·
  have h1:(Zj r).2.1=(r.length:Int) - ((z6 r).2.1.length:Int):=by rw [Zj,if_pos h0]
  have h2:(z6 r).2.1.length < r.length:=by
   cases hr:Zt r with
   | error c =>
    exfalso
    have:(z6 r).2.2=c:=by simp [z6,hr]
    rw [this] at h0
    exact znW hr h0
   | ok v => 
    have:(z6 r).2.1=v.2:=by simp [z6,hr]
    rw [this]
    exact zqF (x:=v.1) (r:=v.2) hr
  exact ⟨r.length - (z6 r).2.1.length,by rw [h1]; omega,by omega,by omega⟩
 ·
  rw [Zj,if_neg h0] at h
  exact (h0 h).elim
theorem zgs:∀ (f:Nat) (r:List UInt8) (es:List Entry),r.length≤f→zcc f r es=zcc r.length r es
 | 0,r,es,h=>by rw [Nat.le_zero.1 h]
 | f + 1,[],es,h=>by simp [zcc]
 | f + 1,a :: r,es,h=>by
  rw [yax,zcc,zcc]
  by_cases h1:(Zj (a :: r)).2.2=0
  ·
   obtain ⟨m,e,m0,m1⟩:=znX h1
   rw [e,yaB]
   have hd:((a :: r).drop m).length≤r.length:=by rw [ybQ,yax]; omega
   rw [zgs f _ _ (by simp only [yax] at h; omega),zgs r.length _ _ hd]
  ·
   simp [h1]
theorem zmu {r:List UInt8} {es:List Entry} (h:r ≠ []) (h1:(Zj r).2.2≠0):zcc r.length r es=([],1):=by
 cases r with
 | nil=>exact (h rfl).elim
 | cons a r=>rw [yax,zcc,if_neg (by simp),if_pos h1]
theorem zqG {r:List UInt8} {es:List Entry} (h:r ≠ []) (h1:(Zj r).2.2=0) (h2:es.length=40):zcc r.length r es=([],2):=by
 cases r with
 | nil=>exact (h rfl).elim
 | cons a r=>rw [yax,zcc,if_neg (by simp),if_neg (by simp [h1]),if_pos h2]
theorem zjP {r:List UInt8} {es:List Entry} {m:Nat} (h:r ≠ []) (h1:(Zj r).2.2=0) (h2:es.length≠40) (hm:(Zj r).2.1=m):zcc r.length r es=zcc (r.drop m).length (r.drop m) (es ++ [(Zj r).1]):=by
 cases r with
 | nil=>exact (h rfl).elim
 | cons a r =>
  obtain ⟨m',e,m0,m1⟩:=znX h1
  have:m'=m:=by rw [e] at hm; exact Int.ofNat.inj hm
  subst this
  have hd:((a :: r).drop m').length≤r.length:=by rw [ybQ,yax]; omega
  rw [← zgs r.length _ _ hd,yax,zcc,if_neg (by simp),if_neg (by simp [h1]),if_neg h2,e,yaB]
theorem zqH (r:List UInt8):(BA r=⟨#[]⟩)=(r = []):=by
 apply propext
 constructor
 ·
  intro h
  have:=congrArg (fun b:ByteArray=>b.size) h
  rw [zcT] at this
  exact ybs.1 this
 ·
  rintro rfl; rfl
section
variable {P:Program} {x:Cx} {nt n:Nat} {st:St}
theorem zvd {op:Op} {t:Nat} (hl:Z1 P op=some (.mv (.tmp t))):op = .move (.tmp t)∨op = .assign (.tmp t):=by
 have key:∀ X:Operand,(zaK X).map LOp.mv=some (.mv (.tmp t))→X = .tmp t:=by
  intro X h
  cases X with
  | tmp t'=>simp [zaK] at h; rw [h]
  | const v=>simp [zaK] at h
  | func f=>simp [zaK] at h
  | global g=>simp [zaK] at h
 cases op <;> simp only [Z1,reduceCtorEq] at hl
 case move X=>exact .inl (by rw [key X hl])
 case assign X=>exact .inr (by rw [key X hl])
 all_goals (revert hl; (repeat' split) <;> first | (intro h; cases h; done) | (rename_i e; cases e; done) | simp_all)
theorem zyV {ops:Array Oper} {o:Oper} {rest:List Oper} {so:Bool} {d t:Nat} {a:Act} {w:World} {Q:Exit→Act→World→Prop} (hl:Zc P nt ops o=some ⟨some d,.mv (.tmp t),none,so⟩) (h:wpListIn Fence.wide n P ops Q rest (a.put (some d) (a.tmps.getD t Go.undef)) w):wpListIn Fence.wide n P ops Q (o :: rest) a w:=by
 unfold Zc at hl
 split at hl <;> try (cases hl; done)
 rename_i lop hop
 split at hl <;> try (cases hl; done)
 split at hl
 ·
  rename_i hg
  simp only [yae,LOper.mk.injEq] at hl
  obtain ⟨e1,e2,-,-⟩:=hl
  rw [e2] at hop
  unfold wpListIn
  rw [if_pos (by simp [Region.wanted,hg])]
  refine ⟨fun f _=>trivial,?_⟩
  rw [show Fence.wide.round=none from rfl,Oper.semAt_none]
  have hrun:(execOp a.eval o).run P w = .ok (.value (a.tmps.getD t Go.undef)) w:=by
   rcases zvd hop with ho | ho
   ·
    simp only [execOp,ho,yay]; rfl
   ·
    simp only [execOp,ho,yay]; rfl
  rw [hrun]
  show wpListIn Fence.wide n P ops Q rest (a.put o.dst _) w
  rw [e1]
  exact h
 ·
  split at hl <;> try (cases hl; done)
  split at hl <;> try (cases hl; done)
  simp at hl
theorem zeq {a:Act} {d:Option Nat} {v:Value} {t:Nat} (h:d≠some t):(a.put d v).tmps.getD t Go.undef=a.tmps.getD t Go.undef:=by
 cases d with
 | none=>rfl
 | some k =>
  have hk:k≠t:=fun e=>h (by rw [e])
  show (a.tmps.setIfInBounds k v).getD t Go.undef=_
  by_cases hlt:k < a.tmps.size
  ·
   rw [zfT hlt,if_neg (Ne.symm hk)]
  ·
   rw [Array.setIfInBounds_eq_of_size_le (by omega)]
theorem zs7 {lops:List LOper} {t:Nat} {u:Value} (h:lops.all (fun o=>o.dst != some t)=true):∀ o ∈ lops,∀ v (a:Act),a.tmps.getD t Go.undef=u→(a.put o.dst v).tmps.getD t Go.undef=u:=fun o ho v a hu=>by
 have:=yar.1 h o ho
 rw [zeq (by simpa using this)]
 exact hu
theorem zDS {lops:List LOper} {t s:Nat} {u:Value} (h:lops.all (fun o=>o.dst != some t && o.dst != some s)=true):∀ o ∈ lops,∀ v (a:Act),(a.tmps.getD t Go.undef=u∧a.tmps.getD s Go.undef=u)→(a.put o.dst v).tmps.getD t Go.undef=u∧(a.put o.dst v).tmps.getD s Go.undef=u:=fun o ho v a hu=>by
 have h1:=yar.1 h o ho
 simp only [yat,bne_iff_ne] at h1
 rw [zeq h1.1,zeq h1.2]
 exact hu
theorem zeO {ops:Array Oper} {o:Oper} {d:Option Nat} {lop:LOp} {so:Bool} (hl:Zc P nt ops o=some ⟨d,lop,none,so⟩):o.dst=d∧Z1 P o.op=some lop∧o.guard=none:=by
 unfold Zc at hl
 split at hl <;> try (cases hl; done)
 rename_i lop' hop
 split at hl <;> try (cases hl; done)
 split at hl
 ·
  rename_i hg
  simp only [yae,LOper.mk.injEq] at hl
  obtain ⟨e1,e2,-,-⟩:=hl
  exact ⟨e1,by rw [hop,e2],hg⟩
 ·
  split at hl <;> try (cases hl; done)
  split at hl <;> try (cases hl; done)
  all_goals simp at hl
theorem zfU {ops:Array Oper} {os:List Oper} {lo:LOper} (h:zF P nt ops os=some [lo]):∃ o,os = [o]∧Zc P nt ops o=some lo:=by
 cases os with
 | nil=>simp [zF] at h
 | cons o os =>
  simp only [zF] at h
  split at h <;> try (cases h; done)
  rename_i lo' r h1 h2
  simp only [yae,yb6] at h
  obtain ⟨rfl,rfl⟩:=h
  cases os with
  | nil=>exact ⟨o,rfl,h1⟩
  | cons o2 os =>
   exfalso
   simp only [zF] at h2
   split at h2 <;> cases h2
theorem zs8 {ops:Array Oper} {o:Oper} {rest:List Oper} {a:Act} {w:World} {Q:Exit→Act→World→Prop} (hg:o.guard=none) (h:o.wpIn Fence.wide n P a w (wpListIn Fence.wide n P ops Q rest) Q):wpListIn Fence.wide n P ops Q (o :: rest) a w:=by
 unfold wpListIn
 rw [if_pos (by simp [Region.wanted,hg])]
 exact h
theorem zs9 {ops : Array Oper} {os : List Oper} {lops : List LOper} {K : St → Prop} {a : Act} {w : World} {Φ : Array Value → Prop} {Q : Exit → Act → World → Prop} (hlow : zF P nt ops os = some lops) (h : Zq P lops K st) (hrel : Rel x nt st a w)
    (hd:∀ o ∈ lops,∀ v (a:Act),Φ a.tmps→Φ (a.put o.dst v).tmps) (hu:Φ a.tmps) (hk:∀ st' a' w',K st'→Rel x nt st' a' w'→Φ a'.tmps→Q .normal a' w'):wpListIn Fence.wide n P ops Q os a w:=by
  have h4:=zbt (n:=n) (P:=P) (F:=Fence.wide) (ops:=ops) (Q:=Q) (K:=fun a' w'=>(∃ st',K st'∧Rel x nt st' a' w')∧Φ a'.tmps) os [] a w (znN (n:=n) hlow h hrel hd hu) (fun a w ⟨⟨st',g1,g2⟩,g3⟩=>hk st' a w g1 g2 g3)
  rwa [ya6] at h4
theorem zo5 {st':St} {a:Act} {w:World} (hh:st.heap=st'.heap) (he:∀ t,st'.env t = .top∨st'.env t=st.env t) (hrel:Rel x nt st a w):Rel x nt st' a w:=by
 obtain ⟨⟨C,hr1,h1⟩,hdf,hsz⟩:=hrel
 refine ⟨⟨C,hh ▸ hr1,fun t=>?_⟩,hdf,hsz⟩
 rcases he t with e | e
 ·
  rw [e]; exact .any
 ·
  rw [e,← hh]; exact h1 t
theorem zBe {a:Act} {w:World} {d:Nat} {v:Value} (hd:d < nt) (hrel:Rel x nt st a w):Rel x nt (st.put (some d) .top st.heap) (a.put (some d) v) w:=by
 obtain ⟨⟨C,hr1,he⟩,hdf,hsz⟩:=hrel
 exact zbc hsz hdf hr1 he (fun _ _ h=>h) .any (fun t h=>by cases h; exact hd)
end
section
variable {x:Cx} {n:Nat} {B:Nat→Nat} {L D fn:Nat} {tm:Array Value} {cA cB:Code}
theorem Rnd.root (hx : x.H0 = []) {C : Conc} {w w2 : World} {c c' : Int} {v v' : Nat} {r r' : List UInt8} {es es' : List Entry} {ex : List AObj} {st : St} {a : Act} {nt : Nat} {rc : Loop}
    (hr:HR x C (hP c v r es) w) (hb:∀ i,i < 4→C.blk i=B i) (hLw:w.heap[L]? = some (.loop rc)) (hDw:w.heap[D]? = some (.deferred (some []))) (hst:st.heap=hP c' v' r' es' ++ ex) (hrel:Rel (za7 x C (hP c v r es) w) nt st a w2) :
    ∃ C2,HR x C2 (hP c' v' r' es') w2∧(∀ i,i < 4→C2.blk i=B i)∧w2.heap[L]? = some (.loop rc)∧w2.heap[D]? = some (.deferred (some [])) ∧
      (∀ t e,st.env t = .agg (cE e)→RepV (zu x C2 (hP c' v' r' es') w2) w2 C2 (.agg (cE e)) (a.tmps.getD t Go.undef))∧(∀ t,st.env t = .ptr 3 0→a.tmps.getD t Go.undef = .pointer (some ⟨B 3,0,none⟩)) ∧
      (∀ t k m,st.env t = .int k m→a.tmps.getD t Go.undef = .int k m)∧∀ t b,st.env t = .bool b→a.tmps.getD t Go.undef = .bool b:=by
  obtain ⟨⟨C1,hr2,he1⟩,-,-⟩:=hrel
  have ids1:∀ i,i < 5→C1.blk i=C.blk i:=fun i hi=>hr2.ids i hi
  rw [hst] at hr2 he1
  obtain ⟨hr3,hm3,hf3⟩:=hr.unroot hr2
  have hLlt:L < w.heap.size:=(yak.1 hLw).1
  have hDlt:D < w.heap.size:=(yak.1 hDw).1
  obtain ⟨k1,k2⟩:=hr3.restrict (ks:=List.range 5) ybS (fun k hk=>by have:=yaW.1 hk; simp [hP]; omega) (fun i hi=>by rw [hx] at hi; simp at hi)
  have hs:ze (pos (List.range 5)) (zt true (hP c' v' r' es' ++ ex)) (hP c' v' r' es' ++ ex) (List.range 5)=hP c' v' r' es':=by
    simp [ze,zf,zn,zp,pos,yaa,hP]
  rw [hs] at k1 k2
  refine ⟨_,k1,fun i hi=>?_,(hf3 L hLlt fun i ob hi=>hr.notHeld (fun cs T f h=>by rw [hLw] at h; cases h) hi).trans hLw,(hf3 D hDlt fun i ob hi=>hr.notHeld (fun cs T f h=>by rw [hDw] at h; cases h) hi).trans hDw,fun t e ht=>?_,fun t ht=>?_,fun t k m ht=>?_,fun t b ht=>?_⟩
  · show C1.blk ((List.range 5).getD i 0)=B i
    rw [show (List.range 5).getD i 0=i by rw [zas (ya0 (by omega))],ids1 i (by omega)]
    exact hb i hi
  · have h1:=hm3 _ _ (he1 t)
    rw [ht] at h1
    have h2:=zcE (nl:=false) k2 h1
    simpa [zdA,ren,zn,zp,cE] using h2
  · have h1:=he1 t
    rw [ht] at h1
    rw [h1.ptr_inv.1,ids1 3 (by omega),hb 3 (by omega)]
  · have h1:=he1 t
    rw [ht] at h1
    exact h1.int_inv
  · have h1:=he1 t
    rw [ht] at h1
    exact h1.bool_inv
def ItQ (x:Cx) (B:Nat→Nat) (L D:Nat) (rc rd:Loop) (r0:List UInt8) (es0:List Entry) (w':World):Prop :=
 (∃ es',zcc r0.length r0 es0=(es',0)∧Rnd x B L D rc 0 [] es' w')∨∃ (c:Int) (r':List UInt8) (es':List Entry),c≠0∧zcc r0.length r0 es0=([],c)∧Rnd x B L D rd c r' es' w'
theorem zyW (hx : x.H0 = []) (hA : zq prog 23 cA = some lcA) (hB : zq prog 23 cB = some lcB) (htm : tm.size = 23)
    (h2:tm.getD 2 Go.undef = .pointer (some ⟨B 0,0,none⟩)) (h3:tm.getD 3 Go.undef = .pointer (some ⟨B 1,0,none⟩)) (h4:tm.getD 4 Go.undef = .pointer (some ⟨B 2,0,none⟩)) (hL:x.w0.heap.size≤L)
    {r0:List UInt8} {es0:List Entry} {w0:World} (hmx:r0.length≤maxLen) (it:Rnd x B L D (zfS fn tm cA cB D .ready none) 0 r0 es0 w0) :
    CallsIn Fence.wide n prog 223 #[.func (.yield L) #[] #[],.pointer (some ⟨B 3,0,none⟩)] w0 (fun en w'=>(∃ u,en = .returned u)∧ItQ x B L D (zfS fn tm cA cB D .ready none) (zfS fn tm cA cB D .done (some .ret)) r0 es0 w'):=by
  obtain ⟨cd,hbody,hlc⟩:=ybo.1 zAS
  refine callsIn_of_wp func223 hbody trivial ?_ rfl
  have hres:∀ (tm:Array Value) (w:World),∃ u,(results f223 tm).run prog w = .ok u w:=fun tm w=>⟨_,by
    have hq:results f223 tm=(do let vs ← f223.results.mapM (zbW tm); pure (if h:vs.size=1 then vs[0] else .tuple vs)):=rfl
    rw [hq,show f223.results=#[] from rfl,yal,Array.mapM_empty,yay,Result.andThen_ok,yay]⟩
  have hW : ∀ a0 : Act, a0.tmps.getD 0 Go.undef = .func (.yield L) #[] #[] → a0.tmps.getD 1 Go.undef = .pointer (some ⟨B 3, 0, none⟩) → a0.tmps.size = 27 → a0.defers = [] →
      WI prog 27 n zDK (fun e a w'=>(e = .normal∨e = .ret)∧a.defers = []∧ItQ x B L D (zfS fn tm cA cB D .ready none) (zfS fn tm cA cB D .done (some .ret)) r0 es0 w') a0 w0:=by
    intro a0 t0 t1 hsz hdf
    unfold zDK
    refine zoZ (zyM (fun k a w'=>∃ (r:List UInt8) (es:List Entry),r.length=k∧r.length≤maxLen∧Rnd x B L D (zfS fn tm cA cB D .ready none) 0 r es w'∧zcc r0.length r0 es0=zcc r.length r es ∧
      a.tmps.getD 0 Go.undef = .func (.yield L) #[] #[]∧a.tmps.getD 1 Go.undef = .pointer (some ⟨B 3,0,none⟩)∧a.tmps.size=27∧a.defers = []) r0.length ⟨r0,es0,rfl,hmx,it,rfl,t0,t1,hsz,hdf⟩ ?_)
    clear t0 t1 hsz hdf it hmx
    rintro k a w ⟨r,es,hk,hmx,⟨hle,⟨C,v,hr,hb⟩,hLw,hDw⟩,hpk,t0,t1,hsz,hdf⟩
    have hn:C.n=5:=hr.n
    obtain ⟨hr1,-⟩:=hr.root
    have hrel:Rel (za7 x C (hP 0 v r es) w) 27 ⟨mkE .top [(1,.ptr 3 0)],hP 0 v r es⟩ a w:=by
      refine ⟨⟨C,hr1,fun t=>?_⟩,hdf,hsz⟩
      simp only [mkE]
      by_cases e:1=t
      · rw [if_pos e,← e,t1,← hb 3 (by omega)]; exact .ptr 3 0 (by omega)
      · rw [if_neg e]; exact .any
    refine zmm (zmm (zo0 (Φ:=fun tm=>tm.getD 0 Go.undef = .func (.yield L) #[] #[]) (K:=fun st=>st=⟨mkE .top [(7,.bool (!decide (r = []))),(6,.str (BA r)),(1,.ptr 3 0)],hP 0 v r es⟩) ?_ hrel ?_ t0 ?_))
    · simp only [go_sem,hP,zqH]
    · exact zs7 rfl
    intro st1 a1 w1 hst1 hrel1 t01
    subst hst1
    refine znP hrel1 (b := !decide (r = [])) (by simp [go_sem]) (fun hne=>?_) (fun he=>?_)
    · have hne:r ≠ []:=by simpa using hne
      refine zsV (zoZ (zmm (zo0 (Φ:=fun tm=>tm.getD 0 Go.undef = .func (.yield L) #[] #[]) (K:=fun st=>st.heap=hP 0 v r es ++ [.box (cE (Zj r).1)]∧st.env 1 = .ptr 3 0∧st.env 3 = .ptr 5 0∧st.env 4 = .int .i64 (Zj r).2.1∧st.env 5 = .int .i64 (Zj r).2.2) ?_ hrel1 ?_ t01 ?_)))
      · simp only [go_sem,hP]
        refine zc (.pureE (zbL r hmx) (by simp [go_sem])) ?_
        simp only [go_sem,cE]
        try exact ⟨rfl,rfl,rfl,rfl,rfl⟩
      · exact zs7 rfl
      intro st2 a2 w2 ⟨q1,q2,q3,q4,q5⟩ hrel2 t02
      generalize he0:(Zj r).1=e at *
      generalize hn0:(Zj r).2.1=m0 at *
      generalize hc0:(Zj r).2.2=c0 at *
      have hrel2:Rel (za7 x C (hP 0 v r es) w) 27 ⟨mkE .top [(5,.int .i64 c0),(4,.int .i64 m0),(3,.ptr 5 0),(1,.ptr 3 0)],hP 0 v r es ++ [.box (cE e)]⟩ a2 w2:=by
        refine zo5 q1 (fun t=>?_) hrel2
        simp only [mkE]
        by_cases h5:5=t
        · rw [if_pos h5,← h5]; exact .inr q5.symm
        · rw [if_neg h5]
          by_cases h4:4=t
          · rw [if_pos h4,← h4]; exact .inr q4.symm
          · rw [if_neg h4]
            by_cases h3:3=t
            · rw [if_pos h3,← h3]; exact .inr q3.symm
            · rw [if_neg h3]
              by_cases h1:1=t
              · rw [if_pos h1,← h1]; exact .inr q2.symm
              · rw [if_neg h1]; exact .inl rfl
      clear q1 q2 q3 q4 q5
      refine zmm (zmm (znQ fun ops os hl=>?_))
      obtain ⟨os1,os',rfl,hl1,hl'⟩:=zcb [_] _ os hl
      obtain ⟨os2,os'',rfl,hl2,hl''⟩:=zcb [_,_,_] _ os' hl'
      obtain ⟨os3,os4,rfl,hl3,hl4⟩:=zcb [_] _ os'' hl''
      obtain ⟨o1,rfl,ho1⟩:=zfU hl1
      obtain ⟨o3,rfl,ho3⟩:=zfU hl3
      refine zyV ho1 ?_
      refine zbt os2 _ _ _ (znN (Φ:=fun tm=>tm.getD 0 Go.undef = .func (.yield L) #[] #[]∧tm.getD 14 Go.undef = .func (.yield L) #[] #[]) (K:=fun st=>st.heap=hP 0 v r es ++ [.box (cE e)]∧st.env 1 = .ptr 3 0∧st.env 4 = .int .i64 m0∧st.env 5 = .int .i64 c0∧st.env 15 = .agg (cE e)∧st.env 17 = .bool (decide (c0=0))) hl2 ?_ (zBe (by decide) hrel2) ?_ ?_) ?_
      · simp only [go_sem,hP,cE]
      · exact zDS rfl
      · refine ⟨by rw [zeq (by decide)]; exact t02,?_⟩
        show (a2.tmps.setIfInBounds 14 _).getD 14 Go.undef=_
        rw [zfT (by rw [hrel2.size]; decide),if_pos rfl,t02]
      rintro a3 w3 ⟨⟨st3,⟨r1,r2,r3,r4,r5,r6⟩,hrel3⟩,t03,t143⟩
      obtain ⟨C3,k1,k2,k3,k4,k5,k6,k7,k8⟩:=Rnd.root hx hr hb hLw hDw r1 hrel3
      have hve:=k5 15 e r5
      have v1:=k6 1 r2
      have v4:=k7 4 _ _ r3
      have v5:=k7 5 _ _ r4
      have v17:=k8 17 _ r6
      have hsz3:=hrel3.size
      have hdf3:=hrel3.defers
      obtain ⟨d3,hop3,hg3⟩:=zeO ho3
      have hround:=zvc (n:=n - 1) (fn:=fn) (L:=L) (D:=D) hx hA hB htm h2 h3 h4 hL hle k1 k2 k3 k4 (b:=decide (c0=0)) hve
      refine zs8 hg3 (zu6 hop3 t143 k3 rfl (by rw [v17]; simpa [zfS] using hround) ?_)
      have mkrel:∀ {yes:Bool} {c':Int} {vv:Nat} {ee:List Entry} {C4:Conc} {w4:World},HR x C4 (hP c' vv r ee) w4→(∀ i,i < 4→C4.blk i=B i)→Rel (za7 x C4 (hP c' vv r ee) w4) 27 ⟨mkE .top [(18,.bool yes),(5,.int .i64 c0),(4,.int .i64 m0),(1,.ptr 3 0)],hP c' vv r ee⟩ (a3.put (some 18) (.bool yes)) w4:=by
        intro yes c' vv ee C4 w4 hr4 hb4
        have hn4:C4.n=5:=hr4.n
        refine ⟨⟨C4,hr4.root.1,fun t=>?_⟩,hdf3,by rw [show (a3.put (some 18) (.bool yes)).tmps=a3.tmps.setIfInBounds 18 (.bool yes) from rfl]; simpa using hsz3⟩
        rw [show (a3.put (some 18) (.bool yes)).tmps=a3.tmps.setIfInBounds 18 (.bool yes) from rfl,zfT (by rw [hsz3]; decide)]
        simp only [mkE]
        by_cases h18:18=t
        · rw [if_pos h18,if_pos h18.symm]; exact .pure (.bool yes)
        · rw [if_neg h18,if_neg (Ne.symm h18)]
          by_cases h5:5=t
          · rw [if_pos h5,← h5,v5]; exact .pure (.int _ _)
          · rw [if_neg h5]
            by_cases h4:4=t
            · rw [if_pos h4,← h4,v4]; exact .pure (.int _ _)
            · rw [if_neg h4]
              by_cases h1:1=t
              · rw [if_pos h1,← h1,v1,← hb4 3 (by omega)]; exact .ptr 3 0 (by omega)
              · rw [if_neg h1]; exact .any
      rintro en w4 (⟨rfl,hb1,h40,⟨hle4,⟨C4,v4',hr4,hb4⟩,hL4,hD4⟩⟩ | ⟨rfl,c,hc,⟨hle4,⟨C4,v4',hr4,hb4⟩,hL4,hD4⟩⟩)
      · have hcz:c0=0:=by simpa using hb1
        refine ⟨_,rfl,?_⟩
        rw [d3]
        have hrel4:=mkrel (yes:=true) hr4 hb4
        refine zs9 (Φ:=fun tm=>tm.getD 0 Go.undef = .func (.yield L) #[] #[]) (K:=fun st=>st.heap=hP 0 v4' r (es ++ [e])∧st.env 1 = .ptr 3 0∧st.env 4 = .int .i64 m0∧st.env 23 = .bool false) hl4 ?_ hrel4 ?_ (by rw [zeq (by decide)]; exact t03) ?_
        · simp only [go_sem,hP,hcz]
        · exact zs7 rfl
        intro st5 a5 w5 ⟨s1,s2,s3,s4⟩ hrel5 t05
        refine ⟨rfl,?_⟩
        obtain ⟨m,hm,mpos,mle⟩:=znX (r:=r) (by rw [hc0]; exact hcz)
        have hm0:m0=(m:Int):=by rw [← hn0,hm]
        refine znP hrel5 (b:=false) s4 (fun h=>by cases h) (fun _=>zsV ?_)
        have hrel5:Rel (za7 x C4 (hP 0 v4' r (es ++ [e])) w4) 27 ⟨mkE .top [(4,.int .i64 (m:Int)),(1,.ptr 3 0)],hP 0 v4' r (es ++ [e])⟩ a5 w5:=by
          refine zo5 s1 (fun t=>?_) hrel5
          simp only [mkE]
          by_cases h4:4=t
          · rw [if_pos h4,← h4,s3,hm0]; exact .inr rfl
          · rw [if_neg h4]
            by_cases h1:1=t
            · rw [if_pos h1,← h1]; exact .inr s2.symm
            · rw [if_neg h1]; exact .inl rfl
        have hsl:(BA r).extract m r.length=BA (r.drop m):=by rw [zqE,yan (by rw [ybQ]; omega)]
        have hmi:(m:Int)≤(r.length:Int):=by omega
        refine zo0 (Φ:=fun tm=>tm.getD 0 Go.undef = .func (.yield L) #[] #[]) (K:=fun st=>st.heap=hP 0 v4' (r.drop m) (es ++ [e])∧st.env 1 = .ptr 3 0) ?_ hrel5 ?_ t05 ?_
        · simp only [go_sem,hP,zcT,ybm,hmi,yaO,yaB,hsl]
        · exact zs7 rfl
        intro st6 a6 w6 ⟨u1,u2⟩ hrel6 t06
        obtain ⟨C6,g1,g2,g3,g4,-,g6,-,-⟩:=Rnd.root hx hr4 hb4 hL4 hD4 (ex := []) (c':=0) (v':=v4') (r':=r.drop m) (es':=es ++ [e]) (by rw [u1,ya6]) hrel6
        refine ⟨(r.drop m).length,by rw [ybQ]; omega,r.drop m,es ++ [e],rfl,by rw [ybQ]; omega,⟨hle4,⟨C6,v4',g1,g2⟩,g3,g4⟩,?_,t06,g6 1 u2,hrel6.size,hrel6.defers⟩
        rw [hpk,zjP hne (by rw [hc0]; exact hcz) h40 hm,he0]
      · refine ⟨_,rfl,?_⟩
        rw [d3]
        have hrel4:=mkrel (yes:=false) hr4 hb4
        refine zs9 (Φ:=fun tm=>tm.getD 0 Go.undef = .func (.yield L) #[] #[]) (K:=fun st=>st.heap=hP c v4' r es∧st.env 23 = .bool true) hl4 ?_ hrel4 ?_ (by rw [zeq (by decide)]; exact t03) ?_
        · simp only [go_sem,hP]
        · exact zs7 rfl
        intro st5 a5 w5 ⟨s1,s4⟩ hrel5 t05
        refine ⟨rfl,?_⟩
        refine znP hrel5 (b:=true) s4 (fun _=>zA8 ?_) (fun h=>by cases h)
        obtain ⟨C6,g1,g2,g3,g4,-⟩:=Rnd.root hx hr4 hb4 hL4 hD4 (ex := []) (c':=c) (v':=v4') (r':=r) (es':=es) (by rw [s1,ya6]) hrel5
        refine ⟨.inr rfl,hrel5.defers,.inr ⟨c,r,es,?_,?_,hle4,⟨C6,v4',g1,g2⟩,g3,g4⟩⟩
        · rcases hc with ⟨-,rfl⟩ | ⟨-,-,rfl⟩ <;> decide
        · rw [hpk]
          rcases hc with ⟨h1,rfl⟩ | ⟨h1,h2,rfl⟩
          · exact zmu hne (by rw [hc0]; simpa using h1)
          · exact zqG hne (by rw [hc0]; simpa using h1) h2
    · have he:r = []:=by simpa using he
      subst he
      refine zyL ?_
      simp only [zyK,zsU,eq_self,if_true]
      obtain ⟨C2,k1,k2,k3,k4,-⟩:=Rnd.root hx hr hb hLw hDw (ex := []) (c':=0) (v':=v) (r' := []) (es':=es) (by simp) hrel1
      exact ⟨.inl trivial,hrel1.defers,.inl ⟨es,by rw [hpk]; rfl,hle,⟨C2,v,k1,k2⟩,k3,k4⟩⟩
  refine wpIn_mono (hW _ ?_ ?_ ?_ rfl cd hlc) ?_
  · simp
  · simp
  · simp [ntmps223]
  · intro e a w' hq
    cases e <;> simp only [znO] at hq
    case normal=>obtain ⟨u,hu⟩:=hres a.tmps w'; exact ⟨hq.2.1,u,hu,⟨_,rfl⟩,hq.2.2⟩
    case ret=>obtain ⟨u,hu⟩:=hres a.tmps w'; exact ⟨hq.2.1,u,hu,⟨_,rfl⟩,hq.2.2⟩
    all_goals first | exact hq.elim | (obtain ⟨h,_⟩:=hq; rcases h with h | h <;> cases h)
end
section
variable {P:Program} {x:Cx} {nt n:Nat} {st:St} {C:Conc} {H:List AObj} {w:World}
def Obj.noCells (o:Obj):Prop:=∀ cs T f,o ≠ .cells cs T f
theorem zmv {L:Nat} {o:Obj} (h:w.heap[L]? = some o) (ho:Obj.noCells o) (j:Nat):w.cell? ⟨L,j,none⟩=none:=by
 unfold World.cell?
 simp only [h]
 cases o <;> first | rfl | exact (ho _ _ _ rfl).elim
theorem HR.put (hr : HR x C H w) {L : Nat} {r r' : Obj} (h : w.heap[L]? = some r) (hn : Obj.noCells r) (hn' : Obj.noCells r') (h0 : x.w0.heap.size ≤ L) :
    HR x C H (w.putObj L r')∧∀ p v,RepV (zu x C H w) w C p v→RepV (zu x C H (w.putObj L r')) (w.putObj L r') C p v:=by
  have hlt:L < w.heap.size:=(yak.1 h).1
  have hsz:(w.putObj L r').heap.size=w.heap.size:=World.putObj_size
  have hnew:(w.putObj L r').heap[L]? = some r':=World.putObj_heap_same hlt
  have hold:∀ b,b≠L→(w.putObj L r').heap[b]? = w.heap[b]? := fun b hb=>World.putObj_heap_other hb
  have hcell:∀ b o,(w.putObj L r').cell? ⟨b,o,none⟩=w.cell? ⟨b,o,none⟩:=fun b o=>by
    by_cases e:b=L
    · subst e
      rw [zmv hnew hn',zmv h hn]
    · exact zbb (hold b e)
  have hunf:∀ b,Unf w b→Unf (w.putObj L r') b:=fun b hu=>by
    by_cases e:b=L
    · subst e
      intro o
      unfold World.frozen?
      simp only [hnew]
      cases r' <;> first | rfl | exact (hn' _ _ _ rfl).elim
    · exact hu.same (hold b e)
  have hS:∀ b o,zu x C H w b o→zu x C H (w.putObj L r') b o:=fun b o h=>⟨h.1.imp_right fun q=>⟨q.1,hunf b q.2⟩,by rw [hsz]; exact h.2.1,h.2.2⟩
  have hm:∀ p v,RepV (zu x C H w) w C p v→RepV (zu x C H (w.putObj L r')) (w.putObj L r') C p v:=fun p v h=>h.mono hS (fun b o _=>hcell b o) (yag _) (fun i _=>rfl) (fun i _ => .inl ⟨rfl,rfl⟩) fun b o h=>⟨h,hcell b o⟩
  have hne:∀ (i:Nat) ob,H[i]? = some ob→∀ b,ob.holds C i b→b≠L:=fun i ob hi b hb e=>by
    subst e
    exact hr.notHeld (fun cs T f e=>by rw [h] at e; exact hn _ _ _ (ybe e)) hi hb
  refine ⟨⟨hr.n,fun i ob h=>(hr.obj i ob h).mono hm (fun p v h=>h.mono hS (fun b o _=>hcell b o)) (fun b hb=>hold b (hne i ob h b hb)) rfl rfl rfl,hr.apart,hr.mine,fun b o h=>?_,by rw [hsz]; exact hr.size,hr.os,hr.tape,hr.output,fun b hb h=>?_,hr.len,hr.ids,hr.vers,fun b o h=>⟨by rw [hsz]; exact (hr.old b o h).1,(hr.old b o h).2⟩,hr.old0,fun b hb h=>hunf b (hr.unf b hb h)⟩,hm⟩
  · obtain ⟨h1,h2,h3⟩:=hr.s0 b o h
    exact ⟨h1,h2,(hcell b o).trans h3⟩
  · exact (hold b (by omega)).trans (hr.frame b hb h)
theorem zjQ {ops : Array Oper} {Q : Exit → Act → World → Prop} {K : St → Prop} : ∀ (os : List Oper) (lops : List LOper) (st : St) (a : Act) (w : World), zF P nt ops os = some lops → (lops.all fun o => o.op.plain && o.guard.isNone) = true → Zq P lops K st → Rel x nt st { a with defers := [] } w →
    (∀ st' a' w',K st'→Rel x nt st' { a' with defers := [] } w'→a'.defers=a.defers→Q .normal a' w')→wpListIn Fence.wide n P ops Q os a w
  | [],lops,st,a,w,hl,_,h,hrel,hk=>by
    simp only [zF,yae] at hl; subst hl
    exact hk st a w h hrel rfl
  | o :: os,lops,st,a,w,hl,hp,h,hrel,hk=>by
    simp only [zF] at hl
    split at hl <;> try (cases hl; done)
    rename_i lo r h1 h2
    cases hl
    obtain ⟨d,lop,g,so⟩:=lo
    simp only [ybN,yat] at hp
    obtain ⟨⟨hp1,hp2⟩,hp3⟩:=hp
    cases g with
    | some g=>cases hp2
    | none =>
      obtain ⟨e1,e2,e3⟩:=zeO h1
      rw [zH hp1] at h
      cases hv:zo st lop with
      | none=>rw [hv] at h; exact h.elim
      | some vH =>
        obtain ⟨v,H'⟩:=vH
        rw [hv] at h
        have h:Zq P r K (st.put d v H'):=h
        have hdl:∀ t,o.dst=some t→t < nt:=by
          intro t e
          unfold Zc at h1
          split at h1 <;> try (cases h1; done)
          split at h1 <;> try (cases h1; done)
          rename_i hd
          rw [e] at hd
          simpa [zmR] using hd
        obtain ⟨⟨C,hr1,he⟩,hdf,hsz⟩:=hrel
        have hsz:a.tmps.size=nt:=hsz
        have he:∀ t,RepV (zu x C st.heap w) w C (st.env t) (a.tmps.getD t Go.undef):=he
        obtain ⟨vv,w',C',hres,g2,g3,g4⟩:=sim (P:=P) (a:=a) hr1 he e2 hv
        refine zs8 e3 ⟨fun f _=>trivial,?_⟩
        rw [show Fence.wide.round=none from rfl,Oper.semAt_none]
        have hgo:wpListIn Fence.wide n P ops Q os (a.put o.dst vv) w':=by
          refine zjQ os r (st.put d v H') _ w' h2 hp3 h ?_ fun st' a' w' k1 k2 k3=>hk st' a' w' k1 k2 (k3.trans ?_)
          · have:=zbc (a := { a with defers := [] }) hsz rfl g2 he g3 g4 (d:=o.dst) hdl
            rw [e1] at this ⊢
            cases d <;> exact this
          · cases o.dst <;> rfl
        rcases hres with hq | ⟨hq,rfl⟩ <;> rw [hq] <;> exact hgo
theorem zve {fn:Func} {lrs:List LRes} {r:PV} {Hs':List AObj} {a:Act} (hres:ZC P fn.results.toList=some lrs) (hq:zli x nt lrs r Hs' .ret st) (hrel:Rel x nt st a w):∃ v,(results fn a.tmps).run P w = .ok v w∧∃ C',HR x C' Hs' w∧RepV (zu x C' Hs' w) w C' r v:=by
  obtain ⟨st',keep,hwk,ps,h1,h2,h3,h4,h5,h6⟩:=hq
  replace hrel:=hwk a w hrel
  obtain ⟨⟨C,hr1,he⟩,hdf,hsz⟩:=hrel
  obtain ⟨us,k1,k2⟩:=zay hr1 he hres h1
  refine ⟨if h:us.toArray.size=1 then us.toArray[0] else .tuple us.toArray,?_,C.sub (List.range x.H0.length ++ keep),?_⟩
  · have hm:(fn.results.mapM (zbW a.tmps)).run P w = .ok us.toArray w:=by
      rw [ybz]
      simp [k1]
    have hq:results fn a.tmps=(do let vs ← fn.results.mapM (zbW a.tmps); pure (if h:vs.size=1 then vs[0] else .tuple vs)):=rfl
    rw [hq,yal,hm,Result.andThen_ok,yay]
  · have hlen:(List.range x.H0.length ++ keep).Nodup:=by
      refine List.nodup_append.2 ⟨ybS,h2,fun a ha b hb e=>?_⟩
      have:=yaW.1 ha
      have:=(h3 b hb).1
      omega
    obtain ⟨q1, q2⟩ := hr1.restrict (ks := List.range x.H0.length ++ keep) hlen (fun k hk => by
        rcases yai.1 hk with h | h
        · have:=yaW.1 h; omega
        · exact (h3 k h).2) (fun i hi=>by rw [yaC (by simpa using hi),ya0 hi])
    subst h5
    subst h6
    exact ⟨q1,zcE q2 (zc1 k2)⟩
end
theorem zih (s:ByteArray) (w:World):Calls prog 156 #[.string s] w fun e w'=>e = .returned (.func (.func 223) #[] #[.pointer (some ⟨w.heap.size,0,none⟩)])∧w'=w.alloc (.cells #[.string s] 9):=by
 go_enter func156,ntmps156
 go_wp2
 go_ret
 exact ⟨rfl,rfl⟩
theorem zii (s:ByteArray):zg prog 156 [.str s] [] (.clo 223 [.ptr 0 0]) [.box [.str s]]:=by
 intro x vs hx hr hp
 obtain ⟨hlen,hp0⟩:=hp
 have hvs:vs=#[.string s]:=by
  cases vs with
  | mk l =>
   match l,hlen with
   | [v],_ =>
    have:=hp0 0 _ v rfl rfl
    rw [this.str_inv]
 subst hvs
 refine (zih s x.w0).mono ?_
 rintro e w' ⟨rfl,rfl⟩
 obtain ⟨vv,w2,C',h1,h2,h3,h4⟩:=Zr.box (r := .ok (.value (.pointer (some ⟨x.w0.heap.size,0,none⟩))) (x.w0.alloc (.cells #[.string s] 9))) hr (cs:=#[.string s]) (cells := [.str s]) 9 rfl (fun j p v hp hv=>by
  match j,hp,hv with
  | 0,hp,hv=>simp at hp hv; subst hp; subst hv; exact ⟨rfl,.pure (.str s)⟩
  | j + 1,hp,hv=>simp at hp) rfl
 rcases h1 with h1 | ⟨h1,-⟩
 ·
  simp only [Result.ok.injEq,Next.value.injEq] at h1
  obtain ⟨e1,e2⟩:=h1
  subst e1; subst e2
  refine ⟨_,C',rfl,h2,?_⟩
  refine .clo 223 [.ptr 0 0] [.pointer (some ⟨x.w0.heap.size,0,none⟩)] rfl fun j p v hp hv=>?_
  match j,hp,hv with
  | 0,hp,hv=>simp at hp hv; subst hp; subst hv; exact h4
  | j + 1,hp,hv=>simp at hp
 ·
  simp at h1
def lc0:LC := .reg none [⟨some 2,.alloc [.nilsl],none,true⟩,⟨some 3,.alloc [.int .i64 0],none,true⟩]
def lc1:LC := .reg none [⟨some 4,.alloc [.nilsl],none,true⟩]
def lc2:LC := .reg none [⟨some 7,.mv (.tmp 0),none,true⟩,⟨some 8,.call 156 [.tmp 7] 0,none,true⟩]
def lc3:List LOper := [⟨some 22,.load 1 false (.tmp 4),none,true⟩,⟨none,.store 1 (.tmp 2) (.tmp 22),none,true⟩,⟨none,.store 1 (.tmp 3) (.val (.int .i64 0)),none,true⟩]
theorem zvf : ∃ (c0 c1 c2 cA cB c3 : Code), f82.body = some (.seq c0 (.seq c1 (.seq (.seq c2 (.block 0 (.rangeFunc (.tmp 8) #[9, 10] cA cB))) (.seq c3 .ret)))) ∧ zq prog 23 c0 = some lc0 ∧ zq prog 23 c1 = some lc1 ∧ zq prog 23 c2 = some lc2 ∧
    zq prog 23 cA=some lcA∧zq prog 23 cB=some lcB∧zq prog 23 c3=some (.reg none lc3) :=
  ⟨_,_,_,_,_,_,rfl,by kernel_rfl,by kernel_rfl,by kernel_rfl,by kernel_rfl,by kernel_rfl,by kernel_rfl⟩
theorem zBf:ZC prog f82.results.toList=some [.cell 2 1 false,.cell 3 1 false]:=by kernel_rfl
section
variable {x:Cx} {n:Nat} {B:Nat→Nat} {L D fn:Nat} {tm:Array Value}
theorem zta {P : Program} {nt : Nat} {c : Code} {lops : List LOper} {st : St} {K : St → Prop} {Q : Exit → Act → World → Prop} {a : Act} {w : World} (hl : zq P nt c = some (.reg none lops)) (h : Zq P lops K st) (hrel : Rel x nt st a w)
    (hk:∀ st' a' w',K st'→Rel x nt st' a' w'→Q .normal a' w'):c.wpIn Fence.wide n P Q a w:=by
  refine wpIn_mono (zo0 (n:=n) (Φ:=fun _=>True) (Q:=fun e a w=>e = .normal∧Q .normal a w) h hrel (fun _ _ _ _ _=>trivial) trivial (fun st' a' w' g1 g2 _=>⟨rfl,hk st' a' w' g1 g2⟩) c hl) fun e a w hq=>?_
  cases e <;> simp only [znO] at hq
  case normal=>exact hq.2
  all_goals first | exact hq.elim | (obtain ⟨h,_⟩:=hq; cases h)
theorem zDT {C:Conc} {H:List AObj} {w:World} {c:List Deferred} (hr:HR x C H w) (hn:2≤C.n) (h2:tm.getD 2 Go.undef = .pointer (some ⟨C.blk 0,0,none⟩)) (h3:tm.getD 3 Go.undef = .pointer (some ⟨C.blk 1,0,none⟩)) (hsz:tm.size=23):Rel x 23 ⟨mkE .top [(3,.ptr 1 0),(2,.ptr 0 0)],H⟩ { tmps:=tm,defers := [] } w:=by
 refine ⟨⟨C,hr,fun t=>?_⟩,rfl,hsz⟩
 simp only [mkE]
 by_cases t3:3=t
 ·
  rw [if_pos t3,← t3,h3]; exact .ptr 1 0 (by omega)
 ·
  rw [if_neg t3]
  by_cases t2:2=t
  ·
   rw [if_pos t2,← t2,h2]; exact .ptr 0 0 (by omega)
  ·
   rw [if_neg t2]; exact .any
theorem zo6 {C : Conc} {H : List AObj} {w : World} {r : PV} (hr : HR x C H w) (hn : 2 ≤ C.n) (h2 : tm.getD 2 Go.undef = .pointer (some ⟨C.blk 0, 0, none⟩)) (h3 : tm.getD 3 Go.undef = .pointer (some ⟨C.blk 1, 0, none⟩)) (hsz : tm.size = 23)
    (hD:w.heap[D]? = some (.deferred (some []))) (hD0:x.w0.heap.size≤D) (hq:zli x 23 [.cell 2 1 false,.cell 3 1 false] r [] .ret ⟨mkE .top [(3,.ptr 1 0),(2,.ptr 0 0)],H⟩) :
    LeavesInM Fence.wide n prog f82 tm (fun e w'=>∃ v C',e = .returned v∧HR x C' [] w'∧RepV (zu x C' [] w') w' C' r v) [{ target := .collected D,args:=#[] }] .returning w:=by
  obtain ⟨hr2,-⟩:=hr.put (r' := .deferred none) hD (fun _ _ _ h=>by cases h) (fun _ _ _ h=>by cases h) hD0
  obtain ⟨v,g1,C',g2,g3⟩:=zve (P:=prog) (fn:=f82) zBf hq (zDT (c := []) hr2 hn h2 h3 hsz)
  exact ⟨by simp,.inl ⟨D,_,rfl,run_takeDeferred hD,⟨v,g1,v,C',rfl,g2,g3⟩⟩⟩
theorem zcO (t:List UInt8) (ht:t.length≤maxLen):zg prog 82 [.str (BA t)] [] (.tup [.list ((zcc t.length t []).1.map cE),.int .i64 (zcc t.length t []).2]) []:=by
 intro x vs hx hr hp
 obtain ⟨hlen,hp0⟩:=hp
 have hvs:vs=#[.string (BA t)]:=by
  cases vs with
  | mk l =>
   match l,hlen with
   | [v],_ =>
    have:=hp0 0 _ v rfl rfl
    rw [this.str_inv]
 subst hvs
 obtain ⟨c0,c1,c2,cA,cB,c3,hbody,l0,l1,l2,lA,lB,l3⟩:=zvf
 refine callsIn_wide.1 (callsIn_of_wp_marks (n:=0) func82 hbody trivial ?_ rfl)
 have hrel0:Rel x 23 ⟨mkE .top [(0,.str (BA t))],[]⟩ { tmps:=#[.string (BA t)] ++ Array.replicate (f82.ntmps - 1) Go.undef,defers := [] } x.w0:=by
  refine ⟨⟨x.C0,hr,fun u=>?_⟩,rfl,by simp [ntmps82]⟩
  simp only [mkE]
  by_cases h:0=u
  ·
   rw [if_pos h,← h,show (#[Value.string (BA t)] ++ Array.replicate (f82.ntmps - 1) Go.undef).getD 0 Go.undef = .string (BA t) by simp]; exact .pure (.str _)
  ·
   rw [if_neg h]; exact .any
 show Code.wpIn Fence.wide 0 prog _ _ { tmps:=#[.string (BA t)] ++ Array.replicate (f82.ntmps - 1) Go.undef,defers := [] } x.w0
 generalize ({ tmps:=#[.string (BA t)] ++ Array.replicate (f82.ntmps - 1) Go.undef,defers := [] }:Act)=a0 at *
 refine wpIn_seq (zta (K:=fun st=>st=⟨mkE .top [(3,.ptr 1 0),(2,.ptr 0 0),(0,.str (BA t))],[.box [.nilsl],.box [.int .i64 0]]⟩) l0 (by simp only [go_sem]) hrel0 ?_)
 intro st1 a1 w1 hst1 hrel1
 subst hst1
 refine wpIn_seq (zta (K:=fun st=>st=⟨mkE .top [(4,.ptr 2 0),(3,.ptr 1 0),(2,.ptr 0 0),(0,.str (BA t))],[.box [.nilsl],.box [.int .i64 0],.box [.nilsl]]⟩) l1 (by simp only [go_sem]) hrel1 ?_)
 intro st2 a2 w2 hst2 hrel2
 subst hst2
 refine wpIn_seq (wpIn_seq (zta (K:=fun st=>st=⟨mkE .top [(8,.clo 223 [.ptr 3 0]),(7,.str (BA t)),(4,.ptr 2 0),(3,.ptr 1 0),(2,.ptr 0 0),(0,.str (BA t))],[.box [.nilsl],.box [.int .i64 0],.box [.nilsl],.box [.str (BA t)]]⟩) l2 ?_ hrel2 ?_))
 ·
  simp only [go_sem]
  refine zc (.heapE [] (r' := .clo 223 [.ptr 3 0]) (H' := [.box [.nilsl],.box [.int .i64 0],.box [.nilsl],.box [.str (BA t)]]) (zii (BA t)) (by simp) (by simp) (by simp [go_sem]) rfl rfl rfl) ?_
  simp only [go_sem]
 intro st3 a3 w3 hst3 hrel3
 subst hst3
 have hrel3:Rel x 23 ⟨mkE .top [(8,.clo 223 [.ptr 3 0]),(7,.str (BA t)),(4,.ptr 2 0),(3,.ptr 1 0),(2,.ptr 0 0),(0,.str (BA t))],hP 0 0 t []⟩ a3 w3:=by
  have:=zX (cells := [.nilsl]) 2 0 0 32 5 true false rfl rfl (by omega) a3 w3 hrel3
  exact this
 obtain ⟨⟨C,hr3,he3⟩,hdf3,hsz3⟩:=hrel3
 have hn3:C.n=5:=hr3.n
 have h2:a3.tmps.getD 2 Go.undef = .pointer (some ⟨C.blk 0,0,none⟩):=(he3 2).ptr_inv.1
 have h3:a3.tmps.getD 3 Go.undef = .pointer (some ⟨C.blk 1,0,none⟩):=(he3 3).ptr_inv.1
 have h4:a3.tmps.getD 4 Go.undef = .pointer (some ⟨C.blk 2,0,none⟩):=(he3 4).ptr_inv.1
 have h8:a3.tmps.getD 8 Go.undef = .func (.func 223) #[] #[.pointer (some ⟨C.blk 3,0,none⟩)]:=by
  obtain ⟨vs,e1,e2,e3⟩:=(he3 8).clo_inv
  match vs,e2,e3 with
  | [u],_,e3 =>
   have:=(e3 0 _ u rfl rfl).ptr_inv.1
   rw [e1,this]
 show Code.wpIn Fence.wide 0 prog (.block 0 (.rangeFunc (.tmp 8) #[9,10] cA cB)) _ a3 w3
 refine wpIn_block (wpIn_rangeFunc fun fn hfn=>?_)
 obtain ⟨W1,hW1⟩:∃ W1,(w3.alloc (.deferred (some []))).alloc (.loop (zfS fn a3.tmps cA cB w3.heap.size .ready none))=W1:=⟨_,rfl⟩
 have hL1:W1.heap[w3.heap.size + 1]? = some (.loop (zfS fn a3.tmps cA cB w3.heap.size .ready none)):=by
  rw [← hW1]; have:=World.alloc_heap_new (w3.alloc (.deferred (some []))) (.loop (zfS fn a3.tmps cA cB w3.heap.size .ready none)); rwa [yba] at this
 have hD1:W1.heap[w3.heap.size]? = some (.deferred (some [])):=by
  rw [← hW1]; exact (Below.heap_alloc _ _ _ (by simp)).trans (World.alloc_heap_new w3 _)
 have hstep:Step w3 W1 fun _=>False:=by
  rw [← hW1]
  refine ⟨by simp; omega,rfl,rfl,rfl,fun b hb _=>?_⟩
  exact (Below.heap_alloc _ _ b (by simp; omega)).trans (Below.heap_alloc _ _ b hb)
 obtain ⟨hr4,-,-⟩:=hr3.grow hstep
 have hx0:=hr3.size
 have hit:=zyW (n:=0 - 1) (fn:=fn) (L:=w3.heap.size + 1) (D:=w3.heap.size) (B:=C.blk) hx lA lB hsz3 h2 h3 h4 (by omega) ht ⟨by simp,⟨C,0,hr4,fun _ _=>rfl⟩,hL1,hD1⟩
 refine ⟨w3.heap.size + 1,[{ target := .collected w3.heap.size,args:=#[] }],W1,{ target := .fn (.func 223) #[.pointer (some ⟨C.blk 3,0,none⟩)],args:=#[.func (.yield (w3.heap.size + 1)) #[] #[]] },W1,223,#[.func (.yield (w3.heap.size + 1)) #[] #[],.pointer (some ⟨C.blk 3,0,none⟩)],W1,?_,?_,fun _ _=>trivial,?_,(fun e=>by cases e),hit.mono ?_⟩
 ·
  rw [← hW1]; exact run_enterLoop_outer _ _ _ _ _
 ·
  have hev:a3.eval (.tmp 8) = .func (.func 223) #[] #[.pointer (some ⟨C.blk 3,0,none⟩)]:=h8
  simp only [resolve,hev]
  simp [go_sem]
 ·
  simp [invoke,go_sem]
 rintro en w4 ⟨⟨u,rfl⟩,(⟨es',hpk,⟨hle,⟨C4,v4,hr5,hb5⟩,hL4,hD4⟩⟩ | ⟨c,r',es',hc,hpk,⟨hle,⟨C4,v4,hr5,hb5⟩,hL4,hD4⟩⟩)⟩
 ·
  refine ⟨none,_,run_endLoop hL4 (by simp [zfS]),?_⟩
  have hn4:C4.n=5:=hr5.n
  obtain ⟨hr6,-⟩:=hr5.loop (r' := { zfS fn a3.tmps cA cB w3.heap.size .ready none with state := .exhausted }) hL4 (by omega)
  have hD5:(w4.putObj (w3.heap.size + 1) (.loop { zfS fn a3.tmps cA cB w3.heap.size .ready none with state := .exhausted })).heap[w3.heap.size]? = some (.deferred (some [])):=(World.putObj_heap_other (by omega)).trans hD4
  show Code.wpIn Fence.wide 0 prog (.seq c3 .ret) _ { tmps:=a3.tmps,defers := [{ target := .collected w3.heap.size,args:=#[] }] ++ a3.defers } (w4.putObj (w3.heap.size + 1) (.loop { zfS fn a3.tmps cA cB w3.heap.size .ready none with state := .exhausted }))
  generalize w4.putObj (w3.heap.size + 1) (.loop { zfS fn a3.tmps cA cB w3.heap.size .ready none with state := .exhausted })=w5 at *
  rw [hdf3,ya6]
  have hlt:w3.heap.size < w5.heap.size:=(yak.1 hD5).1
  obtain ⟨hr7,-⟩:=hr6.root
  have hrel7:Rel (za7 x C4 (hP 0 v4 [] es') w5) 23 ⟨mkE .top [(4,.ptr 2 0),(3,.ptr 1 0),(2,.ptr 0 0)],hP 0 v4 [] es'⟩ { tmps:=a3.tmps,defers := [] } w5:=by
   refine ⟨⟨C4,hr7,fun t=>?_⟩,rfl,hsz3⟩
   simp only [mkE]
   by_cases t4:4=t
   ·
    rw [if_pos t4,← t4,h4,← hb5 2 (by omega)]; exact .ptr 2 0 (by omega)
   ·
    rw [if_neg t4]
    by_cases t3:3=t
    ·
     rw [if_pos t3,← t3,h3,← hb5 1 (by omega)]; exact .ptr 1 0 (by omega)
    ·
     rw [if_neg t3]
     by_cases t2:2=t
     ·
      rw [if_pos t2,← t2,h2,← hb5 0 (by omega)]; exact .ptr 0 0 (by omega)
     ·
      rw [if_neg t2]; exact .any
  refine wpIn_seq (wpIn_mono (znQ (n:=0) (lops:=lc3) (Q:=fun e a w=>e = .normal∧a.defers = [{ target := .collected w3.heap.size,args:=#[] }]∧∃ st',st'=(⟨mkE .top [(22,.arr 4 v4),(4,.ptr 2 0),(3,.ptr 1 0),(2,.ptr 0 0)],[.box [.arr 4 v4],.box [.int .i64 0],.box [.arr 4 v4],.box [.str (BA [])],.arr v4 true false 32 5 (es'.map cE)]⟩:St)∧Rel (za7 x C4 (hP 0 v4 [] es') w5) 23 st' { a with defers := [] } w)
   (fun ops os hl=>zjQ (K:=fun st'=>st'=(⟨mkE .top [(22,.arr 4 v4),(4,.ptr 2 0),(3,.ptr 1 0),(2,.ptr 0 0)],[.box [.arr 4 v4],.box [.int .i64 0],.box [.arr 4 v4],.box [.str (BA [])],.arr v4 true false 32 5 (es'.map cE)]⟩:St)) os lc3 _ ({ tmps:=a3.tmps,defers := [{ target := .collected w3.heap.size,args:=#[] }] }:Act) w5 hl rfl ?_ hrel7 (fun st' a' w' k1 k2 k3=>⟨rfl,rfl,k3,st',k1,k2⟩)) c3 l3) ?_)
  ·
   unfold lc3
   simp only [go_sem,hP]
  ·
   intro e a8 w8 hq
   cases e <;> simp only [znO] at hq
   case normal =>
    obtain ⟨-,hd8,st8,rfl,⟨C8,hr8,he8⟩,-,hsz8⟩:=hq
    have hn8:C8.n=5:=hr8.n
    obtain ⟨hr9,-,hf9⟩:=hr6.unroot hr8
    have hD8:w8.heap[w3.heap.size]? = some (.deferred (some [])):=(hf9 _ hlt fun i ob hi=>hr6.notHeld (fun cs T f h=>by rw [hD5] at h; cases h) hi).trans hD5
    refine wpIn_ret ?_
    show LeavesInM Fence.wide 0 prog f82 a8.tmps _ a8.defers .returning w8
    rw [hd8,hpk]
    refine zo6 hr9 (by omega) (he8 2).ptr_inv.1 (he8 3).ptr_inv.1 hsz8 hD8 (by omega) (zN (ZW 4 rfl) (zd hx ?_))
    simp [go_sem,zt,pos,frz]
   all_goals first | exact hq.elim | (obtain ⟨h,_⟩:=hq; cases h)
 ·
  refine ⟨some .ret,_,run_endLoop hL4 (by simp [zfS]),?_⟩
  have hn4:C4.n=5:=hr5.n
  obtain ⟨hr6,-⟩:=hr5.loop (r' := { zfS fn a3.tmps cA cB w3.heap.size .done (some .ret) with state := .exhausted }) hL4 (by omega)
  refine wpIn_ret ?_
  show LeavesInM Fence.wide 0 prog f82 a3.tmps _ ([{ target := .collected w3.heap.size,args:=#[] }] ++ a3.defers) .returning _
  rw [hdf3,ya6,hpk]
  refine zo6 hr6 (by omega) (by rw [h2,hb5 0 (by omega)]) (by rw [h3,hb5 1 (by omega)]) hsz3 ((World.putObj_heap_other (by omega)).trans hD4) (by omega) (zd hx ?_)
  simp [go_sem,hP]
end
theorem ztb {T:Nat→Nat→Prop} {w:World} {v:Value} {l:List Id} (hT:∀ b o,T b o→b < w.heap.size) (h:RepP T w (.list (l.map cId)) v):zb4 (fun _=>True) w v l:=by
 generalize hr:l.map cId=rows at h
 cases h with
 | list rows a c sz x hc hm hsz hz hl hx =>
  subst hr
  have hlen:(l.map cId).length=l.length:=by simp
  refine ⟨a,c,by rw [hlen],by simpa using hc,hm,fun k hk=>?_⟩
  have hrow:(l.map cId)[k]? = some (cId (nth l k)):=by simp [zk l k hk]
  have h2:sz=2:=by have:=hz (cId (nth l k)) (yaf hrow); simp [cId] at this; omega
  subst h2
  obtain ⟨b,o,e1,e2,e3⟩:=hl k _ 0 (.int .i64 (nth l k).r) hrow rfl
  obtain ⟨b',o',f1,f2,f3⟩:=hl k _ 1 (.int .i64 (nth l k).n) hrow rfl
  rw [e1] at f1; cases f1
  have g0:=hx k _ 0 (.int .i64 (nth l k).r) hrow rfl
  have g1:=hx k _ 1 (.int .i64 (nth l k).n) hrow rfl
  refine ⟨b,o,e1,trivial,hT _ _ e2,?_,?_⟩
  ·
   rw [show o + k * 2=o + k * 2 + 0 by omega,e3,(RepV.pure (C:=⟨0,fun _=>0,fun _=>Go.undef,fun _=>0,fun _ _=>False⟩) g0).int_inv]
  ·
   rw [f3,(RepV.pure (C:=⟨0,fun _=>0,fun _=>Go.undef,fun _=>0,fun _ _=>False⟩) g1).int_inv]
theorem zgM (e:Entry) (ht:e.t.size≤maxLen):zg prog 42 [.agg (cE e)] [] (.tup [.str (BA (zfp e)),.int .i64 (zm e)]) []:=by
 intro x vs hx hr hp
 obtain ⟨hlen,hp0⟩:=hp
 obtain ⟨v,rfl,hv⟩:∃ v,vs=#[v]∧RepV (zu x x.C0 [] x.w0) x.w0 x.C0 (.agg (cE e)) v:=by
  cases vs with
  | mk l =>
   match l,hlen with
   | [v],_=>exact ⟨v,rfl,hp0 0 _ v rfl rfl⟩
 obtain ⟨us,rfl,h1,-,h2⟩:=hv.agg_inv
 match us,h1 with
 | [a,b,c,d,lv],_ =>
  have ea:=(h2 0 _ a rfl rfl).int_inv
  have eb:=(h2 1 _ b rfl rfl).int_inv
  have ec:=(h2 2 _ c rfl rfl).int_inv
  have ed:=(h2 3 _ d rfl rfl).str_inv
  subst ea; subst eb; subst ec; subst ed
  have hl:=ztb (fun b o h=>h.2.1) (h2 4 _ lv rfl rfl).list_inv
  refine (zmn _ e lv x.w0 hl ht).mono fun en w' ⟨he,hb⟩=>?_
  subst he
  have hstep:Step x.w0 w' fun _=>False:=⟨hb.size,hb.os,hb.tape,hb.output,fun b h _=>hb.block b h⟩
  obtain ⟨k1,-,-⟩:=hr.grow hstep
  refine ⟨_,x.C0,rfl,k1,.tup _ [_,_] rfl fun j p u hj hu=>?_⟩
  match j,hj,hu with
  | 0,hj,hu=>simp at hj hu; subst hj; subst hu; exact .pure (.str _)
  | 1,hj,hu=>simp at hj hu; subst hj; subst hu; exact .pure (.int _ _)
  | j + 2,hj,hu=>simp at hu
structure Good (l:List Entry) (c:Int) (out:List Id):Prop where
 once:out.Nodup
 col:∀ x ∈ out,∃ k,k < l.length∧(nth l k).id=x∧zan (nth l k).c c=true
 may:∀ x ∈ out,zhR l c out x=true
 ord:∀ i k,i < k→k < out.length→zaG (z8 (zQ l) l (nth out i)) (nth out k)=false
theorem Good.there {l:List Entry} (h:LogOk l) {c:Int} {out:List Id} (g:Good l c out):∀ x ∈ out,0≤zG l x:=fun x hx=>by
 obtain ⟨k,k1,rfl,-⟩:=g.col x hx
 rw [h.find k1]; omega
def vAt (v0 v1 r:Int):Int:=if r=0 then v0 else v1
def inB (v0 v1:Int) (x:Id):Bool:=decide (x.n≤vAt v0 v1 x.r)
def zkR (l:List Entry) (v0 v1:Int):List Entry:=l.filter fun e=>inB v0 v1 e.id
def okL (l:List Entry) (v0 v1:Int):Bool:=(zkR l v0 v1).all fun e=>e.ls.all (inB v0 v1)
theorem zgt {p:Entry→Bool}:∀ (l:List Entry) (k:Nat),k < (l.filter p).length→∃ i,i < l.length∧nth (l.filter p) k=nth l i∧(l.filter p).take k=(l.take i).filter p∧p (nth l i)=true
 | [],k,h=>by simp at h
 | e :: l,k,h=>by
  cases hp:p e
  ·
   rw [List.filter_cons_of_neg (by simp [hp])] at h ⊢
   obtain ⟨i,h1,h2,h3,h4⟩:=zgt l k h
   refine ⟨i + 1,by simp; omega,?_,?_,?_⟩
   ·
    rw [h2]; simp [nth]
   ·
    rw [h3,ybk,List.filter_cons_of_neg (by simp [hp])]
   ·
    simpa [nth] using h4
  ·
   rw [List.filter_cons_of_pos hp] at h ⊢
   rcases k with _ | k
   ·
    exact ⟨0,by simp,by simp [nth],by simp,by simpa [nth] using hp⟩
   ·
    obtain ⟨i,h1,h2,h3,h4⟩:=zgt l k (by simpa using h)
    refine ⟨i + 1,by simp; omega,?_,?_,?_⟩
    ·
     have:nth (e :: l.filter p) (k + 1)=nth (l.filter p) k:=by simp [nth]
     rw [this,h2]; simp [nth]
    ·
     rw [ybk,h3,ybk,List.filter_cons_of_pos hp]
    ·
     simpa [nth] using h4
theorem zo7 {l:List Entry} {v0 v1:Int} {e:Entry}:e ∈ zkR l v0 v1↔∃ i,i < l.length∧nth l i=e∧inB v0 v1 e.id=true:=by
 unfold zkR
 rw [ya1]
 constructor
 ·
  rintro ⟨h1,h2⟩
  obtain ⟨i,hi,rfl⟩:=yaq h1
  exact ⟨i,hi,zv _ _ hi,h2⟩
 ·
  rintro ⟨i,hi,rfl,h2⟩
  exact ⟨zjB hi,h2⟩
theorem zBg {l:List Entry} (h:LogOk l) {j i:Nat} (hj:j < i) (hi:i < l.length) (hr:(nth l j).id.r=(nth l i).id.r):(nth l j).id.n < (nth l i).id.n:=by
 have h1:=h.num j (by omega)
 have h2:=h.num i hi
 have h3:=zcq l j (nth l j).id.r (by omega)
 rw [if_pos rfl] at h3
 have h4:zax (l.take (j + 1)) (nth l j).id.r≤zax (l.take i) (nth l j).id.r:=List.Sublist.countP_le (List.take_sublist_take_left (by omega))
 rw [hr] at h1 h3 h4
 omega
theorem ztc {l:List Entry} (h:LogOk l) {v0 v1:Int} (ho:okL l v0 v1=true):LogOk (zkR l v0 v1):=by
 have hpos:=fun k hk=>zgt (p:=fun e=>inB v0 v1 e.id) l k hk
 refine ⟨yaP (ybj _ _) h.len,fun k hk=>?_,fun k hk=>?_,fun k hk=>?_,fun k hk=>?_⟩
 all_goals
  obtain ⟨i,h1,h2,h3,h4⟩:=hpos k hk
  unfold zkR
  rw [h2]
 ·
  exact h.chk i h1
 ·
  rw [h3]
  refine zbh.2 fun e he=>zbh.1 (h.new i h1) e (ya1.1 he).1
 ·
  rw [h3]
  have:zax ((l.take i).filter fun e=>inB v0 v1 e.id) (nth l i).id.r=zax (l.take i) (nth l i).id.r:=by
   unfold zax
   rw [List.countP_filter]
   refine List.countP_congr fun e he=>?_
   simp only [yat,decide_eq_true_eq,and_iff_left_iff_imp]
   intro hr
   obtain ⟨j,hj,rfl⟩:=yaq he
   rw [yaz] at hj
   rw [List.getElem_take] at hr ⊢
   rw [← zv l j (by omega)] at hr ⊢
   have:=zBg h (show j < i by omega) h1 hr
   simp only [inB,decide_eq_true_eq] at h4 ⊢
   rw [hr]; omega
  rw [this]
  exact h.num i h1
 ·
  intro x hx
  rw [h3]
  have hin:inB v0 v1 x=true:=by
   have:=yar.1 ho (nth l i) (zo7.2 ⟨i,h1,rfl,h4⟩)
   exact yar.1 this x hx
  have h5:=h.lnk i h1 x hx
  obtain ⟨j,j1,j2,j3⟩:=z7 h5
  have hn:¬ zG ((l.take i).filter fun e=>inB v0 v1 e.id) x < 0:=fun hn =>
   zbh.1 hn (nth (l.take i) j) (ya1.2 ⟨zjB j2,by rw [j3]; exact hin⟩) j3
  omega
def zhg (v0 v1:Int):Int:=if ZI v0 0 20=true∧ZI v1 0 20=true then 0 else 3
theorem zyX {v0 v1:Int}:zhg v0 v1=0↔ZI v0 0 20=true∧ZI v1 0 20=true:=by
 unfold zhg; split <;> simp_all
theorem zbz (v0 v1:Int):zg prog 109 [.agg [.int .i64 v0,.int .i64 v1]] [] (.int .i64 (zhg v0 v1)) []:=by
 refine zg.of_walk func109 ntmps109 zvT.1 zvT.2 (by simp) fun x hx=>?_
 simp only [go_sem,zxQ,zxR]
 refine zy [5,6] 0 (fun n st=>∃ k:Int,((n=2∧k=0)∨(n=1∧k=1∧ZI v0 0 20=true)∨(n=0∧k=2∧ZI v0 0 20=true∧ZI v1 0 20=true)) ∧
  st=⟨mkE .top [(5,.agg [.int .i64 v0,.int .i64 v1]),(6,.int .i64 k)],[]⟩) 2 (by simp [hx]) (by simp) ?_ ?_
 ·
  refine ⟨0,.inl ⟨rfl,rfl⟩,?_⟩
  simp [zh,go_sem,ze,zf,pos]
 ·
  have wr:∀ k:Int,0≤k→k≤5→IntKind.i64.wrap (k + 1)=k + 1:=fun k h1 h2=>IntWalk.i64_in _ (by omega)
  rintro n st ⟨k,hk,rfl⟩
  rcases hk with ⟨rfl,rfl⟩ | ⟨rfl,rfl,h0⟩ | ⟨rfl,rfl,h0,h1⟩
  ·
   by_cases a:v0 < 0
   ·
    simp only [go_sem,a,Int.reduceLT,Int.reduceLE,Int.reduceToNat,yaD,yao,yaO]
    refine zd hx ?_
    have:zhg v0 v1=3:=by unfold zhg; rw [if_neg (by rw [zY]; omega)]
    simp [go_sem,zxQ,zxR,this]
   ·
    by_cases b:20 < v0
    ·
     simp only [go_sem,a,b,Int.reduceLT,Int.reduceLE,Int.reduceToNat,yaD,yao,yaO]
     refine zd hx ?_
     have:zhg v0 v1=3:=by unfold zhg; rw [if_neg (by rw [zY]; omega)]
     simp [go_sem,zxQ,zxR,this]
    ·
     have w1:=wr 0 (by omega) (by omega)
     simp only [go_sem,a,b,w1,Int.reduceLT,Int.reduceLE,Int.reduceToNat,yaD,yao,yaO]
     refine ⟨by simp,1,by omega,1,.inr (.inl ⟨rfl,rfl,by rw [zY]; omega⟩),?_⟩
     simp [zh,go_sem,ze,zf,pos]
  ·
   by_cases a:v1 < 0
   ·
    simp only [go_sem,a,Int.reduceLT,Int.reduceLE,Int.reduceToNat,ych,yao,yaO]
    refine zd hx ?_
    have:zhg v0 v1=3:=by unfold zhg; rw [if_neg (by rw [zY,zY]; omega)]
    simp [go_sem,zxQ,zxR,this]
   ·
    by_cases b:20 < v1
    ·
     simp only [go_sem,a,b,Int.reduceLT,Int.reduceLE,Int.reduceToNat,ych,yao,yaO]
     refine zd hx ?_
     have:zhg v0 v1=3:=by unfold zhg; rw [if_neg (by rw [zY,zY]; omega)]
     simp [go_sem,zxQ,zxR,this]
    ·
     have w1:=wr 1 (by omega) (by omega)
     simp only [go_sem,a,b,w1,Int.reduceLT,Int.reduceLE,Int.reduceToNat,ych,yao,yaO]
     refine ⟨by simp,0,by omega,2,.inr (.inr ⟨rfl,rfl,h0,by rw [zY]; omega⟩),?_⟩
     simp [zh,go_sem,ze,zf,pos]
  ·
   simp only [go_sem,Int.reduceLT]
   refine zd hx ?_
   simp [go_sem,zxQ,zxR,zyX.2 ⟨h0,h1⟩]
theorem zfa (v0 v1:Int) (y:Id) (hr:y.r=0∨y.r=1):zg prog 192 [.agg [.int .i64 v0,.int .i64 v1],.agg (cId y)] [] (.bool (inB v0 v1 y)) []:=by
 refine zg.of_walk func192 ntmps192 zwI.1 zwI.2 (by simp) fun x hx=>?_
 rcases hr with hr | hr
 all_goals
  simp only [go_sem,zDw,zDx,cId,hr,Int.reduceLT,Int.reduceLE,Int.reduceToNat,yaD,ych,yao,yaO]
  refine zd hx ?_
  simp [go_sem,zDw,zDx,inB,vAt,hr]
theorem zjR (a0 a1 b0 b1:Int):zg prog 112 [.agg [.int .i64 a0,.int .i64 a1],.agg [.int .i64 b0,.int .i64 b1]] [] (.bool (decide (a0≤b0∧a1≤b1))) []:=by
 refine zg.of_walk func112 ntmps112 zvV.1 zvV.2 (by simp) fun x hx=>?_
 simp only [go_sem,zAD,zAE]
 refine zy [2,3,6] 2 (fun n st=>∃ k:Int,((n=2∧k=0)∨(n=1∧k=1∧a0≤b0)∨(n=0∧k=2∧a0≤b0∧a1≤b1)) ∧
  st=⟨mkE .top [(2,.ptr 0 0),(3,.ptr 1 0),(6,.int .i64 k)],[.box [.int .i64 a0,.int .i64 a1],.box [.int .i64 b0,.int .i64 b1]]⟩) 2 (by simp [hx]) (by simp) ?_ ?_
 ·
  refine ⟨0,.inl ⟨rfl,rfl⟩,?_⟩
  simp [zh,go_sem,ze,zf,pos,yaa]
 ·
  have wr:∀ k:Int,0≤k→k≤5→IntKind.i64.wrap (k + 1)=k + 1:=fun k h1 h2=>IntWalk.i64_in _ (by omega)
  rintro n st ⟨k,hk,rfl⟩
  rcases hk with ⟨rfl,rfl⟩ | ⟨rfl,rfl,h0⟩ | ⟨rfl,rfl,h0,h1⟩
  ·
   have w1:=wr 0 (by omega) (by omega)
   by_cases a:b0 < a0
   ·
    simp only [go_sem,a,Int.reduceLT,Int.reduceLE,Int.reduceToNat,yaD,yao,yaO]
    refine zd hx ?_
    have:decide (a0≤b0∧a1≤b1)=false:=by simp; omega
    simp [go_sem,zAD,zAE,this]
   ·
    simp only [go_sem,a,w1,Int.reduceLT,Int.reduceLE,Int.reduceToNat,yaD,yao,yaO]
    refine ⟨by simp,1,by omega,1,.inr (.inl ⟨rfl,rfl,by omega⟩),?_⟩
    simp [zh,go_sem,ze,zf,pos,yaa]
  ·
   have w1:=wr 1 (by omega) (by omega)
   by_cases a:b1 < a1
   ·
    simp only [go_sem,a,Int.reduceLT,Int.reduceLE,Int.reduceToNat,ych,yao,yaO]
    refine zd hx ?_
    have:decide (a0≤b0∧a1≤b1)=false:=by simp; omega
    simp [go_sem,zAD,zAE,this]
   ·
    simp only [go_sem,a,w1,Int.reduceLT,Int.reduceLE,Int.reduceToNat,ych,yao,yaO]
    refine ⟨by simp,0,by omega,2,.inr (.inr ⟨rfl,rfl,h0,by omega⟩),?_⟩
    simp [zh,go_sem,ze,zf,pos,yaa]
  ·
   simp only [go_sem,Int.reduceLT]
   refine zd hx ?_
   have:decide (a0≤b0∧a1≤b1)=true:=by simp [h0,h1]
   simp [go_sem,zAD,zAE,this]
/-! method values asked by a function -/
theorem zkS (l : List Id) (g : Nat) (cells : List PV) (p : Id → Bool) (hg : ZU prog g = true) (hl : l.length ≤ 9223372036854775806)
    (hp:∀ e ∈ l,zg prog g [.rptr cells,.agg (cId e)] [] (.bool (p e)) []) :
    zg prog 193 [.list (l.map cId),.clob g [.rptr cells]] [] (.int .i64 (zaC p l 0)) []:=by
  refine zg.of_walk func193 ntmps193 zoC.1 zoC.2 (by simp) fun x hx=>?_
  simp only [go_sem,zx1,zx2]
  refine zy [0,1,7,8] 0 (fun n st=>∃ k:Nat,k + n=l.length∧zaC p (l.drop k) k=zaC p l 0 ∧
    st=⟨mkE .top [(0,.list (l.map cId)),(1,.clob g [.rptr cells]),(7,.int .i64 l.length),(8,.int .i64 k)],[]⟩) l.length (by simp [hx]) (by simp) ?_ ?_
  · refine ⟨0,by omega,by simp,?_⟩
    simp [zh,go_sem,ze,zf,pos]
  · rintro n st ⟨k,hk,hi,rfl⟩
    by_cases hlt:k < l.length
    · have hgt:l[k]? = some (nth l k):=zk _ _ hlt
      have wk:=zM (k:=k) (by omega)
      rw [zaS p l k hlt] at hi
      simp only [go_sem,hlt,hgt,cId]
      refine zrk rfl hg (.pureE (hp (nth l k) (by rw [zv _ _ hlt]; exact yaw hlt)) (by simp [go_sem,cId])) ?_
      cases hpk:p (nth l k)
      · rw [if_neg (by simp [hpk])] at hi
        simp only [go_sem,wk]
        refine ⟨by simp,n - 1,by omega,k + 1,by omega,hi,?_⟩
        simp [zh,go_sem,ze,zf,pos]
      · rw [if_pos hpk] at hi
        simp only [go_sem]
        refine zd hx ?_
        simp [go_sem,zx1,zx2,hi]
    · have:l.drop k = []:=ya2 (by omega)
      rw [this] at hi
      simp only [go_sem,hlt]
      refine zd hx ?_
      simp [go_sem,zx1,zx2,← hi,zaC]
theorem zdy (l : List Id) (g : Nat) (cells : List PV) (p : Id → Bool) (hg : ZU prog g = true) (hl : l.length ≤ 9223372036854775806)
    (hp:∀ e ∈ l,zg prog g [.rptr cells,.agg (cId e)] [] (.bool (p e)) []) :
    zg prog 114 [.list (l.map cId),.clob g [.rptr cells]] [] (.bool (l.any p)) []:=by
  refine zg.of_walk func114 ntmps114 zov.1 zov.2 (by simp) fun x hx=>?_
  simp only [go_sem,zAF,zAG]
  refine zc (.pureE (zkS l g cells p hg hl hp) (by simp [go_sem])) ?_
  simp only [go_sem]
  refine zd hx ?_
  simp [go_sem,zAF,zAG,zcH]
def cCl (c:Int) (pl:List Id):List PV := [.int .i64 c,.list (pl.map cId)]
def Zz (l:List Entry) (c:Int) (pl:List Id) (v0 v1:Int):List PV := [.int .i64 c,.list (pl.map cId),.list (l.map cE),.int .i64 v0,.int .i64 v1]
theorem zmw {l:List Entry} {v0 v1:Int} {k:Nat} (h:k < l.length):zkR (l.take (k + 1)) v0 v1=zkR (l.take k) v0 v1 ++ if inB v0 v1 (nth l k).id then [nth l k] else []:=by
 unfold zkR
 rw [yaE h,yb7,zv _ _ h]
 simp only [List.filter_cons,List.filter_nil]
theorem zvg {l:List Entry} {v0 v1:Int} {k:Nat} (h:k < l.length):okL (l.take (k + 1)) v0 v1=(okL (l.take k) v0 v1 && (!inB v0 v1 (nth l k).id || (nth l k).ls.all (inB v0 v1))):=by
 unfold okL
 rw [zmw h,List.all_append]
 cases inB v0 v1 (nth l k).id <;> simp
theorem zvh (l:List Entry) (v0 v1:Int):(zkR l v0 v1).length≤l.length:=ybj _ _
theorem ztd {l:List Entry} {v0 v1:Int} {k:Nat} (h:k < l.length) (h1:inB v0 v1 (nth l k).id=true) (h2:(nth l k).ls.all (inB v0 v1)=false):okL l v0 v1=false:=by
 cases e:okL l v0 v1
 ·
  rfl
 ·
  have:=yar.1 e (nth l k) (zo7.2 ⟨k,h,rfl,h1⟩)
  rw [h2] at this; cases this
theorem LogOk.link_reg {l:List Entry} (h:LogOk l) {k:Nat} (hk:k < l.length) {y:Id} (hy:y ∈ (nth l k).ls):y.r=0∨y.r=1:=by
 have:=h.link_ok hk hy
 simp only [zcS,yat,zY] at this
 omega
theorem zfV (l:List Entry) (c:Int) (pl:List Id) (v0 v1:Int) (y:Id) (hr:y.r=0∨y.r=1):zg prog 115 [.rptr (Zz l c pl v0 v1),.agg (cId y)] [] (.bool (!inB v0 v1 y)) []:=by
 refine zg.of_walk func115 ntmps115 zvX.1 zvX.2 (by simp) fun x hx=>?_
 simp only [go_sem,zCI,zCJ,cId,Zz]
 refine zc (.pureE (zfa v0 v1 y hr) (by simp [go_sem,cId])) ?_
 simp only [go_sem]
 refine zd hx ?_
 simp [go_sem,zCI,zCJ]
theorem zgN (l : List Entry) (c : Int) (pl : List Id) (v0 v1 : Int) (h : LogOk l) :
    zg prog 111 [.rptr (Zz l c pl v0 v1)] [] (.tup [.list (if okL l v0 v1 then (zkR l v0 v1).map cE else []),.bool (okL l v0 v1)]) []:=by
  have hm:=h.len
  refine zg.of_walk func111 ntmps111 zvU.1 zvU.2 (by simp) fun x hx=>?_
  simp only [go_sem,zBB,zBC,Zz]
  refine zaM (ZR 4 0 32 5 false false rfl (by omega)) ?_
  refine zy [0,4,10,11,12] 1 (fun n st=>∃ k v:Nat,k + n=l.length∧okL (l.take k) v0 v1=true ∧
    st=⟨mkE .top [(0,.rptr (Zz l c pl v0 v1)),(4,.arr 0 v),(10,.list (l.map cE)),(11,.int .i64 l.length),(12,.int .i64 k)],[.arr v false false 32 5 ((zkR (l.take k) v0 v1).map cE)]⟩) l.length (by simp [hx]) (by simp [St.put]) ?_ ?_
  · refine ⟨0,0,by omega,by simp [okL,zkR],?_⟩
    simp [zh,go_sem,ze,zf,pos,yaa,zkR,Zz]
  · rintro n st ⟨k,v,hk,hok,rfl⟩
    by_cases hlt:k < l.length
    · have hg:l[k]? = some (nth l k):=zk _ _ hlt
      have wk:=zM (k:=k) (by omega)
      have hit:=zmw (v0:=v0) (v1:=v1) hlt
      have hot:=zvg (v0:=v0) (v1:=v1) hlt
      have hil:=zvh (l.take k) v0 v1
      rw [yaz] at hil
      have hls:=h.links hlt
      simp only [go_sem,hlt,hg,cE]
      refine zc (.pureE (zfV l c pl v0 v1 (nth l k).id (h.reg _ (zjB hlt))) (by simp [go_sem,cId])) ?_
      cases h1:inB v0 v1 (nth l k).id
      · rw [h1] at hit hot
        simp only [go_sem,wk]
        refine ⟨by simp,n - 1,by omega,k + 1,v,by omega,by rw [hot,hok]; rfl,?_⟩
        simp [zh,go_sem,ze,zf,pos,yaa,hit]
      · rw [h1] at hit hot
        simp only [go_sem,cE]
        refine zc (.pureE (zdy (nth l k).ls 115 (Zz l c pl v0 v1) (fun y => !inB v0 v1 y) (by kernel_rfl) (by omega) (fun y hy=>zfV l c pl v0 v1 y (h.link_reg hlt hy))) (by simp [go_sem])) ?_
        have hany:((nth l k).ls.any fun y => !inB v0 v1 y) = !(nth l k).ls.all (inB v0 v1):=by
          rw [List.any_eq_not_all_not]; simp
        cases h2:(nth l k).ls.all (inB v0 v1)
        · simp only [go_sem,hany,h2]
          refine zd hx ?_
          simp [go_sem,zBB,zBC,ztd hlt h1 h2]
        · simp only [go_sem,hany,h2,cE]
          rw [Zf rfl rfl (by simp) (by simp; omega)]
          simp only [go_sem,wk]
          refine ⟨by simp,n - 1,by omega,k + 1,v + 1,by omega,by rw [hot,hok,h2]; rfl,?_⟩
          simp [zh,go_sem,ze,zf,pos,yaa,hit,cE]
    · have:l.take k=l:=yan (by omega)
      rw [this] at hok
      simp only [go_sem,hlt,this]
      refine zd hx ?_
      simp [go_sem,zBB,zBC,hok,zt,pos]
theorem zcg {n:Int} (h0:0≤n) (h1:n < 256):((byt n).toNat:Int)=n:=by
 have e:n % 256=n:=Int.emod_eq_of_lt h0 h1
 simp only [byt,e,UInt8.toNat_ofNat']
 omega
theorem zqI {n:Int} (h0:0≤n) (h1:n≤1):¬ 1 < byt n:=by
 rw [UInt8.lt_iff_toNat_lt]
 have:=zcg h0 (show n < 256 by omega)
 have e:(1:UInt8).toNat=1:=rfl
 omega
theorem zij {x:Id} (h:zcS x=true):0≤x.r∧x.r≤1∧1≤x.n∧x.n≤20:=by
 simp only [zcS,yat,zY] at h
 omega
theorem zo8 {x:Id} (h:zcS x=true) (r:List UInt8):zgQ (idL x ++ r) = .ok (x,r):=by
 obtain ⟨h1,h2,h3,h4⟩:=zij h
 simp only [idL,yau,yas,zgQ,zqI h1 h2,if_false,zcg h1 (show x.r < 256 by omega),zcg (show 0≤x.n by omega) (show x.n < 256 by omega)]
theorem zjS:∀ {l:List Id},(∀ x ∈ l,zcS x=true)→∀ r,zaQ l.length (l.flatMap idL ++ r) = .ok (l,r)
 | [],_,r=>rfl
 | x :: l,h,r=>by
  simp only [ybx,yax,zaQ,ybb]
  have ih:=zjS (l:=l) (fun y hy=>h y (by simp [hy])) r
  simp only [zo8 (h x (by simp)),ih]
theorem link_ok {e:Id} {ls:List Id} (h:zP (zU e ls) ls.length=0):∀ x ∈ ls,zcS x=true:=by
 intro x hx
 obtain ⟨k,hk,rfl⟩:=yaq hx
 have:=zai.1 h k hk
 rw [← zv ls k hk]
 cases h5:zcS (nth ls k) with
 | true=>rfl
 | false=>simp [zU,h5] at this
theorem znY {e:Entry} (h:zm e=0) (s:List UInt8):Zt (ziD e ++ s) = .ok (e,s):=by
 obtain ⟨h1,h2,h3,h4,h5⟩:=zV h
 obtain ⟨b1,b2,b3,b4⟩:=zij h1
 rw [zY] at h2
 have e1:ziD e ++ s=idL e.id ++ (byt e.c :: byt e.ls.length :: (e.ls.flatMap idL ++ (byt e.t.size :: (e.t.data.toList ++ s)))):=by simp [ziD,zui,idL]
 rw [e1,Zt,zo8 h1]
 have e2:(byt e.ls.length).toNat=e.ls.length:=by have:=zcg (show (0:Int)≤(e.ls.length:Int) by omega) (by omega); omega
 have e3:(byt e.t.size).toNat=e.t.size:=by have:=zcg (show (0:Int)≤(e.t.size:Int) by omega) (by omega); omega
 have e4:e.t.size=e.t.data.toList.length:=by show e.t.data.size=_; simp
 simp only [e2,zjS (link_ok h5),zbC,e3,zcg (show 0≤e.c by omega) (show e.c < 256 by omega)]
 rw [if_neg (by rw [e4]; simp),e4,List.take_left,List.drop_left,zxL]
theorem zo9 (e:Entry):(ziD e).length=5 + 2 * e.ls.length + e.t.size:=by
 have:ziD e=zm9 e e.ls.length ++ (byt e.t.size :: e.t.data.toList):=by simp [ziD,zm9]
 rw [this,yaR,zoo e _ (yag _)]
 have e4:e.t.size=e.t.data.toList.length:=by show e.t.data.size=_; simp
 rw [yax,← e4]; omega
theorem zqJ {e:Entry} (h:zm e=0) (s:List UInt8):Zj (ziD e ++ s)=(e,((ziD e).length:Int),0):=by
 simp only [Zj,z6,znY h,h,if_true,yaR]
 simp
def zik (l:List Entry):Int:=if 40 < l.length then 2 else zP (fun k=>zm (nth l k)) l.length
def pkB (l:List Entry):List UInt8:=l.flatMap ziD
theorem zvi {l:List Entry} {k:Nat} (h:k < l.length):pkB (l.take (k + 1))=pkB (l.take k) ++ ziD (nth l k):=by
 rw [zjC h]; simp [pkB]
theorem zte {e:Entry} (h:zm e=0):(ziD e).length≤29:=by
 rw [zo9]
 have:=zV h
 omega
theorem zyY (l:List Entry) (h:∀ e ∈ l,zm e=0):(pkB l).length≤29 * l.length:=by
 induction l with
 | nil=>simp [pkB]
 | cons e l ih =>
  have h1:=zte (h e ybZ)
  have h2:=ih fun x hx=>h x (ybu _ hx)
  simp only [pkB,ybx,yaR,yax] at h2 ⊢
  omega
theorem zBh {l:List Entry} {k:Nat} (hk:k≤l.length) (hz:zP (fun k=>zm (nth l k)) k=0):∀ e ∈ l.take k,zm e=0:=fun e he=>by
 rw [ybH] at he
 obtain ⟨j,hj,rfl⟩:=he
 have:=zai.1 hz j (by omega)
 rwa [zv _ _ (by omega)] at this
theorem zi1 (e:Entry) (ht:e.t.size≤12) (h6:e.ls.length≤6):zg prog 123 [.agg (cE e)] [] (.str (BA (ziD e))) []:=by
 intro x vs hx hr hp
 obtain ⟨hlen,hp0⟩:=hp
 obtain ⟨v,rfl,hv⟩:∃ v,vs=#[v]∧RepV (zu x x.C0 [] x.w0) x.w0 x.C0 (.agg (cE e)) v:=by
  cases vs with
  | mk l =>
   match l,hlen with
   | [v],_=>exact ⟨v,rfl,hp0 0 _ v rfl rfl⟩
 obtain ⟨us,rfl,h1,-,h2⟩:=hv.agg_inv
 match us,h1 with
 | [a,b,c,d,lv],_ =>
  have ea:=(h2 0 _ a rfl rfl).int_inv
  have eb:=(h2 1 _ b rfl rfl).int_inv
  have ec:=(h2 2 _ c rfl rfl).int_inv
  have ed:=(h2 3 _ d rfl rfl).str_inv
  subst ea; subst eb; subst ec; subst ed
  have hl:=ztb (fun b o h=>h.2.1) (h2 4 _ lv rfl rfl).list_inv
  refine (zig _ e lv x.w0 hl ht h6).mono fun en w' ⟨he,hb⟩=>?_
  subst he
  have hstep:Step x.w0 w' fun _=>False:=⟨hb.size,hb.os,hb.tape,hb.output,fun b h _=>hb.block b h⟩
  obtain ⟨k1,-,-⟩:=hr.grow hstep
  exact ⟨_,x.C0,rfl,k1,.pure (.str _)⟩
theorem zi2 (l:List Entry) (hl:l.length≤1000000000000000):zg prog 81 [.list (l.map cE)] [] (.tup [.str (BA (if zik l=0 then pkB l else [])),.int .i64 (zik l)]) []:=by
 refine zg.of_walk func81 ntmps81 zAd.1 zAd.2 (by simp) fun x hx=>?_
 by_cases h40:(40:Int) < (l.length:Int)
 ·
  have e:zik l=2:=by rw [zik,if_pos (by omega)]
  simp only [go_sem,L81,R81,h40]
  refine zd hx ?_
  simp [go_sem,L81,R81,e,BA]
 ·
  have e:zik l=zP (fun k=>zm (nth l k)) l.length:=by rw [zik,if_neg (by omega)]
  simp only [go_sem,L81,R81,h40]
  refine zy [4,11,12,13] 0 (fun m st=>∃ k:Nat,k + m=l.length∧zP (fun k=>zm (nth l k)) k=0 ∧
   st=⟨mkE .top [(4,.str (BA (pkB (l.take k)))),(11,.list (l.map cE)),(12,.int .i64 l.length),(13,.int .i64 k)],[]⟩) l.length (by simp [hx]) (by simp) ?_ ?_
  ·
   refine ⟨0,by omega,rfl,?_⟩
   simp [zh,go_sem,ze,zf,pos,yaa,pkB,BA]
  ·
   rintro m st ⟨k,hk,hz,rfl⟩
   by_cases hlt:k < l.length
   ·
    have hg:l[k]? = some (nth l k):=zk _ _ hlt
    have wk:=zM (k:=k) (by omega)
    simp only [go_sem,hlt,hg,cE]
    refine zc (.pureE (ze0 (nth l k)) (by simp [go_sem,cE])) ?_
    by_cases h1:zm (nth l k)=0
    ·
     have hb:=zV h1
     have hp:=zyY _ (zBh (by omega) hz)
     have hle:=zte h1
     have htl:(l.take k).length=k:=by rw [yaz]; omega
     rw [htl] at hp
     have hsz:((pkB (l.take k)).length + (ziD (nth l k)).length≤4611686018427387904)=True:=eq_true (by omega)
     simp only [go_sem,h1,cE]
     refine zc (.pureE (zi1 (nth l k) (by omega) (by omega)) (by simp [go_sem,cE])) ?_
     simp only [go_sem,zvL,zcT,hsz,wk]
     refine ⟨by simp,m - 1,by omega,k + 1,by omega,Zv hz h1,?_⟩
     simp [zh,go_sem,ze,zf,pos,yaa,zvi hlt]
    ·
     have e2:zik l=zm (nth l k):=by rw [e,Zg hz h1 hlt]
     simp only [go_sem,h1]
     refine zd hx ?_
     simp [go_sem,L81,R81,e2,h1,BA]
   ·
    obtain rfl:k=l.length:=by omega
    simp only [go_sem,hlt]
    refine zd hx ?_
    simp [go_sem,L81,R81,e,hz]
def zil (l:List Entry) (v0 v1:Int):List Entry:=l.filter fun e => !inB v0 v1 e.id
theorem zmx {l:List Entry} {v0 v1:Int} {k:Nat} (h:k < l.length):zil (l.take (k + 1)) v0 v1=zil (l.take k) v0 v1 ++ if inB v0 v1 (nth l k).id then [] else [nth l k]:=by
 rw [zjC h,zil,yb7]
 cases hb:inB v0 v1 (nth l k).id <;> simp [zil,hb]
theorem zpa (l:List Entry) (v0 v1:Int):(zil l v0 v1).length≤l.length:=ybj _ _
def hM (v0 v1:Int) (v:Nat) (es:List Entry):List AObj := [.box [.int .i64 v0,.int .i64 v1],.box [.arr 2 v],.arr v true false 32 5 (es.map cE)]
theorem znZ (v0 v1 : Int) (v : Nat) (es : List Entry) (e : Entry) (hr : e.id.r = 0 ∨ e.id.r = 1) (hls : e.ls.length ≤ 1000000) (hl : es.length ≤ 1000000) :
    zg prog 191 [.agg (cE e),.ptr 0 0,.ptr 1 0] (hM v0 v1 v es) (.tup []) (hM v0 v1 (if inB v0 v1 e.id then v else v + 1) (es ++ if inB v0 v1 e.id then [] else [e])):=by
  refine zg.of_walk func191 ntmps191 zoB.1 zoB.2 (by simp) fun x hx=>?_
  simp only [go_sem,zxZ,zx0,hM,cE]
  refine zc (.pureE (zfa v0 v1 e.id hr) (by simp [go_sem,cId])) ?_
  cases hb:inB v0 v1 e.id
  · simp only [go_sem,cE]
    refine zc (.pureE (zlW e hls) (by simp [go_sem,cE])) ?_
    simp only [go_sem,cE]
    rw [Zf rfl rfl (by simp) (by simp; omega)]
    simp only [go_sem]
    repeat refine ⟨rfl,?_⟩
    try simp only [go_sem]
    refine zhc [] (by simp) (by simp) (by simp [hx,hM]) ?_ ?_
    · simp [go_sem,zxZ,zx0,hx,pos,hM]
    · simp [ze,zf,zn,zp,hx,pos,go_sem,hM,yaa,cE]
  · simp only [go_sem]
    refine zhc [] (by simp) (by simp) (by simp [hx,hM]) ?_ ?_
    · simp [go_sem,zxZ,zx0,hx,pos,hM]
    · simp [ze,zf,zn,zp,hx,pos,go_sem,hM,yaa]
theorem zqK (l:List Entry) (v0 v1:Int) (hl:l.length≤1000000) (h:zDP l):zg prog 110 [.list (l.map cE),.agg [.int .i64 v0,.int .i64 v1]] [] (.list ((zil l v0 v1).map cE)) []:=by
 refine zg.of_walk func110 ntmps110 zou.1 zou.2 (by simp) fun x hx=>?_
 simp only [go_sem,zAB,zAC]
 refine zaM (zX 1 0 0 32 5 true false rfl rfl (by omega)) ?_
 refine zy [5,6,10,11,12] 3 (fun m st=>∃ k v:Nat,k + m=l.length ∧
  st=⟨mkE .top [(5,.ptr 1 0),(6,.clo 191 [.ptr 0 0,.ptr 1 0]),(10,.list (l.map cE)),(11,.int .i64 l.length),(12,.int .i64 k)],hM v0 v1 v (zil (l.take k) v0 v1)⟩) l.length (by simp [hx]) (by simp) ?_ ?_
 ·
  refine ⟨0,0,by omega,?_⟩
  simp [zh,go_sem,ze,zf,zn,zp,pos,yaa,zil,hM,zdA,ren]
 ·
  rintro m st ⟨k,v,hk,rfl⟩
  by_cases hlt:k < l.length
  ·
   have hg:l[k]? = some (nth l k):=zk _ _ hlt
   have wk:=zM (k:=k) (by omega)
   have hs:=zmx (v0:=v0) (v1:=v1) hlt
   have hle:=zpa (l.take k) v0 v1
   have htl:(l.take k).length≤k:=by rw [yaz]; omega
   have hf:=h _ (zjB hlt)
   have hcall:=znZ v0 v1 v (zil (l.take k) v0 v1) (nth l k) hf.1 hf.2 (by omega)
   rw [show zil (l.take k) v0 v1 ++ (if inB v0 v1 (nth l k).id then [] else [nth l k])=zil (l.take (k + 1)) v0 v1 from hs.symm] at hcall
   generalize (if inB v0 v1 (nth l k).id then v else v + 1)=v' at hcall
   simp only [go_sem,hlt,hg,cE,hM]
   refine Zm rfl (by kernel_rfl) (.heapE [0,1,2] (r' := .tup []) (H':=hM v0 v1 v' (zil (l.take (k + 1)) v0 v1) ++ [.box (cE (nth l k))]) hcall (by simp) (by simp) (by simp [go_sem,pos,cE]) ?_ ?_ ?_) ?_
   ·
    simp [ze,zf,zn,zp,pos,hM]
   ·
    simp [zdA,ren]
   ·
    simp [ZN,zS,zT,ZV,Zh,zf,zn,zp,pos,yaa,hM,cE]
   simp only [go_sem,hM,wk,yau,yas]
   refine ⟨by simp,m - 1,by omega,k + 1,v',by omega,?_⟩
   simp [zh,go_sem,ze,zf,zn,zp,pos,yaa,hM,zdA,ren]
  ·
   have htk:l.take k=l:=yan (by omega)
   rw [htk]
   simp only [go_sem,hlt,hM]
   refine zN (ZW 2 rfl) ?_
   refine zd hx ?_
   simp [go_sem,zAB,zAC,zt,pos]
def zcx (l:List Entry) (v0 v1:Int):Int:=if zJ l=0 then zhg v0 v1 else zJ l
theorem zkT (l:List Entry) (v0 v1:Int) (hl:l.length≤1000000000000000):zg prog 36 [.list (l.map cE),.agg [.int .i64 v0,.int .i64 v1]] [] (.tup [.list ((if zcx l v0 v1=0 then zil l v0 v1 else []).map cE),.int .i64 (zcx l v0 v1)]) []:=by
 refine zg.of_walk func36 ntmps36 zup.1 zup.2 (by simp) fun x hx=>?_
 simp only [go_sem,L36,R36]
 refine zc (.pureE (ZD l (by omega)) (by simp [go_sem])) ?_
 by_cases h1:zJ l=0
 ·
  have hok:=zaE.1 h1
  have hlen:=hok.len
  simp only [go_sem,h1]
  refine zc (.pureE (zbz v0 v1) (by simp [go_sem])) ?_
  have e:zcx l v0 v1=zhg v0 v1:=by rw [zcx,if_pos h1]
  by_cases h2:zhg v0 v1=0
  ·
   simp only [go_sem,h2]
   refine zc (.pureE (zqK l v0 v1 (by omega) (zsc hok)) (by simp [go_sem])) ?_
   simp only [go_sem]
   refine zd hx ?_
   simp [go_sem,L36,R36,e,h2]
  ·
   simp only [go_sem,h2]
   refine zd hx ?_
   simp [go_sem,L36,R36,e,h2]
 ·
  have e:zcx l v0 v1=zJ l:=by rw [zcx,if_neg h1]
  simp only [go_sem,h1]
  refine zd hx ?_
  simp [go_sem,L36,R36,e,h1]
theorem ztf {x:Cx} {nt:Nat} {st st1 st2:St} (h:st=st1) (hw:za3 x nt st1 st2):za3 x nt st st2:=h ▸ hw
theorem zcd (l:List Entry) (c:Int) (pl:List Id) (hl:l.length≤9223372036854775806) (hb:pl.length≤9223372036854775806):zg prog 84 [.list (l.map cE),.agg (cCl c pl)] [] (.int .i64 (zx l c pl)) []:=by
 refine zg.of_walk func84 ntmps84 zAf.1 zAf.2 (by simp) fun x hx=>?_
 simp only [go_sem,L84,R84,cCl]
 refine zc (.pureE (ze4 l c pl hl hb) (by simp [go_sem])) ?_
 simp only [go_sem]
 refine zd hx ?_
 simp [go_sem,L84,R84]
theorem ztg {l:List Entry} {pl:List Id} (h:LogOk l) (hs:zae l pl=0) {y:Id} (hy:y ∈ pl):y.r=0∨y.r=1:=by
 obtain ⟨k,k1,k2,k3⟩:=z7 ((zgi.1 hs).there y hy)
 rw [← k3]; exact h.reg _ (zjB k2)
def ZA (l:List Entry) (c:Int) (pl:List Id) (v0 v1:Int):Int :=
 if zx l c pl≠0 then zx l c pl else if zhg v0 v1≠0 then zhg v0 v1
 else if (okL l v0 v1 && decide (v0≤(zax l 0:Int)∧v1≤(zax l 1:Int)) && pl.all (inB v0 v1))=true then 0 else 4
def zcX (l:List Entry) (c:Int) (pl:List Id) (v0 v1:Int):Int:=if ZA l c pl v0 v1=0 then c else 0
def zcY (l:List Entry) (c:Int) (pl:List Id) (v0 v1:Int):List Id:=if ZA l c pl v0 v1=0 then zf1 (zkR l v0 v1) c pl else []
theorem zgu (l : List Entry) (c : Int) (pl : List Id) (v0 v1 : Int) (hl : l.length ≤ 9223372036854775806) (hb : pl.length ≤ 9223372036854775806) :
    zg prog 37 [.list (l.map cE),.agg (cCl c pl),.agg [.int .i64 v0,.int .i64 v1]] [] (.tup [.agg (cCl (zcX l c pl v0 v1) (zcY l c pl v0 v1)),.int .i64 (ZA l c pl v0 v1)]) []:=by
  refine zg.of_parts func37 ntmps37 zuq.1 zuq.2 (by simp) fun x hx=>?_
  simp only [LC.flat,L37,R37,yau,yas]
  refine zhA 7 [0,4,5,6,9] 4 (fun st=>zx l c pl=0∧zhg v0 v1=0 ∧
    st=⟨mkE .top [(0,.list (l.map cE)),(4,.ptr 0 0),(5,.ptr 1 0),(6,.ptr 2 0),(9,.rptr (Zz l c pl v0 v1))],[.box (cCl c pl),.box [.int .i64 v0,.int .i64 v1],.box [.int .i64 0,.nilsl],.gone]⟩) (by simp [hx]) (by simp) ?_ ?_
  · simp only [go_sem,L37,R37,ybk,List.take_zero,cCl]
    refine zc (.pureE (zcd l c pl hl hb) (by simp [go_sem,cCl])) ?_
    by_cases h0:zx l c pl=0
    · simp only [go_sem,h0]
      refine zc (.pureE (zbz v0 v1) (by simp [go_sem])) ?_
      by_cases h1:zhg v0 v1=0
      · simp only [go_sem,h1]
        rw [zcl]
        refine ⟨by simp,_,?_,rfl⟩
        have e:=zbE (x:=x) (nt:=59) (st:=⟨mkE .top [(0,.list (l.map cE)),(4,.ptr 0 0),(5,.ptr 1 0),(6,.ptr 2 0),(9,.ptr 3 0)],[.box (cCl c pl),.box [.int .i64 v0,.int .i64 v1],.box [.int .i64 0,.nilsl],.box (Zz l c pl v0 v1)]⟩) (cells':=Zz l c pl v0 v1) (H' := [.box (cCl c pl),.box [.int .i64 v0,.int .i64 v1],.box [.int .i64 0,.nilsl],.gone]) 9 3 rfl rfl (by simp [Zz,frz]) (by simp [Zz,PV.isPure]) rfl
        have e2 : (St.put ⟨mkE .top [(0, .list (l.map cE)), (4, .ptr 0 0), (5, .ptr 1 0), (6, .ptr 2 0), (9, .ptr 3 0)], [.box (cCl c pl), .box [.int .i64 v0, .int .i64 v1], .box [.int .i64 0, .nilsl], .box (Zz l c pl v0 v1)]⟩ (some 9) (.rptr (Zz l c pl v0 v1)) [.box (cCl c pl), .box [.int .i64 v0, .int .i64 v1], .box [.int .i64 0, .nilsl], .gone]) =
            ⟨mkE .top [(0,.list (l.map cE)),(4,.ptr 0 0),(5,.ptr 1 0),(6,.ptr 2 0),(9,.rptr (Zz l c pl v0 v1))],[.box (cCl c pl),.box [.int .i64 v0,.int .i64 v1],.box [.int .i64 0,.nilsl],.gone]⟩:=by
          simp only [St.put,St.mk.injEq,and_true]
          funext t
          by_cases e9:t=9
          · subst e9; simp [mkE]
          · simp only [mkE,yae]
            rw [if_neg (fun h=>e9 h.symm)]
            repeat' split
            all_goals first | rfl | omega
        rw [e2] at e
        refine ztf ?_ e
        simp [zh,go_sem,ze,zf,pos,yaa,cCl,Zz]
      · simp only [go_sem,h1]
        refine zd hx ?_
        have:ZA l c pl v0 v1=zhg v0 v1:=by simp [ZA,h0,h1]
        simp [go_sem,L37,R37,zcX,zcY,this,h1,cCl]
    · simp only [go_sem,h0]
      refine zd hx ?_
      have:ZA l c pl v0 v1=zx l c pl:=by simp [ZA,h0]
      simp [go_sem,L37,R37,zcX,zcY,this,h0,cCl]
  · rintro st ⟨h0,h1,rfl⟩
    refine zaz ?_
    obtain ⟨g0,g1,g2,-,-⟩:=zds h0
    have hok:=zaE.1 g0
    have hm:=hok.len
    have hpl:=zcJ hok g1
    simp only [go_sem,L37,R37,yaJ,yaY]
    refine zc (.pureE (zgN l c pl v0 v1 hok) (by simp [go_sem])) ?_
    have bad:(okL l v0 v1 && decide (v0≤(zax l 0:Int)∧v1≤(zax l 1:Int)) && pl.all (inB v0 v1))=false→ZA l c pl v0 v1=4:=fun h=>by
      rw [ZA,if_neg (by simp [h0]),if_neg (by simp [h1]),if_neg (by rw [h]; simp)]
    cases h2:okL l v0 v1
    · simp only [go_sem]
      refine zd hx ?_
      simp [go_sem,L37,R37,zcX,zcY,bad (by rw [h2]; rfl),cCl]
    · simp only [go_sem]
      refine zc (.pureE (zc7 l hok.reg (by omega)) (by simp [go_sem])) ?_
      simp only [go_sem]
      refine zc (.pureE (zjR v0 v1 (zax l 0) (zax l 1)) (by simp [go_sem])) ?_
      cases h3:decide (v0≤(zax l 0:Int)∧v1≤(zax l 1:Int))
      · simp only [go_sem,cCl]
        refine zd hx ?_
        simp [go_sem,L37,R37,zcX,zcY,bad (by rw [h2,h3]; rfl),cCl]
      · simp only [go_sem,cCl]
        refine zc (.pureE (zdy pl 115 (Zz l c pl v0 v1) (fun y => !inB v0 v1 y) (by kernel_rfl) hb (fun y hy=>zfV l c pl v0 v1 y (ztg hok g1 hy))) (by simp [go_sem])) ?_
        have hany:(pl.any fun y => !inB v0 v1 y) = !pl.all (inB v0 v1):=by
          rw [List.any_eq_not_all_not]; simp
        cases h4:pl.all (inB v0 v1)
        · simp only [go_sem,hany,h4]
          refine zd hx ?_
          simp [go_sem,L37,R37,zcX,zcY,bad (by rw [h2,h3,h4]; rfl),cCl]
        · have good:ZA l c pl v0 v1=0:=by
            rw [ZA,if_neg (by simp [h0]),if_neg (by simp [h1]),if_pos (by rw [h2,h3,h4]; rfl)]
          have hM:=ztc hok h2
          simp only [go_sem,hany,h4,cCl]
          refine zc (.pureE (zlS (zkR l v0 v1) c pl hM g2 (by omega)) (by simp [go_sem])) ?_
          simp only [go_sem]
          repeat refine ⟨rfl,?_⟩
          refine zd hx ?_
          simp [go_sem,L37,R37,zcX,zcY,good,cCl]
def zDU (c:Int) (pl:List Id):List PV := [.int .i64 c,.oll (pl.map cId)]
theorem zmy (v0 v1 : Int) (v : Nat) (es : List Entry) (e : Entry) (hr : e.id.r = 0 ∨ e.id.r = 1) (hls : e.ls.length ≤ 1000000) (hl : es.length ≤ 1000000) :
    zg prog 191 [.agg (cEo e),.ptr 0 0,.ptr 1 0] (hM v0 v1 v es) (.tup []) (hM v0 v1 (if inB v0 v1 e.id then v else v + 1) (es ++ if inB v0 v1 e.id then [] else [e])):=by
  refine zg.of_walk func191 ntmps191 zoB.1 zoB.2 (by simp) fun x hx=>?_
  simp only [go_sem,zxZ,zx0,hM,cEo]
  refine zc (.pureE (zfa v0 v1 e.id hr) (by simp [go_sem,cId])) ?_
  cases hb:inB v0 v1 e.id
  · simp only [go_sem,cEo]
    refine zc (.pureE (zku e hls) (by simp [go_sem,cEo])) ?_
    simp only [go_sem,cE]
    rw [Zf rfl rfl (by simp) (by simp; omega)]
    simp only [go_sem]
    repeat refine ⟨rfl,?_⟩
    try simp only [go_sem]
    refine zhc [] (by simp) (by simp) (by simp [hx,hM]) ?_ ?_
    · simp [go_sem,zxZ,zx0,hx,pos,hM]
    · simp [ze,zf,zn,zp,hx,pos,go_sem,hM,yaa,cE]
  · simp only [go_sem]
    refine zhc [] (by simp) (by simp) (by simp [hx,hM]) ?_ ?_
    · simp [go_sem,zxZ,zx0,hx,pos,hM]
    · simp [ze,zf,zn,zp,hx,pos,go_sem,hM,yaa]
theorem zn0 (l:List Entry) (v0 v1:Int) (hl:l.length≤1000000) (h:zDP l):zg prog 110 [.oll (l.map cE),.agg [.int .i64 v0,.int .i64 v1]] [] (.list ((zil l v0 v1).map cE)) []:=by
 refine zg.of_walk func110 ntmps110 zou.1 zou.2 (by simp) fun x hx=>?_
 simp only [go_sem,zAB,zAC]
 refine zaM (zX 1 0 0 32 5 true false rfl rfl (by omega)) ?_
 refine zy [5,6,10,11,12] 3 (fun m st=>∃ k v:Nat,k + m=l.length ∧
  st=⟨mkE .top [(5,.ptr 1 0),(6,.clo 191 [.ptr 0 0,.ptr 1 0]),(10,.oll (l.map cE)),(11,.int .i64 l.length),(12,.int .i64 k)],hM v0 v1 v (zil (l.take k) v0 v1)⟩) l.length (by simp [hx]) (by simp) ?_ ?_
 ·
  refine ⟨0,0,by omega,?_⟩
  simp [zh,go_sem,ze,zf,zn,zp,pos,yaa,zil,hM,zdA,ren]
 ·
  rintro m st ⟨k,v,hk,rfl⟩
  by_cases hlt:k < l.length
  ·
   have hg:l[k]? = some (nth l k):=zk _ _ hlt
   have wk:=zM (k:=k) (by omega)
   have hs:=zmx (v0:=v0) (v1:=v1) hlt
   have hle:=zpa (l.take k) v0 v1
   have htl:(l.take k).length≤k:=by rw [yaz]; omega
   have hf:=h _ (zjB hlt)
   have hcall:=zmy v0 v1 v (zil (l.take k) v0 v1) (nth l k) hf.1 hf.2 (by omega)
   rw [show zil (l.take k) v0 v1 ++ (if inB v0 v1 (nth l k).id then [] else [nth l k])=zil (l.take (k + 1)) v0 v1 from hs.symm] at hcall
   generalize (if inB v0 v1 (nth l k).id then v else v + 1)=v' at hcall
   simp only [go_sem,hlt,hg,cE,hM]
   refine Zm rfl (by kernel_rfl) (.heapE [0,1,2] (r' := .tup []) (H':=hM v0 v1 v' (zil (l.take (k + 1)) v0 v1) ++ [.box (cEo (nth l k))]) hcall (by simp) (by simp) (by simp [go_sem,pos,cEo]) ?_ ?_ ?_) ?_
   ·
    simp [ze,zf,zn,zp,pos,hM]
   ·
    simp [zdA,ren]
   ·
    simp [ZN,zS,zT,ZV,Zh,zf,zn,zp,pos,yaa,hM,cEo]
   simp only [go_sem,hM,wk,yau,yas]
   refine ⟨by simp,m - 1,by omega,k + 1,v',by omega,?_⟩
   simp [zh,go_sem,ze,zf,zn,zp,pos,yaa,hM,zdA,ren]
  ·
   have htk:l.take k=l:=yan (by omega)
   rw [htk]
   simp only [go_sem,hlt,hM]
   refine zN (ZW 2 rfl) ?_
   refine zd hx ?_
   simp [go_sem,zAB,zAC,zt,pos]
theorem zi3 (l:List Entry) (v0 v1:Int) (hl:l.length≤1000000000000000):zg prog 36 [.oll (l.map cE),.agg [.int .i64 v0,.int .i64 v1]] [] (.tup [.list ((if zcx l v0 v1=0 then zil l v0 v1 else []).map cE),.int .i64 (zcx l v0 v1)]) []:=by
 refine zg.of_walk func36 ntmps36 zup.1 zup.2 (by simp) fun x hx=>?_
 simp only [go_sem,L36,R36]
 refine zc (.pureE (zbp l (by omega)) (by simp [go_sem])) ?_
 by_cases h1:zJ l=0
 ·
  have hok:=zaE.1 h1
  have hlen:=hok.len
  simp only [go_sem,h1]
  refine zc (.pureE (zbz v0 v1) (by simp [go_sem])) ?_
  have e:zcx l v0 v1=zhg v0 v1:=by rw [zcx,if_pos h1]
  by_cases h2:zhg v0 v1=0
  ·
   simp only [go_sem,h2]
   refine zc (.pureE (zn0 l v0 v1 (by omega) (zsc hok)) (by simp [go_sem])) ?_
   simp only [go_sem]
   refine zd hx ?_
   simp [go_sem,L36,R36,e,h2]
  ·
   simp only [go_sem,h2]
   refine zd hx ?_
   simp [go_sem,L36,R36,e,h2]
 ·
  have e:zcx l v0 v1=zJ l:=by rw [zcx,if_neg h1]
  simp only [go_sem,h1]
  refine zd hx ?_
  simp [go_sem,L36,R36,e,h1]
theorem zn1 (l : List Entry) (c : Int) (pl : List Id) (v0 v1 : Int) (hl : l.length ≤ 9223372036854775806) (hb : pl.length ≤ 9223372036854775806) :
    zg prog 37 [.oll (l.map cE),.agg (zDU c pl),.agg [.int .i64 v0,.int .i64 v1]] [] (.tup [.agg (cCl (zcX l c pl v0 v1) (zcY l c pl v0 v1)),.int .i64 (ZA l c pl v0 v1)]) []:=by
  refine zg.of_freshL func37 ntmps37 zuq.1 zuq.2 (by simp) fun x hx=>?_
  simp only [LC.flat,L37,R37,yau,yas,unO,zxN,zDU,yaA,ya3]
  refine zhA 7 [0,4,5,6,9] 4 (fun st=>zx l c pl=0∧zhg v0 v1=0 ∧
    st=⟨mkE .top [(0,.list (l.map cE)),(4,.ptr 0 0),(5,.ptr 1 0),(6,.ptr 2 0),(9,.rptr (Zz l c pl v0 v1))],[.box (cCl c pl),.box [.int .i64 v0,.int .i64 v1],.box [.int .i64 0,.nilsl],.gone]⟩) (by simp [hx]) (by simp) ?_ ?_
  · simp only [go_sem,L37,R37,ybk,List.take_zero,cCl]
    refine zc (.pureE (zcd l c pl hl hb) (by simp [go_sem,cCl])) ?_
    by_cases h0:zx l c pl=0
    · simp only [go_sem,h0]
      refine zc (.pureE (zbz v0 v1) (by simp [go_sem])) ?_
      by_cases h1:zhg v0 v1=0
      · simp only [go_sem,h1]
        rw [zcl]
        refine ⟨by simp,_,?_,rfl⟩
        have e:=zbE (x:=x) (nt:=59) (st:=⟨mkE .top [(0,.list (l.map cE)),(4,.ptr 0 0),(5,.ptr 1 0),(6,.ptr 2 0),(9,.ptr 3 0)],[.box (cCl c pl),.box [.int .i64 v0,.int .i64 v1],.box [.int .i64 0,.nilsl],.box (Zz l c pl v0 v1)]⟩) (cells':=Zz l c pl v0 v1) (H' := [.box (cCl c pl),.box [.int .i64 v0,.int .i64 v1],.box [.int .i64 0,.nilsl],.gone]) 9 3 rfl rfl (by simp [Zz,frz]) (by simp [Zz,PV.isPure]) rfl
        have e2 : (St.put ⟨mkE .top [(0, .list (l.map cE)), (4, .ptr 0 0), (5, .ptr 1 0), (6, .ptr 2 0), (9, .ptr 3 0)], [.box (cCl c pl), .box [.int .i64 v0, .int .i64 v1], .box [.int .i64 0, .nilsl], .box (Zz l c pl v0 v1)]⟩ (some 9) (.rptr (Zz l c pl v0 v1)) [.box (cCl c pl), .box [.int .i64 v0, .int .i64 v1], .box [.int .i64 0, .nilsl], .gone]) =
            ⟨mkE .top [(0,.list (l.map cE)),(4,.ptr 0 0),(5,.ptr 1 0),(6,.ptr 2 0),(9,.rptr (Zz l c pl v0 v1))],[.box (cCl c pl),.box [.int .i64 v0,.int .i64 v1],.box [.int .i64 0,.nilsl],.gone]⟩:=by
          simp only [St.put,St.mk.injEq,and_true]
          funext t
          by_cases e9:t=9
          · subst e9; simp [mkE]
          · simp only [mkE,yae]
            rw [if_neg (fun h=>e9 h.symm)]
            repeat' split
            all_goals first | rfl | omega
        rw [e2] at e
        refine ztf ?_ e
        simp [zh,go_sem,ze,zf,pos,yaa,cCl,Zz]
      · simp only [go_sem,h1]
        refine zbD ?_
        have:ZA l c pl v0 v1=zhg v0 v1:=by simp [ZA,h0,h1]
        simp [go_sem,L37,R37,frS,frA,frL,zcX,zcY,this,h1,cCl]
    · simp only [go_sem,h0]
      refine zbD ?_
      have:ZA l c pl v0 v1=zx l c pl:=by simp [ZA,h0]
      simp [go_sem,L37,R37,frS,frA,frL,zcX,zcY,this,h0,cCl]
  · rintro st ⟨h0,h1,rfl⟩
    refine zaz ?_
    obtain ⟨g0,g1,g2,-,-⟩:=zds h0
    have hok:=zaE.1 g0
    have hm:=hok.len
    have hpl:=zcJ hok g1
    simp only [go_sem,L37,R37,yaJ,yaY]
    refine zc (.pureE (zgN l c pl v0 v1 hok) (by simp [go_sem])) ?_
    have bad:(okL l v0 v1 && decide (v0≤(zax l 0:Int)∧v1≤(zax l 1:Int)) && pl.all (inB v0 v1))=false→ZA l c pl v0 v1=4:=fun h=>by
      rw [ZA,if_neg (by simp [h0]),if_neg (by simp [h1]),if_neg (by rw [h]; simp)]
    cases h2:okL l v0 v1
    · simp only [go_sem]
      refine zbD ?_
      simp [go_sem,L37,R37,frS,frA,frL,zcX,zcY,bad (by rw [h2]; rfl),cCl]
    · simp only [go_sem]
      refine zc (.pureE (zc7 l hok.reg (by omega)) (by simp [go_sem])) ?_
      simp only [go_sem]
      refine zc (.pureE (zjR v0 v1 (zax l 0) (zax l 1)) (by simp [go_sem])) ?_
      cases h3:decide (v0≤(zax l 0:Int)∧v1≤(zax l 1:Int))
      · simp only [go_sem,cCl]
        refine zbD ?_
        simp [go_sem,L37,R37,frS,frA,frL,zcX,zcY,bad (by rw [h2,h3]; rfl),cCl]
      · simp only [go_sem,cCl]
        refine zc (.pureE (zdy pl 115 (Zz l c pl v0 v1) (fun y => !inB v0 v1 y) (by kernel_rfl) hb (fun y hy=>zfV l c pl v0 v1 y (ztg hok g1 hy))) (by simp [go_sem])) ?_
        have hany:(pl.any fun y => !inB v0 v1 y) = !pl.all (inB v0 v1):=by
          rw [List.any_eq_not_all_not]; simp
        cases h4:pl.all (inB v0 v1)
        · simp only [go_sem,hany,h4]
          refine zbD ?_
          simp [go_sem,L37,R37,frS,frA,frL,zcX,zcY,bad (by rw [h2,h3,h4]; rfl),cCl]
        · have good:ZA l c pl v0 v1=0:=by
            rw [ZA,if_neg (by simp [h0]),if_neg (by simp [h1]),if_pos (by rw [h2,h3,h4]; rfl)]
          have hM:=ztc hok h2
          simp only [go_sem,hany,h4,cCl]
          refine zc5 (r := .arr 4 ((zf1 (zkR l v0 v1) c pl).length + 1 - pl.length)) (zjH (zkR l v0 v1) c pl hM g2 (by omega)) rfl rfl (by simp [go_sem]) rfl ?_
          simp only [go_sem]
          repeat refine ⟨rfl,?_⟩
          try simp only [go_sem]
          refine zbD ?_
          have hs:(((zf1 (zkR l v0 v1) c pl).map cId).all fun r=>r.all zaw)=true:=by simp [cId,zaw]
          simp [go_sem,L37,R37,frS,frA,frL,hs,zcX,zcY,good,cCl]
theorem zn2 {b:Bool} {p:PV} (h:Bl (.bool b) p):p = .bool b:=by cases h; rfl
theorem zkU {α : Type} {f : α → List PV} {l : List α} {q : PV} (h : Bl (.list (l.map f)) q) (hf : ∀ y r, r.length = (f y).length → (∀ (j : Nat) (p p' : PV), (f y)[j]? = some p → r[j]? = some p' → Bl p p') → ∃ y', r = f y' ∧ True) :
    ∃ l':List α,l'.length=l.length∧q = .list (l'.map f):=by
  obtain ⟨l',h1,h2,-⟩:=zxa (P:=fun _ _=>True) h hf
  exact ⟨l',h1,h2⟩
theorem zpb {l:List Cell} {q:PV} (h:Bl (.list (l.map cC)) q):∃ l':List Cell,l'.length=l.length∧q = .list (l'.map cC):=zkU h fun y r hl h=>by
 obtain ⟨a,b,c,rfl⟩:=zEd hl
 obtain rfl:=zn2 (h 0 _ _ rfl rfl)
 obtain rfl:=zn2 (h 1 _ _ rfl rfl)
 obtain ⟨t,rfl⟩:=zoF (h 2 _ _ rfl rfl)
 exact ⟨⟨y.th,y.ju,t⟩,rfl,trivial⟩
theorem zpc {l:List Wt} {q:PV} (h:Bl (.list (l.map cW)) q):∃ l':List Wt,l'.length=l.length∧q = .list (l'.map cW):=zkU h fun y r hl h=>by
 obtain ⟨a,b,c,rfl⟩:=zEd hl
 obtain ⟨m,rfl⟩:=zgB (h 0 _ _ rfl rfl)
 obtain ⟨m2,rfl⟩:=zgB (h 1 _ _ rfl rfl)
 obtain rfl:=zn2 (h 2 _ _ rfl rfl)
 exact ⟨⟨m,m2,y.f⟩,rfl,trivial⟩
theorem zth {l:List Int} {q:PV} (h:Bl (.list (l.map cN)) q):∃ l':List Int,l'.length=l.length∧q = .list (l'.map cN):=zkU h fun y r hl h=>by
 obtain ⟨a,rfl⟩:=zDQ hl
 obtain ⟨m,rfl⟩:=zgB (h 0 _ _ rfl rfl)
 exact ⟨m,rfl,trivial⟩
theorem zyZ {l:List ByteArray} {q:PV} (h:Bl (.list (l.map zbY)) q):∃ l':List ByteArray,l'.length=l.length∧q = .list (l'.map zbY):=zkU h fun y r hl h=>by
 obtain ⟨a,rfl⟩:=zDQ hl
 obtain ⟨m,rfl⟩:=zoF (h 0 _ _ rfl rfl)
 exact ⟨m,rfl,trivial⟩
def zy0 (B:Nat) (l:List KV):Prop:=∀ p ∈ l,p.2.length≤B
theorem zvj {l:List KV} {q:PV} {B:Nat} (h:Bl (.list (l.map ZO)) q) (hB:zy0 B l):∃ l':List KV,l'.length=l.length∧zy0 B l'∧q = .list (l'.map ZO):=by
 obtain ⟨l',h1,h2,h3⟩:=zxa (P:=fun p p':KV=>p'.2.length=p.2.length) (f:=ZO) h fun y r hl h=>by
  obtain ⟨a,b,rfl⟩:=len2 hl
  obtain ⟨m,rfl⟩:=zoF (h 0 _ _ rfl rfl)
  obtain ⟨l1,e1,rfl⟩:=zyZ (h 1 _ _ rfl rfl)
  exact ⟨(m,l1),rfl,e1⟩
 refine ⟨l',h1,fun p hp=>?_,h2⟩
 obtain ⟨y,hy,e⟩:=h3 p hp
 rw [e]; exact hB y hy
/-! ### what follows a spoiling,for all that may be there -/
theorem zfb {l:List Id} {K:PV→Prop} (h:∀ l':List Id,K (.list (l'.map cId))):∀ q,Bl (.list (l.map cId)) q→K q:=fun q hq=>by
 obtain ⟨l',-,rfl⟩:=zlv hq; exact h l'
theorem zkV {l:List Entry} {K:PV→Prop} (h:∀ l':List Entry,K (.list (l'.map cE))):∀ q,Bl (.list (l.map cE)) q→K q:=fun q hq=>by
 obtain ⟨l',-,rfl⟩:=zw2 hq; exact h l'
theorem zbM {l:List KV} {B:Nat} (hB:zy0 B l) {K:PV→Prop} (h:∀ l':List KV,l'.length=l.length→zy0 B l'→K (.list (l'.map ZO))):∀ q,Bl (.list (l.map ZO)) q→K q:=fun q hq=>by
 obtain ⟨l',h1,h2,rfl⟩:=zvj hq hB; exact h l' h1 h2
theorem ZL {c:Chain} {K:List PV→Prop} (h:∀ c':Chain,c'.cs.length=c.cs.length→K (cCh c')):zhX (cCh c) K:=by
 simp only [cCh,zde,zd4,zd3,zjD,zdd,forall_eq]
 intro q hq
 obtain ⟨l',h1,rfl⟩:=zpb hq
 exact h ⟨c.ep,c.se,c.cut,l'⟩ h1
abbrev Sv3:=Int × List Wt × List Int
theorem ZM {s:Sv3} {K:List PV→Prop} (h:∀ s':Sv3,s'.2.1.length=s.2.1.length→s'.2.2.length=s.2.2.length→K (zaI s')):zhX (zaI s) K:=by
 simp only [zaI,cSv,zde,zd4,zd3,zdd,forall_eq]
 intro q hq q2 hq2
 obtain ⟨l',h1,rfl⟩:=zpc hq
 obtain ⟨l2,h2,rfl⟩:=zth hq2
 exact h (s.1,l',l2) h1 h2
theorem zkW {c:Int} {l:List Id} {K:List PV→Prop} (h:∀ l':List Id,K (cCl c l')):zhX (cCl c l) K:=by
 simp only [cCl,zde,zd4,zd3,zdd,forall_eq]
 intro q hq
 obtain ⟨l',h1,rfl⟩:=zlv hq
 exact h l'
theorem zim {e:Entry} {K:List PV→Prop} (h:∀ e':Entry,K (cE e')):zhX (cE e) K:=by
 simp only [cE,zde,zd4,zd3,zl4,zdd,forall_eq]
 intro q hq
 obtain ⟨l',h1,rfl⟩:=zlv hq
 exact h ⟨e.id,e.c,e.t,l'⟩
def zBi:PV→Bool
 | .list _ | .rptr _ | .vlist _ | .agg _ | .tup _ | .clo .. | .clob .. => false
 | _=>true
theorem zvk {p q:PV} (h:zBi p=true) (hq:zaR p q):q=p:=by
 cases p <;> first | exact hq | cases h
theorem zR {r:List PV} (hr:r.all zBi=true) {K:List (List PV)→Prop} (h:K [r]):∀ rows',zyt [r] rows'→K rows':=by
 rintro rows' ⟨h1,h2⟩
 obtain ⟨r',rfl⟩:=zDQ h1
 obtain ⟨h3,h4⟩:=h2 0 r r' rfl rfl
 have:r'=r:=by
  apply ycf h3
  intro j a b
  exact zvk (yar.1 hr _ (yaw b)) (h4 j _ _ (yac b) (yac a))
 rw [this]; exact h
section
variable {P:Program} {x:Cx} {nt:Nat}
theorem zin {S:Nat→Nat→Prop} {w:World} {rows:List (List PV)} {v:Value} (h:RepP S w (.list rows) v):rows.length≤maxLen:=by
 cases h with
 | list rows a c sz y hc hm=>omega
theorem zpd (id j:Nat) {a:LC} {l:List LC} {Q:AE→St→Prop} {st:St} {cells:List PV} {rows:List (List PV)} (hid:st.heap[id]? = some (.box cells)) (hj:cells[j]? = some (.list rows)) (h:rows.length≤maxLen→WL P x nt (a :: l) Q st):WL P x nt (a :: l) Q st:=by
 intro c hc ac w hrel
 refine h ?_ c hc ac w hrel
 obtain ⟨⟨C,hr,he⟩,-,-⟩:=hrel
 obtain ⟨cs,T,e1,e2,e3⟩:=hr.obj id _ hid
 have hlt:j < cs.size:=by rw [e2]; exact (yab.1 hj).1
 exact zin (e3 j _ _ hj (ya4 hlt)).2.list_inv
end
def rlB:LC:=match (L4.flat[12]? : Option LC) with | some (LC.block _ (LC.loop b))=>b | _=>LC.skip
def rlT:List LC:=match (rlB.flat[2]? : Option LC) with | some (LC.block _ b)=>b.flat.drop 16 | _ => []
def rlU (l:List Entry) (c:Int) (ids want:List Id) (w i:Int) (v1 v2:Nat):List (Nat × PV) :=
 [(0,.list (l.map cE)),(1,.int .i64 c),(2,.list (ids.map cId)),(8,.ptr 0 0),(9,.ptr 1 0),(11,.list (l.map cE)),(12,.list (ids.map cId)),(13,.aptr 2 v1 4 0 0),(14,.aptr 3 v2 3 0 0),(15,.int .i64 w),(16,.list (want.map cId)),(17,.int .i64 i)]
def rlE (l:List Entry) (c:Int) (ids want:List Id) (w i:Int) (v1 v2:Nat):List (Nat × PV) :=
 [(0,.oll (l.map cE)),(1,.int .i64 c),(2,.oll (ids.map cId)),(8,.ptr 0 0),(9,.ptr 1 0),(11,.oll (l.map cE)),(12,.oll (ids.map cId)),(13,.aptr 2 v1 4 0 0),(14,.aptr 3 v2 3 0 0),(15,.int .i64 w),(16,.oll (want.map cId)),(17,.int .i64 i)]
def rlH (ch:Chain) (s:Sv3) (v1 v2:Nat):List AObj := [.box (cCh ch),.box (zaI s),.arr v1 true true 59 4 [cCh ch],.arr v2 true true 63 3 [zaI s]]
def rlO (ch:Chain) (s:Sv3) (v1 v2:Nat):List AObj := [.box (zaY ch),.box (zaZ s.1 s.2.1 s.2.2),.arr v1 true true 59 4 [zaY ch],.arr v2 true true 63 3 [zaZ s.1 s.2.1 s.2.2]]
theorem zfW {l:List Cell} {K:PV→Prop} (h:∀ l':List Cell,l'.length=l.length→K (.list (l'.map cC))):∀ q,Bl (.list (l.map cC)) q→K q:=fun q hq=>by
 obtain ⟨l',e,rfl⟩:=zpb hq; exact h l' e
theorem zfX {l:List Wt} {K:PV→Prop} (h:∀ l':List Wt,l'.length=l.length→K (.list (l'.map cW))):∀ q,Bl (.list (l.map cW)) q→K q:=fun q hq=>by
 obtain ⟨l',e,rfl⟩:=zpc hq; exact h l' e
theorem zhh {l:List Int} {K:PV→Prop} (h:∀ l':List Int,l'.length=l.length→K (.list (l'.map cN))):∀ q,Bl (.list (l.map cN)) q→K q:=fun q hq=>by
 obtain ⟨l',e,rfl⟩:=zth hq; exact h l' e
theorem zxh {P:Program} {x:Cx} {nt:Nat} (t:Nat) {a:LC} {l:List LC} {Q:AE→St→Prop} {st:St} {v:List KV} (ht:st.env t = .list (v.map ZO)) (h:v.length≤maxLen→zy0 maxLen v→WL P x nt (a :: l) Q st):WL P x nt (a :: l) Q st:=by
 intro c hc ac w hrel
 have hr0:=hrel
 obtain ⟨⟨C,hr,he⟩,-,-⟩:=hrel
 have hp:=he t
 rw [ht] at hp
 have hp:=hp.list_inv
 generalize ac.tmps.getD t Go.undef=u at hp
 refine h (by have:=zin hp; simpa using this) (fun p hm=>?_) c hc ac w hr0
 obtain ⟨k,hk,rfl⟩:=yaq hm
 generalize hrs:v.map ZO=rows at hp
 cases hp with
 | list rows a c sz y hc hm hsz hz hl hh =>
  subst hrs
  have:=zin (hh k (ZO v[k]) 1 (.list (v[k].2.map zbY)) (by simp [hk]) rfl)
  simpa using this
theorem zy1 {x : Cx} (hS2 : ∀ b o, ¬ x.S0 b o) (hl2 : x.H0.length = 4) (l : List Entry) (c : Int) (ids want m h1 p1 x2 : List Id) (ch wc tc : Chain) (s b d : Sv3) (v1 v2 : Nat) (w i x1 : Int) (mm : List KV) (kk : List Entry) (y : Entry)
    {a:LC} {rest:List LC} {Q0 Q1:AE→St→Prop} (hQ:WL prog x 314 (a :: rest) Q0 ⟨mkE .top (rlE l c ids want w i v1 v2),rlO ch s v1 v2⟩) :
    WL prog x 314 rlT (zdB 1 (@thenS ⟨WL prog x 314 (a :: rest) Q0⟩ Q1)) ⟨mkE .top (rlE l c ids want w i v1 v2 ++ [(18,.list (m.map cId)),(20,.list (h1.map cId)),(22,.list (p1.map cId)),(24,.list (mm.map ZO)),(26,.list (kk.map cE)),(28,.ptr 4 0),(30,.ptr 5 0),(32,.ptr 6 0),(34,.ptr 7 0),(37,.ptr 8 0),(41,.ptr 9 0)]),
      rlO ch s v1 v2 ++ [.box (cCl x1 x2),.box (cCh wc),.box (cCh tc),.box (zaI b),.box (zaI d),.box (cE y)]⟩:=by
  simp only [rlT,rlB,L4,LC.flat,yau,yas,ybP,ya8,yaJ,yaY,rlE,rlO,zaY,zaZ]
  refine zxh 24 rfl fun hmm hB=>?_
  refine zdc [0,1,2,8,9,11,12,13,14,15,16,17,20,22,24,26,28,30,32,34,37,41] zbm hS2 rfl (by simp) ?_
  simp only [go_sem]
  refine ⟨⟨_,rfl,_,rfl⟩,by simp [zcV],?_⟩
  refine zfb fun h1=>?_
  refine zfb fun p1=>?_
  refine zbM hB fun mm _ hB=>?_
  refine zkV fun kk=>?_
  refine zR rfl ?_
  refine zR rfl ?_
  refine zkW fun x2=>?_
  refine ZL fun wc _=>?_
  refine ZL fun tc _=>?_
  refine ZM fun b _ _=>?_
  refine ZM fun d _ _=>?_
  refine zim fun y=>?_
  refine zdc [0,1,2,8,9,11,12,13,14,15,16,17,22,24,26,28,30,32,34,37,41] zbm hS2 rfl (by simp) ?_
  simp only [go_sem]
  refine ⟨⟨_,rfl,_,rfl⟩,by simp [zcV],?_⟩
  refine zfb fun p1=>?_
  refine zbM hB fun mm _ hB=>?_
  refine zkV fun kk=>?_
  refine zR rfl ?_
  refine zR rfl ?_
  refine zkW fun x2=>?_
  refine ZL fun wc _=>?_
  refine ZL fun tc _=>?_
  refine ZM fun b _ _=>?_
  refine ZM fun d _ _=>?_
  refine zim fun y=>?_
  refine zdc [0,1,2,8,9,11,12,13,14,15,16,17,24,26,28,30,32,34,37,41] zbm hS2 rfl (by simp) ?_
  simp only [go_sem]
  refine ⟨⟨_,rfl,_,rfl⟩,by simp [zcV],?_⟩
  refine zbM hB fun mm _ hB=>?_
  refine zkV fun kk=>?_
  refine zR rfl ?_
  refine zR rfl ?_
  refine zkW fun x2=>?_
  refine ZL fun wc _=>?_
  refine ZL fun tc _=>?_
  refine ZM fun b _ _=>?_
  refine ZM fun d _ _=>?_
  refine zim fun y=>?_
  refine zdc [0,1,2,8,9,11,12,13,14,15,16,17,24,26,30,32,34,37,41] zbm hS2 rfl (by simp) ?_
  simp only [go_sem,cCl]
  refine ⟨⟨_,rfl,_,rfl⟩,by simp [zcV],?_⟩
  refine zbM hB fun mm _ hB=>?_
  refine zkV fun kk=>?_
  refine zR rfl ?_
  refine zR rfl ?_
  refine zfb fun x2=>?_
  refine ZL fun wc _=>?_
  refine ZL fun tc _=>?_
  refine ZM fun b _ _=>?_
  refine ZM fun d _ _=>?_
  refine zim fun y=>?_
  refine zdc [0,1,2,8,9,11,12,13,14,15,16,17,24,30,32,34,37,41] zdT hS2 rfl (by simp) ?_
  simp only [go_sem]
  refine ⟨⟨_,rfl,_,rfl⟩,by simp [zcV],?_⟩
  refine zbM hB fun mm _ hB=>?_
  refine zR rfl ?_
  refine zR rfl ?_
  refine zfb fun x2=>?_
  refine ZL fun wc _=>?_
  refine ZL fun tc _=>?_
  refine ZM fun b _ _=>?_
  refine ZM fun d _ _=>?_
  refine zim fun y=>?_
  refine zdc [0,1,2,8,9,11,12,13,14,15,16,17,24,30,32,34,37] zdT hS2 rfl (by simp) ?_
  simp only [go_sem,cE]
  refine ⟨⟨_,rfl,[y],by simp [cE]⟩,by simp [zcV],?_⟩
  refine zbM hB fun mm _ hB=>?_
  refine zR rfl ?_
  refine zR rfl ?_
  refine zfb fun x2=>?_
  refine ZL fun wc _=>?_
  refine ZL fun tc _=>?_
  refine ZM fun b _ _=>?_
  refine ZM fun d _ _=>?_
  refine zfb fun y2=>?_
  refine zkx _ (Zk [0,1,2,8,9,11,12,13,14,15,16,17,24,30,32,34,37] [0,1,2,3,5,6,7,8] (by simp) (by simp) (by rw [hl2]; intro i hi; match i,hi with | 0,_ | 1,_ | 2,_ | 3,_=>rfl)) ?_
  rw [zad]
  simp only [go_sem,ze,zf,zn,zp,pos,yaA,ya3,cCh,zaI,cSv]
  refine zxh 24 rfl fun hmm hB=>?_
  refine zeA 1 ?_
  simp only [go_sem]
  refine Zu ?_
  simp only [yaJ,yaY]
  refine zcK ?_
  simp only [LC.flat,yau,yas]
  refine zp6 [0,1,2,8,9,11,12,13,14,15,16,17,24,30,32,34,37,44] 8 (fun m st=>∃ (g:Nat) (mm:List KV) (wc tc:Chain) (b d:Sv3),g + m=mm.length∧mm.length≤maxLen∧zy0 maxLen mm ∧
    st=⟨mkE .top (rlE l c ids want w i v1 v2 ++ [(24,.list (mm.map ZO)),(30,.ptr 4 0),(32,.ptr 5 0),(34,.ptr 6 0),(37,.ptr 7 0),(44,.int .i64 g)]),rlO ch s v1 v2 ++ [.box (cCh wc),.box (cCh tc),.box (zaI b),.box (zaI d)]⟩) mm.length (by rw [hl2]; omega) (by simp) ?_ ?_
  · refine ⟨0,mm,wc,tc,b,d,by omega,hmm,hB,?_⟩
    simp [zh,go_sem,ze,zf,zn,zp,pos,yaa,rlE,rlO,zaY,zaZ,cCh,zaI,cSv]
  · rintro m st ⟨g,mm,wc,tc,b,d,hg,hmm,hB,rfl⟩
    simp only [rlE,rlO,LC.flat,yau,yas,zaY,zaZ]
    refine zeA 2 ?_
    by_cases hlt:g < mm.length
    · have hm3:mm.length≤9223372036854775807:=hmm
      have wg:=zM (k:=g) (by omega)
      simp only [go_sem,hlt]
      refine Zu ?_
      simp only [yaJ,yaY]
      refine zcK ?_
      simp only [LC.flat,yau,yas]
      refine zeA 1 ?_
      simp only [go_sem]
      refine Zu ?_
      simp only [yaJ,yaY]
      refine zcK ?_
      simp only [LC.flat,yau,yas]
      refine zp6 [0,1,2,8,9,11,12,13,14,15,16,17,24,30,32,34,37,44,45] 8 (fun m2 st=>∃ (j:Nat) (nn:List KV) (wc tc:Chain) (b d:Sv3),j + m2=9223372036854775807∧nn.length=mm.length∧zy0 maxLen nn ∧
        st=⟨mkE .top (rlE l c ids want w i v1 v2 ++ [(24,.list (nn.map ZO)),(30,.ptr 4 0),(32,.ptr 5 0),(34,.ptr 6 0),(37,.ptr 7 0),(44,.int .i64 g),(45,.int .i64 j)]),rlO ch s v1 v2 ++ [.box (cCh wc),.box (cCh tc),.box (zaI b),.box (zaI d)]⟩) 9223372036854775807 (by rw [hl2]; omega) (by simp) ?_ ?_
      · refine ⟨0,mm,wc,tc,b,d,by omega,rfl,hB,?_⟩
        simp [zh,go_sem,ze,zf,zn,zp,pos,yaa,rlE,rlO,zaY,zaZ,cCh,zaI,cSv]
      · rintro m2 st ⟨j,nn,wc,tc,b,d,hj,hnn,hB,rfl⟩
        simp only [rlE,rlO,LC.flat,yau,yas,zaY,zaZ]
        have hlt2:g < nn.length:=by omega
        have hgn:nn[g]? = some (nth nn g):=zk _ _ hlt2
        have hfew:(nth nn g).2.length≤9223372036854775807:=hB _ (yaf hgn)
        refine zeA 2 ?_
        by_cases hlt3:j < (nth nn g).2.length
        · have hgj:(nth nn g).2[j]? = some (nth (nth nn g).2 j):=zk _ _ hlt3
          have wj:=zM (k:=j) (by omega)
          simp only [go_sem,hlt2,hgn,ZO,hlt3]
          refine Zu ?_
          simp only [yaJ,yaY]
          refine zcK ?_
          simp only [LC.flat,yau,yas]
          refine zek [0,1,2,8,9,11,12,13,14,15,16,17,24,30,32,34,37,44,45] hS2 rfl (by simp) ?_
          simp only [go_sem,hlt2,hgn,ZO,hlt3,hgj,zbY]
          refine ⟨⟨_,_,rfl,rfl⟩,by simp [zcV],?_⟩
          refine zbM hB fun nn hn2 hB=>?_
          refine zR rfl ?_
          refine zR rfl ?_
          refine ZL fun wc _=>?_
          refine ZL fun tc _=>?_
          refine ZM fun b _ _=>?_
          refine ZM fun d _ _=>?_
          refine zaz ?_
          simp only [go_sem,wj]
          refine ⟨by simp,m2 - 1,by omega,j + 1,nn,wc,tc,b,d,by omega,by omega,hB,?_⟩
          simp [zh,go_sem,ze,zf,zn,zp,pos,yaa,rlE,rlO,zaY,zaZ,cCh,zaI,cSv]
        · simp only [go_sem,hlt2,hgn,ZO,hlt3]
          refine Zu ?_
          refine zek [0,1,2,8,9,11,12,13,14,15,16,17,24,30,32,34,37,44] hS2 rfl (by simp) ?_
          simp only [go_sem,hlt2,hgn,ZO,zbY]
          refine ⟨⟨_,_,rfl,rfl⟩,by simp [zcV],?_⟩
          refine zbM hB fun nn hn2 hB=>?_
          refine zR rfl ?_
          refine zR rfl ?_
          refine ZL fun wc _=>?_
          refine ZL fun tc _=>?_
          refine ZM fun b _ _=>?_
          refine ZM fun d _ _=>?_
          refine zaz ?_
          simp only [go_sem,wg]
          refine ⟨by simp,m - 1,by omega,g + 1,nn,wc,tc,b,d,by omega,by omega,hB,?_⟩
          simp [zh,go_sem,ze,zf,zn,zp,pos,yaa,rlE,rlO,zaY,zaZ,cCh,zaI,cSv]
    · simp only [go_sem,hlt]
      refine Zu ?_
      refine zeA 1 ?_
      simp only [go_sem]
      refine Zu ?_
      simp only [yaJ,yaY]
      refine zcK ?_
      simp only [LC.flat,yau,yas]
      refine zp6 [0,1,2,8,9,11,12,13,14,15,16,17,30,32,34,37,46] 8 (fun m st=>∃ (g:Nat) (wc tc:Chain) (b d:Sv3),g + m=wc.cs.length∧st=⟨mkE .top (rlE l c ids want w i v1 v2 ++ [(30,.ptr 4 0),(32,.ptr 5 0),(34,.ptr 6 0),(37,.ptr 7 0),(46,.int .i64 g)]),rlO ch s v1 v2 ++ [.box (cCh wc),.box (cCh tc),.box (zaI b),.box (zaI d)]⟩) wc.cs.length (by rw [hl2]; omega) (by simp) ?_ ?_
      · refine ⟨0,wc,tc,b,d,by omega,?_⟩
        simp [zh,go_sem,ze,zf,zn,zp,pos,yaa,rlE,rlO,zaY,zaZ,cCh,zaI,cSv]
      · rintro m st ⟨g,wc,tc,b,d,hg,rfl⟩
        simp only [rlE,rlO,LC.flat,yau,yas,zaY,zaZ]
        refine zpd 4 3 rfl rfl fun hlen=>?_
        rw [yah] at hlen
        have hm3:wc.cs.length≤9223372036854775807:=hlen
        refine zeA 2 ?_
        by_cases hlt:g < wc.cs.length
        · have hgn:wc.cs[g]? = some (nth wc.cs g):=zk _ _ hlt
          have wg:=zM (k:=g) (by omega)
          simp only [go_sem,cCh,hlt]
          refine Zu ?_
          simp only [yaJ,yaY]
          refine zcK ?_
          simp only [LC.flat,yau,yas]
          refine zek [0,1,2,8,9,11,12,13,14,15,16,17,30,32,34,37,46] hS2 rfl (by simp) ?_
          simp only [go_sem,cCh,hlt,hgn,cC]
          refine ⟨⟨_,_,rfl,rfl⟩,by simp [zcV],?_⟩
          refine zR rfl ?_
          refine zR rfl ?_
          refine zfW fun wl hwl=>?_
          refine zfW fun tl htl=>?_
          refine ZM fun b _ _=>?_
          refine ZM fun d _ _=>?_
          refine zaz ?_
          simp only [go_sem,wg]
          refine ⟨by simp,m - 1,by omega,g + 1,⟨wc.ep,wc.se,wc.cut,wl⟩,⟨tc.ep,tc.se,tc.cut,tl⟩,b,d,by show _=wl.length; omega,?_⟩
          simp [zh,go_sem,ze,zf,zn,zp,pos,yaa,rlE,rlO,zaY,zaZ,cCh,zaI,cSv]
        · simp only [go_sem,cCh,hlt]
          refine Zu ?_
          refine zeA 1 ?_
          simp only [go_sem]
          refine Zu ?_
          simp only [yaJ,yaY]
          refine zcK ?_
          simp only [LC.flat,yau,yas]
          refine zp6 [0,1,2,8,9,11,12,13,14,15,16,17,32,34,37,47] 8 (fun m st=>∃ (g:Nat) (wc tc:Chain) (b d:Sv3),g + m=tc.cs.length∧st=⟨mkE .top (rlE l c ids want w i v1 v2 ++ [(32,.ptr 5 0),(34,.ptr 6 0),(37,.ptr 7 0),(47,.int .i64 g)]),rlO ch s v1 v2 ++ [.box (cCh wc),.box (cCh tc),.box (zaI b),.box (zaI d)]⟩) tc.cs.length (by rw [hl2]; omega) (by simp) ?_ ?_
          · refine ⟨0,wc,tc,b,d,by omega,?_⟩
            simp [zh,go_sem,ze,zf,zn,zp,pos,yaa,rlE,rlO,zaY,zaZ,cCh,zaI,cSv]
          · rintro m st ⟨g,wc,tc,b,d,hg,rfl⟩
            simp only [rlE,rlO,LC.flat,yau,yas,zaY,zaZ]
            refine zpd 5 3 rfl rfl fun hlen=>?_
            rw [yah] at hlen
            have hm3:tc.cs.length≤9223372036854775807:=hlen
            refine zeA 2 ?_
            by_cases hlt:g < tc.cs.length
            · have hgn:tc.cs[g]? = some (nth tc.cs g):=zk _ _ hlt
              have wg:=zM (k:=g) (by omega)
              simp only [go_sem,cCh,hlt]
              refine Zu ?_
              simp only [yaJ,yaY]
              refine zcK ?_
              simp only [LC.flat,yau,yas]
              refine zek [0,1,2,8,9,11,12,13,14,15,16,17,32,34,37,47] hS2 rfl (by simp) ?_
              simp only [go_sem,cCh,hlt,hgn,cC]
              refine ⟨⟨_,_,rfl,rfl⟩,by simp [zcV],?_⟩
              refine zR rfl ?_
              refine zR rfl ?_
              refine zfW fun wl hwl=>?_
              refine zfW fun tl htl=>?_
              refine ZM fun b _ _=>?_
              refine ZM fun d _ _=>?_
              refine zaz ?_
              simp only [go_sem,wg]
              refine ⟨by simp,m - 1,by omega,g + 1,⟨wc.ep,wc.se,wc.cut,wl⟩,⟨tc.ep,tc.se,tc.cut,tl⟩,b,d,by show _=tl.length; omega,?_⟩
              simp [zh,go_sem,ze,zf,zn,zp,pos,yaa,rlE,rlO,zaY,zaZ,cCh,zaI,cSv]
            · simp only [go_sem,cCh,hlt]
              refine Zu ?_
              refine zeA 1 ?_
              simp only [go_sem]
              refine Zu ?_
              simp only [yaJ,yaY]
              refine zcK ?_
              simp only [LC.flat,yau,yas]
              refine zp6 [0,1,2,8,9,11,12,13,14,15,16,17,34,37,48] 8 (fun m st=>∃ (g:Nat) (wc tc:Chain) (b d:Sv3),g + m=b.2.1.length∧st=⟨mkE .top (rlE l c ids want w i v1 v2 ++ [(34,.ptr 6 0),(37,.ptr 7 0),(48,.int .i64 g)]),rlO ch s v1 v2 ++ [.box (cCh wc),.box (cCh tc),.box (zaI b),.box (zaI d)]⟩) b.2.1.length (by rw [hl2]; omega) (by simp) ?_ ?_
              · refine ⟨0,wc,tc,b,d,by omega,?_⟩
                simp [zh,go_sem,ze,zf,zn,zp,pos,yaa,rlE,rlO,zaY,zaZ,cCh,zaI,cSv]
              · rintro m st ⟨g,wc,tc,b,d,hg,rfl⟩
                simp only [rlE,rlO,LC.flat,yau,yas,zaY,zaZ]
                refine zpd 6 1 rfl rfl fun hlen=>?_
                rw [yah] at hlen
                have hm3:b.2.1.length≤9223372036854775807:=hlen
                refine zeA 2 ?_
                by_cases hlt:g < b.2.1.length
                · have hgn:b.2.1[g]? = some (nth b.2.1 g):=zk _ _ hlt
                  have wg:=zM (k:=g) (by omega)
                  simp only [go_sem,zaI,cSv,hlt]
                  refine Zu ?_
                  simp only [yaJ,yaY]
                  refine zcK ?_
                  simp only [LC.flat,yau,yas]
                  refine zek [0,1,2,8,9,11,12,13,14,15,16,17,34,37,48] hS2 rfl (by simp) ?_
                  simp only [go_sem,zaI,cSv,hlt,hgn,cW]
                  refine ⟨⟨_,_,rfl,rfl⟩,by simp [zcV],?_⟩
                  refine zR rfl ?_
                  refine zR rfl ?_
                  refine ZL fun wc _=>?_
                  refine ZL fun tc _=>?_
                  refine zfX fun b1 hb1=>?_
                  refine zhh fun b2 hb2=>?_
                  refine zfX fun d1 hd1=>?_
                  refine zhh fun d2 hd2=>?_
                  refine zaz ?_
                  simp only [go_sem,wg]
                  refine ⟨by simp,m - 1,by omega,g + 1,wc,tc,(b.1,b1,b2),(d.1,d1,d2),by show _=b1.length; omega,?_⟩
                  simp [zh,go_sem,ze,zf,zn,zp,pos,yaa,rlE,rlO,zaY,zaZ,cCh,zaI,cSv]
                · simp only [go_sem,zaI,cSv,hlt]
                  refine Zu ?_
                  refine zeA 1 ?_
                  simp only [go_sem]
                  refine Zu ?_
                  simp only [yaJ,yaY]
                  refine zcK ?_
                  simp only [LC.flat,yau,yas]
                  refine zp6 [0,1,2,8,9,11,12,13,14,15,16,17,37,49] 8 (fun m st=>∃ (g:Nat) (wc tc:Chain) (b d:Sv3),g + m=d.2.2.length∧st=⟨mkE .top (rlE l c ids want w i v1 v2 ++ [(37,.ptr 7 0),(49,.int .i64 g)]),rlO ch s v1 v2 ++ [.box (cCh wc),.box (cCh tc),.box (zaI b),.box (zaI d)]⟩) d.2.2.length (by rw [hl2]; omega) (by simp) ?_ ?_
                  · refine ⟨0,wc,tc,b,d,by omega,?_⟩
                    simp [zh,go_sem,ze,zf,zn,zp,pos,yaa,rlE,rlO,zaY,zaZ,cCh,zaI,cSv]
                  · rintro m st ⟨g,wc,tc,b,d,hg,rfl⟩
                    simp only [rlE,rlO,LC.flat,yau,yas,zaY,zaZ]
                    refine zpd 7 2 rfl rfl fun hlen=>?_
                    rw [yah] at hlen
                    have hm3:d.2.2.length≤9223372036854775807:=hlen
                    refine zeA 2 ?_
                    by_cases hlt:g < d.2.2.length
                    · have hgn:d.2.2[g]? = some (nth d.2.2 g):=zk _ _ hlt
                      have wg:=zM (k:=g) (by omega)
                      simp only [go_sem,zaI,cSv,hlt]
                      refine Zu ?_
                      simp only [yaJ,yaY]
                      refine zcK ?_
                      simp only [LC.flat,yau,yas]
                      refine zek [0,1,2,8,9,11,12,13,14,15,16,17,37,49] hS2 rfl (by simp) ?_
                      simp only [go_sem,zaI,cSv,hlt,hgn,cN]
                      refine ⟨⟨_,_,rfl,rfl⟩,by simp [zcV],?_⟩
                      refine zR rfl ?_
                      refine zR rfl ?_
                      refine ZL fun wc _=>?_
                      refine ZL fun tc _=>?_
                      refine zfX fun b1 hb1=>?_
                      refine zhh fun b2 hb2=>?_
                      refine zfX fun d1 hd1=>?_
                      refine zhh fun d2 hd2=>?_
                      refine zaz ?_
                      simp only [go_sem,wg]
                      refine ⟨by simp,m - 1,by omega,g + 1,wc,tc,(b.1,b1,b2),(d.1,d1,d2),by show _=d2.length; omega,?_⟩
                      simp [zh,go_sem,ze,zf,zn,zp,pos,yaa,rlE,rlO,zaY,zaZ,cCh,zaI,cSv]
                    · simp only [go_sem,zaI,cSv,hlt]
                      refine Zu ?_
                      refine zaz ?_
                      simp only [go_sem]
                      refine Zu ?_
                      refine zkx _ (za3.trans (Zk [0,1,2,8,9,11,12,13,14,15,16,17] [0,1,2,3] (by simp) (by simp) (by rw [hl2]; intro i hi; match i,hi with | 0,_ | 1,_ | 2,_ | 3,_=>rfl)) (zfB ?_ (za3.refl _ _ _))) hQ
                      simp [zad,go_sem,ze,zf,zn,zp,pos,rlE,rlO,zaY,zaZ]
theorem zi4 (l:List Entry) (hl:l.length≤9223372036854775806):zg prog 45 [.oll (l.map cE),.oll (l.map cE)] [] (.bool true) []:=(zdt l hl).freshS rfl rfl
theorem zi5 (l:List Id) (hl:l.length≤9223372036854775807):zg prog 46 [.oll (l.map cId),.oll (l.map cId)] [] (.bool true) []:=by
 have h:=(ZS l l hl).freshS (args' := [.oll (l.map cId),.oll (l.map cId)]) rfl rfl
 simpa using h
theorem zvl {x : Cx} (hx : x.H0 = []) (hxo : ∀ b o, ¬ x.C0.old b o) (l : List Entry) (c : Int) (ids want m : List Id) (ch : Chain) (s : Sv3) (v1 v2 : Nat) (w i e : Int) (hi : 0 ≤ i ∧ i < 2)
    (hl:l.length≤1000000000000000) (hids:ids.length≤1000000000000000) (hc:ch.cs.length≤140737488355328) (hw:s.2.1.length * 24≤140737488355328) (hd:s.2.2.length * 8≤140737488355328)
    (hmo:zg prog 30 [.oll (l.map cE),.int .i64 c,.oll (ids.map cId)] [] (.tup [.list (m.map cId),.int .i64 e]) [])
    (his:zg prog 31 [.list (m.map cId),.int .i64 e,.int .i64 w,.oll (want.map cId)] [] (.bool true) []) :
    W prog x 314 rlB (fun q st=>q = .normal∧4≤st.heap.length∧st.trim [0,1,2,8,9,11,12,13,14,15,16,17] 4=⟨mkE .top (rlU l c ids want w (i + 1) v1 v2),rlH ch s v1 v2⟩) ⟨mkE .top (rlU l c ids want w i v1 v2),rlH ch s v1 v2⟩:=by
  refine zyb hxo (by intro id ob h; match id,h with | 0,h | 1,h=>cases h; trivial | 2,h | 3,h=>cases h; rfl | _ + 4,h=>simp [rlH] at h) fun x2 hS2 hH2=>?_
  have hl2:x2.H0.length=4:=by rw [hH2]; simp [rlH]
  rw [zl3]
  refine zjj ?_
  simp only [rlB,L4,LC.flat,yau,yas,ybP,ya8,rlU,rlH,yaA,ya3,zgS,ziK,cCh,zaI,cSv]
  have hi2:=hi.2
  refine zeA 2 ?_
  simp only [go_sem,hi2]
  refine Zu ?_
  simp only [yaJ,yaY]
  refine zcK ?_
  simp only [LC.flat,yau,yas]
  refine zeA 16 ?_
  simp only [go_sem]
  refine zc (.pureE hmo (by simp [go_sem])) ?_
  simp only [go_sem]
  refine zc (.pureE his (by simp [go_sem])) ?_
  simp only [go_sem]
  refine zc (.pureE (zh9 l c (by omega)) (by simp [go_sem])) ?_
  simp only [go_sem]
  generalize zbl l c=h1
  generalize zaX l c=h2
  refine zc (.pureE (Zx 0 1) (by simp [go_sem])) ?_
  simp only [go_sem]
  refine zc (.pureE (ziY l ⟨0,1⟩ (by omega)) (by simp [go_sem,cId])) ?_
  simp only [go_sem]
  generalize zcu l ⟨0,1⟩=p1
  generalize zbS l ⟨0,1⟩=p2
  refine zc (.pureE (zqy l c (by omega)) (by simp [go_sem])) ?_
  simp only [go_sem]
  generalize zqw l c=mm
  generalize zaT l c=m2
  refine zc (.pureE (zi3 l 0 0 (by omega)) (by simp [go_sem])) ?_
  simp only [go_sem]
  generalize (if zcx l 0 0=0 then zil l 0 0 else [])=kk
  generalize zcx l 0 0=k2
  refine zc (.pureE (zn1 l c ids 1 1 (by omega) (by omega)) (by simp [go_sem,zDU])) ?_
  simp only [go_sem,cCl]
  generalize zcX l c ids 1 1=x1
  generalize zcY l c ids 1 1=x2'
  generalize ZA l c ids 1 1=x3
  refine zc (.pureE (ziX ch ch.ep (IntKind.i64.wrap (ch.cut + ch.cs.length)) ⟨#[120]⟩ hc) (by simp [go_sem,zaY])) ?_
  simp only [go_sem,ZF,cCh]
  generalize zaN ch ch.ep (IntKind.i64.wrap (ch.cut + ch.cs.length)) ⟨true,false,⟨#[120]⟩⟩ ziW=wo
  refine zc (.pureE (zkz ch 1 hc) (by simp [go_sem,zaY])) ?_
  simp only [go_sem,ZF,cCh]
  generalize zbn ch 1=tr
  refine zc (.pureE (zg2 s.1 s.2.1 s.2.2 9 hw hd) (by simp [go_sem,zaZ])) ?_
  simp only [go_sem,zaI,cSv]
  generalize zdJ s.1 s.2.1 s.2.2 9=bo
  generalize zgl s.1 s.2.1 s.2.2 9=be
  refine zc (.pureE (zh8 s.1 s.2.1 s.2.2 9 500 hw hd) (by simp [go_sem,zaZ])) ?_
  simp only [go_sem,zaI,cSv]
  generalize zeB s.1 s.2.1 s.2.2 9 500=co
  generalize zgm s.1 s.2.1 s.2.2 9 500=ce
  refine zc (.pure ZE) ?_
  simp only [go_sem,zab,Int.reduceLT,Int.reduceLE,Int.reduceToNat,Int.reduceAdd,frz,cE]
  refine zc (.pureE (zgM e3 (by decide)) (by simp [go_sem,cE])) ?_
  simp only [go_sem]
  refine zc (.pureE (zbL (zfp e3) (by decide +kernel)) (by simp [go_sem])) ?_
  simp only [go_sem,cE]
  generalize (Zj (zfp e3)).1=ye
  refine zc (.pureE (zi4 l (by omega)) (by simp [go_sem])) ?_
  simp only [go_sem]
  refine zc (.pureE (zi5 ids (by omega)) (by simp [go_sem])) ?_
  simp only [go_sem]
  refine zc (.pureE (zg1 ch hc) (by simp [go_sem,zaY])) ?_
  simp only [go_sem]
  refine zc (.pureE (zgo s.1 s.2.1 s.2.2 (by omega) (by omega)) (by simp [go_sem,zaZ])) ?_
  simp only [go_sem]
  refine Zu ?_
  simp only [yaJ,yaY]
  have wi:IntKind.i64.wrap (i + 1)=i + 1:=by rw [ybU]; omega
  refine zkx ⟨mkE .top (rlE l c ids want w i v1 v2 ++ [(18, .list (m.map cId)), (20, .list (h1.map cId)), (22, .list (p1.map cId)), (24, .list (mm.map ZO)), (26, .list (kk.map cE)), (28, .ptr 4 0), (30, .ptr 5 0), (32, .ptr 6 0), (34, .ptr 7 0), (37, .ptr 8 0), (41, .ptr 9 0)]),
      rlO ch s v1 v2 ++ [.box (cCl x1 x2'),.box (cCh wo.1),.box (cCh tr.1),.box (zaI bo),.box (zaI co),.box (cE ye)]⟩ (za3.trans (zdR [0,1,2,8,9,11,12,13,14,15,16,17,18,20,22,24,26,28,30,32,34,37,41]) (zfB ?_ (za3.refl _ _ _))) ?_
  · simp [ZX,go_sem,rlE,rlO,zaY,zaZ,cCl,cCh,zaI,cSv,cE]
  · refine zy1 hS2 hl2 l c ids want m h1 p1 x2' ch wo.1 tr.1 s bo co v1 v2 w i x1 mm kk ye ?_
    simp only [rlE,rlO,zaY,zaZ]
    refine zaz ?_
    simp only [go_sem]
    rw [zyu,wi]
    refine ⟨by simp,?_⟩
    simp [zh,go_sem,ze,zf,zn,zp,pos,yaa,unR,zrI]
/-! what comes,of given zQ: to reckon with -/
def zDV (ps:List (List Id)) (l:List Entry) (c:Int) (out:List Id) (y:Id):Bool := !(zL l c).any fun e=>zaG (z8 ps l y) e.id && !zaG out e.id
def zti (ps:List (List Id)) (l:List Entry) (c:Int) (out:List Id):Option Id:=zeI.find? fun x=>decide (0≤zG l x) && zan (nth l (zG l x).toNat).c c && !zaG out x && zDV ps l c out x
def zpe (ps:List (List Id)) (l:List Entry) (c:Int):Nat→List Id→List Id
 | 0,out=>out
 | n + 1,out=>match zti ps l c out with
  | some x=>zpe ps l c n (out ++ [x])
  | none=>out
theorem zn3 (l:List Entry) (c:Int):∀ n out,zez l c n out=zpe (zQ l) l c n out
 | 0,_=>rfl
 | n + 1,out=>by
  simp only [zez,zpe]
  rw [show zda l c out=zti (zQ l) l c out from rfl]
  cases zti (zQ l) l c out with
  | none=>rfl
  | some x=>exact zn3 l c n _
def zEf (ps:List (List Id)) (l:List Entry) (ids:List Id):Bool := !(List.range ids.length).any fun i=>(ids.drop i).any fun y=>zaG (z8 ps l (nth ids i)) y
theorem ztj (l:List Entry) (ids:List Id):zlR l ids=zEf (zQ l) l ids:=rfl
theorem zer:zQ eL = [[],[],[⟨0,1⟩],[⟨0,1⟩,⟨0,2⟩,⟨1,1⟩]]:=by
 have e:∀ k,k < 4→nth (zQ eL) k=nth [[],[],[⟨0,1⟩],[⟨0,1⟩,⟨0,2⟩,⟨1,1⟩]] k:=by
  intro k hk
  show zaF eL k=_
  rw [← zhP zyr (by rw [zAY]; exact hk)]
  rcases k with _ | _ | _ | _ | k
  ·
   decide +kernel
  ·
   decide +kernel
  ·
   decide +kernel
  ·
   decide +kernel
  ·
   omega
 have hl:(zQ eL).length=4:=by unfold zQ; rw [pastsTo_length]; rfl
 refine ycf (by rw [hl]; rfl) fun i h1 h2=>?_
 rw [← zv _ i h1,← zv _ i h2]
 exact e i (by omega)
theorem zfY (c : Int) (ids : List Id) (h1 : zae eL ids = 0) (h2 : ZI c 1 7 = true) (h3 : zEf [[], [], [⟨0, 1⟩], [⟨0, 1⟩, ⟨0, 2⟩, ⟨1, 1⟩]] eL ids = true)
    (h4:ids.all (fun y => !(decide (zG (zL eL c) y < 0)) && zDV [[],[],[⟨0,1⟩],[⟨0,1⟩,⟨0,2⟩,⟨1,1⟩]] eL c ids y)=true):zx eL c ids=0:=by
  have g3:zlR eL ids=true:=by rw [ztj,zer]; exact h3
  have g4:ids.any (zkr eL c ids)=false:=by
    rw [yaZ]
    intro y hy
    have:=yar.1 h4 y hy
    simp only [yat,yaQ,decide_eq_false_iff_not] at this
    have g5:zhR eL c ids y=true:=by show zDV (zQ eL) eL c ids y=true; rw [zer]; exact this.2
    simp [zkr,this.1,g5]
  simp only [zx,zkv,h1,h2,g3,g4]
  rfl
theorem ztk (c:Int) (ids:List Id) (h:zx eL c ids=0):Zo eL c ids=zpe [[],[],[⟨0,1⟩],[⟨0,1⟩,⟨0,2⟩,⟨1,1⟩]] eL c (zfc eL c ids) ids:=by
 rw [Zo,if_pos h,zf1,zn3,zer]
theorem zg4:zg prog 21 [] [] (.bool true) []:=by
 have b1:zx eL 1 []=0:=zfY 1 [] (by decide +kernel) (by decide +kernel) (by decide +kernel) (by decide +kernel)
 have b2:zx eL 3 [⟨1,1⟩]=0:=zfY 3 [⟨1,1⟩] (by decide +kernel) (by decide +kernel) (by decide +kernel) (by decide +kernel)
 have m1:Zo eL 1 [] = [⟨0,1⟩,⟨0,2⟩,⟨1,1⟩]:=by rw [ztk 1 [] b1]; decide +kernel
 have m2:Zo eL 3 [⟨1,1⟩] = [⟨1,1⟩,⟨0,1⟩,⟨0,2⟩,⟨1,2⟩]:=by rw [ztk 3 _ b2]; decide +kernel
 have i1:zno eL [⟨1,1⟩,⟨0,1⟩,⟨1,2⟩]=0:=by decide +kernel
 have i2:zno eL [⟨1,2⟩,⟨0,1⟩]=0:=by decide +kernel
 have o1:zw7 eL [⟨1,1⟩,⟨0,1⟩,⟨1,2⟩]=true:=by rw [zw7,i1,ztj,zer]; decide +kernel
 have o2:zw7 eL [⟨1,2⟩,⟨0,1⟩]=false:=by rw [zw7,i2,ztj,zer]; decide +kernel
 have hent:=ZE
 rw [znp] at hent
 refine zg.of_walk func21 ntmps21 zzK.1 zzK.2 (by simp) fun x hx=>?_
 simp only [go_sem,L21,R21]
 refine zc (.pure hent) ?_
 simp only [go_sem]
 refine zc (.pureE (zgW eL 1 (by decide)) (by simp [go_sem])) ?_
 simp only [go_sem,b1,m1]
 refine zc (.pure hent) ?_
 simp only [go_sem]
 refine zc (.pure (Zx _ _)) ?_
 simp only [go_sem]
 refine zc (.pureE (zd1 eL 3 [⟨1,1⟩] (by decide) (by decide)) (by simp [go_sem,cId])) ?_
 simp only [go_sem,b2,m2]
 refine zc (.pure hent) ?_
 simp only [go_sem]
 iterate 3
  refine zc (.pure (Zx _ _)) ?_
  simp only [go_sem]
 refine zc (.pureE (zfy eL [⟨1,1⟩,⟨0,1⟩,⟨1,2⟩] (by decide) (by decide)) (by simp [go_sem,cId])) ?_
 simp only [go_sem,i1,o1]
 refine zc (.pure hent) ?_
 simp only [go_sem]
 iterate 2
  refine zc (.pure (Zx _ _)) ?_
  simp only [go_sem]
 refine zc (.pureE (zfy eL [⟨1,2⟩,⟨0,1⟩] (by decide) (by decide)) (by simp [go_sem,cId])) ?_
 simp only [go_sem,i2,o2]
 iterate 3
  refine zc (.pure (Zx _ _)) ?_
  simp only [go_sem]
 refine zc (.pureE (ZS [⟨0,1⟩,⟨0,2⟩,⟨1,1⟩] [⟨0,1⟩,⟨0,2⟩,⟨1,1⟩] (by decide)) (by simp [go_sem,cId])) ?_
 simp only [go_sem]
 iterate 4
  refine zc (.pure (Zx _ _)) ?_
  simp only [go_sem]
 refine zc (.pureE (ZS [⟨1,1⟩,⟨0,1⟩,⟨0,2⟩,⟨1,2⟩] [⟨1,1⟩,⟨0,1⟩,⟨0,2⟩,⟨1,2⟩] (by decide)) (by simp [go_sem,cId])) ?_
 simp only [go_sem]
 refine zd hx ?_
 simp [go_sem,L21,R21]
theorem zpf {l:List Entry} (h:LogOk l) {c:Int}:∀ (n:Nat) (out:List Id),(zez l c n out).length≤out.length + n
 | 0,out=>by simp [zez]
 | n + 1,out=>by
  simp only [zez]
  cases zda l c out with
  | none=>simp
  | some x =>
   have:=zpf h (c:=c) n (out ++ [x])
   rw [yaR] at this
   simp only [yax,yaS] at this
   show (zez l c n (out ++ [x])).length≤_
   omega
def ztG (s:ByteArray):List PV := [.str s]
def zio (l:List Entry) (pl:List Id):List ByteArray:=pl.map fun y=>(nth l (zG l y).toNat).t
def zqu (l:List Entry) (c:Int) (pl:List Id):List ByteArray:=if zx l c pl=0 then zio l pl else []
theorem zn4 {l:List Entry} {pl:List Id} {k:Nat} (h:k < pl.length):zio l (pl.take (k + 1))=zio l (pl.take k) ++ [(nth l (zG l (nth pl k)).toNat).t]:=by
 unfold zio
 rw [yaE h,List.map_append,zv _ _ h]
 rfl
theorem zn5 (l : List Entry) (c : Int) (pl : List Id) (hl : l.length ≤ 9223372036854775806) (hb : pl.length ≤ 9223372036854775806) :
    zg prog 83 [.list (l.map cE),.agg (cCl c pl)] [] (.tup [.list ((zqu l c pl).map ztG),.int .i64 (zx l c pl)]) []:=by
  refine zg.of_walk func83 ntmps83 zAe.1 zAe.2 (by simp) fun x hx=>?_
  simp only [go_sem,L83,R83,cCl]
  refine zc (.pureE (zcd l c pl hl hb) (by simp [go_sem,cCl])) ?_
  by_cases h0:zx l c pl=0
  · obtain ⟨g0,g1,g2,-,-⟩:=zds h0
    have hok:=zaE.1 g0
    have hm:=hok.len
    have hpl:=zcJ hok g1
    have hso:=zgi.1 g1
    simp only [go_sem,h0]
    refine zaM (ZR 7 1 9 1 false false rfl (by omega)) ?_
    refine zy [0,7,17,18,19] 2 (fun n st=>∃ k v:Nat,k + n=pl.length ∧
      st=⟨mkE .top [(0,.list (l.map cE)),(7,.arr 1 v),(17,.list (pl.map cId)),(18,.int .i64 pl.length),(19,.int .i64 k)],[.box (cCl c pl),.arr v false false 9 1 ((zio l (pl.take k)).map ztG)]⟩) pl.length (by simp [hx]) (by simp [St.put]) ?_ ?_
    · refine ⟨0,1,by omega,?_⟩
      simp [zh,go_sem,ze,zf,pos,yaa,cCl,zio]
    · rintro n st ⟨k,v,hk,rfl⟩
      by_cases hlt:k < pl.length
      · have hg:pl[k]? = some (nth pl k):=zk _ _ hlt
        have wk:=zM (k:=k) (by omega)
        have htt:=zn4 (l:=l) hlt
        obtain ⟨i,i1,i2,i3⟩:=z7 (hso.there _ (zjB hlt))
        have hgi:l[i]? = some (nth l i):=zk _ _ i2
        have i0:(0:Int)≤(i:Int):=by omega
        rw [i1,yaB] at htt
        simp only [go_sem,hlt,hg,cId]
        refine zc (.pureE (zaL l (nth pl k) hl) (by simp [go_sem,cId])) ?_
        simp only [go_sem,i1,i0,i2,hgi,cE]
        rw [Zf rfl rfl (by simp) (by simp [zio]; omega)]
        simp only [go_sem,wk]
        refine ⟨by simp,n - 1,by omega,k + 1,v + 1,by omega,?_⟩
        simp [zh,go_sem,ze,zf,pos,yaa,htt,ztG,cCl]
      · have:pl.take k=pl:=yan (by omega)
        simp only [go_sem,hlt,this]
        refine zd hx ?_
        simp [go_sem,L83,R83,zqu,h0,zt,pos]
  · simp only [go_sem,h0]
    refine zd hx ?_
    simp [go_sem,L83,R83,zqu,h0]
theorem zvm {a b:List ByteArray} (hl:a.length=b.length) (h:∀ j,j < a.length→nth a j=nth b j):a=b:=by
 refine ycf hl fun i h1 h2=>?_
 have:=h i h1
 rwa [zv _ _ h1,zv _ _ h2] at this
theorem ziq (a b:List ByteArray) (hm:a.length≤9223372036854775806):zg prog 80 [.list (a.map ztG),.list (b.map ztG)] [] (.bool (decide (a=b))) []:=by
 refine zg.of_walk func80 ntmps80 zuv.1 zuv.2 (by simp) fun x hx=>?_
 by_cases hl:a.length=b.length
 ·
  have hl':((a.length:Int)=(b.length:Int))=True:=by simp [hl]
  simp only [go_sem,L80,R80,hl']
  refine zy [0,1,5] 0 (fun n st=>∃ k:Nat,k + n=a.length∧(∀ j,j < k→nth a j=nth b j) ∧
   st=⟨mkE .top [(0,.list (a.map ztG)),(1,.list (b.map ztG)),(5,.int .i64 k)],[]⟩) a.length (by simp [hx]) (by simp) ?_ ?_
  ·
   refine ⟨0,by omega,fun j h=>by omega,?_⟩
   simp [zh,go_sem,ze,zf,pos,yaa]
  ·
   rintro n st ⟨k,hk,hz,rfl⟩
   simp only [go_sem]
   by_cases hlt:k < a.length
   ·
    have hg:a[k]? = some (nth a k):=zk _ _ hlt
    have hlt2:k < b.length:=by omega
    have hg2:b[k]? = some (nth b k):=zk _ _ hlt2
    have hw:=zM (k:=k) (by omega)
    by_cases he:nth a k=nth b k
    ·
     simp only [go_sem,hlt,hlt2,hg,hg2,ztG,he,hw]
     refine ⟨by simp,n - 1,by omega,k + 1,by omega,fun j hj=>?_,?_⟩
     ·
      by_cases e:j=k
      ·
       rw [e]; exact he
      ·
       exact hz j (by omega)
     ·
      simp [zh,go_sem,ze,zf,pos]
    ·
     simp only [go_sem,hlt,hlt2,hg,hg2,ztG,he]
     refine zd hx ?_
     have:¬ a=b:=fun e=>he (by rw [e])
     simp [go_sem,L80,R80,this]
   ·
    simp only [go_sem,hlt,decide_false]
    refine zd hx ?_
    have:a=b:=zvm hl fun j hj=>hz j (by omega)
    simp [go_sem,L80,R80,this]
 ·
  have hl':((a.length:Int)=(b.length:Int))=False:=by simp; omega
  simp only [go_sem,L80,R80,hl']
  refine zd hx ?_
  have:¬ a=b:=fun e=>hl (by rw [e])
  simp [go_sem,L80,R80,this]
end Go.Proofs.YtkcahmbcpkjpiaaGreatDoor
