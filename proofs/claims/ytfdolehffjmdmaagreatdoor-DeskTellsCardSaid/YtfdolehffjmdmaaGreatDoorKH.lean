/- Joined texts of this claim: J3 J4 L26 F18 J6 V13 V14 L30 Open Op1 Op2 Op4 Op7 Op8 Op10 Card. -/
import Derived.Test.YtfdolehffjmdmaaGreatDoorKG
import Derived.Test.YtfdolehffjmdmaaGreatDoorKF
import Derived.Test.YtfdolehffjmdmaaGreatDoorKE
import Derived.Test.YtfdolehffjmdmaaGreatDoorProg
import Derived.Test.YtfdolehffjmdmaaGreatDoorKB
import Derived.ProofKit
import Derived.OpenShut
import Derived.Carry
import Derived.SizedLaws
import Derived.Test.YtfdolehffjmdmaaGreatDoorKC
import Derived.LaidMore
import Derived.Lay
import Derived.SevenTiedAt
import Derived.Stop.Joined
import Derived.JoinedCond
set_option linter.unusedSimpArgs false
set_option linter.unusedVariables false
set_option linter.unusedSectionVars false
/- Texts of logs (desk.Text,Same; the law text's TextOf). -/
namespace Go.Proofs.YtfdolehffjmdmaaGreatDoor
set_option linter.unusedSimpArgs false
set_option linter.unusedVariables false
open Go.RowKit
theorem op_words {t:ByteArray} (h:(opOf t).1≠0):(opOf t).2.1.size≤3∧(opOf t).2.2.size≤3:=by
 unfold opOf at h ⊢
 split
 ·
  split
  ·
   rename_i hc
   have a:=word_len hc.2.1
   have b:=word_len hc.2.2
   exact ⟨a.2,b.2⟩
  ·
   rename_i hc
   simp [*] at h
 ·
  split
  ·
   rename_i hc
   have a:=word_len hc.2
   exact ⟨a.2,Nat.zero_le _⟩
  ·
   rename_i hc
   simp [*] at h
 ·
  simp [*] at h
theorem raw_ok {l:List Entry} (c:Int) (h:LogOk l):okM (rawL l c):=by
 have hm:=h.len
 have hr:=rawL_len l c
 have hin:∀ k v,inM (rawL l c) k v→k.size≤3∧v.size≤3:=fun k v hv=>by
  obtain ⟨i,-,⟨s1,-,-⟩,e1,e2⟩:=(raw_iff h).1 hv
  obtain ⟨a,b⟩:=op_words (t:=(nth l i).t) (by omega)
  rw [e1] at a
  rw [e2] at b
  exact ⟨a,b⟩
 refine ⟨by omega,fun p hp=>?_⟩
 obtain ⟨hu,hne⟩:=(raw_good l c).1.vals p hp
 obtain ⟨v,hv⟩:=List.exists_mem_of_ne_nil _ hne
 refine ⟨(hin p.1 v ⟨p,hp,rfl,hv⟩).1,?_,fun v hv=>(hin p.1 v ⟨p,hp,rfl,hv⟩).2⟩
 have hp2:=hp
 rw [← raw_map h] at hp2
 obtain ⟨k',-,h2⟩:=List.mem_filterMap.1 hp2
 unfold mapOne at h2
 split at h2
 ·
  cases h2
 ·
  cases h2
  have:=(valsTo_up l c k' l.length).2
  show (valsTo l c k' l.length).length≤_
  omega
noncomputable def textL (l:List Entry) (c:Int):ByteArray:=if mapErr l c=0 then wrL (rawL l c) else nilB
theorem text_meets (l:List Entry) (c:Int) (hl:l.length≤9223372036854775806):Meets Tryz.prog 25 [.list (l.map cE),.int .i64 c] [] (.tup [.str (textL l c),.int .i64 (mapErr l c)]) []:=by
 refine Meets.of_walk Tryz.func25 Tryz.ntmps25 low25 res25 (by simp) fun x hx=>?_
 simp only [go_sem,L25,R25]
 refine ops_call (.pureE (map_meets l c hl) (by simp [go_sem])) ?_
 by_cases h:mapErr l c=0
 ·
  obtain ⟨hok,-⟩:=mapErr_ok.1 h
  have e1:mapL l c=rawL l c:=by rw [mapL,if_pos h]
  have e2:textL l c=wrL (rawL l c):=by rw [textL,if_pos h]
  rw [e1,e2,h]
  simp only [go_sem,intS,Int.reduceLT,Int.reduceLE,Int.reduceToNat,Int.reduceAdd,frz]
  refine ops_call (.pureE (written_meets (rawL l c) (raw_ok c hok)) (by simp [go_sem])) ?_
  simp only [go_sem,intS,Int.reduceLT,Int.reduceLE,Int.reduceToNat,Int.reduceAdd,frz]
  refine ret_pure hx ?_
  simp [go_sem,L25,R25]
 ·
  have e2:textL l c=nilB:=by rw [textL,if_neg h]
  rw [e2]
  simp only [go_sem,intS,Int.reduceLT,Int.reduceLE,Int.reduceToNat,Int.reduceAdd,frz,h]
  refine ret_pure hx ?_
  simp [go_sem,L25,R25,nilB]
def sameErr (ss:List Si) (ys:List (List Entry)) (c:Int):Int:=if woErr ss ys=0 then (if wthn c 1 7=true then 0 else 3) else woErr ss ys
noncomputable def sameT (p q:List Entry) (c:Int):Bool:=decide (wrL (rawL p c)=wrL (rawL q c))
noncomputable def sameOf (ss:List Si) (ys:List (List Entry)) (c:Int):Bool:=if sameErr ss ys c=0 then sameT (nth ss 0).2.1 (nth ss 1).2.1 c else false
set_option maxHeartbeats 4000000 in
theorem same_meets (ss : List Si) (ys : List (List Entry)) (c : Int) (hs : ss.length ≤ 1000000000000000) (hy : ys.length ≤ 1000000000000000) (ho : okSs ss) (hoy : okYs ys) :
    Meets Tryz.prog 26 [.agg (cWd ss ys),.int .i64 c] [] (.tup [.bool (sameOf ss ys c),.int .i64 (sameErr ss ys c)]) []:=by
  refine Meets.of_walk Tryz.func26 Tryz.ntmps26 low26 res26 (by simp) fun x hx=>?_
  simp only [go_sem,L26,R26,cWd]
  refine ops_call (.pureE (worldCheck_meets ss ys hs hy ho hoy) (by simp [go_sem,cWd])) ?_
  by_cases h:woErr ss ys=0
  · obtain ⟨w,rfl,rfl,hw⟩:=woErr_inv h
    simp only [go_sem,intS,Int.reduceLT,Int.reduceLE,Int.reduceToNat,Int.reduceAdd,frz,h]
    refine ops_call (.pureE (colors_meets c) (by simp [go_sem])) ?_
    cases hc:wthn c 1 7
    · have e:sameErr w.ss w.ys c=3:=by rw [sameErr,if_pos h,if_neg (by simp [hc])]
      simp only [go_sem,intS,Int.reduceLT,Int.reduceLE,Int.reduceToNat,Int.reduceAdd,frz]
      refine ret_pure hx ?_
      simp [go_sem,L26,R26,sameOf,e]
    · have e:sameErr w.ss w.ys c=0:=by rw [sameErr,if_pos h,if_pos hc]
      have hp:=hw.log (i:=0) (.inl rfl)
      have hq:=hw.log (i:=1) (.inr rfl)
      have hp:LogOk w.p:=hp
      have hq:LogOk w.q:=hq
      simp only [go_sem,intS,Int.reduceLT,Int.reduceLE,Int.reduceToNat,Int.reduceAdd,frz,Wo.ss,Wo.ys,cSi3,cSi,List.map_cons,List.map_nil,List.length_cons,List.length_nil]
      refine ops_call (.pureE (fraw_meets w.p c hp hc (fun e hem=>by have:=log_t hp e hem; omega)) (by simp [go_sem])) ?_
      simp only [go_sem]
      refine ops_call (.pureE (written_meets (rawL w.p c) (raw_ok c hp)) (by simp [go_sem])) ?_
      simp only [go_sem,intS,Int.reduceLT,Int.reduceLE,Int.reduceToNat,Int.reduceAdd,frz,Wo.ss,Wo.ys,cSi3,cSi,List.map_cons,List.map_nil,List.length_cons,List.length_nil]
      refine ops_call (.pureE (fraw_meets w.q c hq hc (fun e hem=>by have:=log_t hq e hem; omega)) (by simp [go_sem])) ?_
      simp only [go_sem]
      refine ops_call (.pureE (written_meets (rawL w.q c) (raw_ok c hq)) (by simp [go_sem])) ?_
      simp only [go_sem]
      repeat refine ⟨rfl,?_⟩
      refine ret_pure hx ?_
      have e2:sameOf w.ss w.ys c=sameT w.p w.q c:=by rw [sameOf,if_pos e]; rfl
      have e3:sameErr [(0,w.p,w.u),(1,w.q,w.v)] [w.a,w.b] c=0:=e
      have e4:sameOf [(0,w.p,w.u),(1,w.q,w.v)] [w.a,w.b] c=sameT w.p w.q c:=e2
      simp [go_sem,L26,R26,e3,e4,Wo.ss,Wo.ys,sameT]
  · have e:sameErr ss ys c=woErr ss ys:=by rw [sameErr,if_neg h]
    simp only [go_sem,intS,Int.reduceLT,Int.reduceLE,Int.reduceToNat,Int.reduceAdd,frz,h]
    refine ret_pure hx ?_
    simp [go_sem,L26,R26,sameOf,e,h]
end Go.Proofs.YtfdolehffjmdmaaGreatDoor
/- The law text's TextOf. -/
namespace Go.Proofs.YtfdolehffjmdmaaGreatDoor
set_option linter.unusedSimpArgs false
set_option linter.unusedVariables false
open Go.RowKit
theorem join_take {l:List ByteArray} {k:Nat} (h:k < l.length):joinB (l.take (k + 1)) commaB=(if k=0 then joinB (l.take k) commaB else joinB (l.take k) commaB ++ commaB) ++ nth l k:=by
 cases l with
 | nil=>simp at h
 | cons x r =>
  cases k with
  | zero =>
   refine ba_ext ?_
   rw [if_pos rfl,joinB_data,ByteArray.data_append,Array.toList_append,joinB_data]
   simp [Lib.join_one,Lib.join_nil,nth]
  | succ j =>
   have hj:j < r.length:=by simpa using h
   have hg:r[j]? = some (nth r j):=nth_get? _ _ hj
   have hn:nth (x :: r) (j + 1)=nth r j:=by simp [nth]
   refine ba_ext ?_
   rw [if_neg (by omega),joinB_data,ByteArray.data_append,ByteArray.data_append,Array.toList_append,Array.toList_append,joinB_data,List.take_succ_cons,List.map_cons,List.map_take,Lib.join_cons,
    Lib.joinTail_take_succ _ _ j (nth r j).data.toList (by rw [List.getElem?_map,hg]; rfl),List.take_succ_cons,List.map_cons,List.map_take,Lib.join_cons,hn]
   simp
theorem part_split (s:ByteArray) (p:KV):s ++ (p.1 ++ eqB) ++ joinB p.2 commaB ++ semiB=s ++ wrPart p:=by
 refine ba_ext ?_
 have e:(s ++ wrPart p).data.toList=s.data.toList ++ (wrPart p).data.toList:=by rw [ByteArray.data_append,Array.toList_append]
 rw [e,part_data]
 simp [ByteArray.data_append,eqB,semiB]
theorem join_none (s:ByteArray):s ++ joinB [] commaB=s:=by
 refine ba_ext ?_
 rw [ByteArray.data_append,Array.toList_append,joinB_nil]
 simp
theorem join_size {l:List ByteArray} (h:∀ v ∈ l,v.size≤3) (j:Nat) (hj:j≤l.length):(joinB (l.take j) commaB).size≤4 * j:=by
 have:=join_le (l:=l.take j) fun v hv=>h v (List.mem_of_mem_take hv)
 rw [← joinB_data,sz_list,List.length_take] at this
 omega
set_option maxRecDepth 20000 in
set_option maxHeartbeats 8000000 in
theorem textOf_meets (l:List Entry) (c:Int) (h:LogOk l) (hc:wthn c 1 7=true):Meets Tryz.prog 30 [.list (l.map cE),.int .i64 c] [] (.str (wrL (mapR l c))) []:=by
 have hok:=raw_ok c h
 rw [← raw_map h] at hok
 have hlen:=hok.1
 refine Meets.of_walk Tryz.func30 Tryz.ntmps30 low30 res30 (by simp) fun x hx=>?_
 simp only [go_sem,L30,R30]
 refine ops_call (.pureE (mapOf_meets l c h hc) (by simp [go_sem])) ?_
 generalize mapR l c=m at *
 simp only [go_sem,intS,Int.reduceLT,Int.reduceLE,Int.reduceToNat,Int.reduceAdd,frz]
 refine loop_inv [5,6,7] 0 (fun q st=>∃ k:Nat,k + q=m.length ∧
  st=⟨mkE .top [(5,.list (m.map cPair)),(6,.str (wrL (m.take k))),(7,.int .i64 k)],[]⟩) m.length (by simp [hx]) (by simp) ?_ ?_
 ·
  refine ⟨0,by omega,?_⟩
  simp [trim_mk,go_sem,subHeap,renObj,renCell,renLeaf,pos,List.range_succ,wrL,nilB]
 ·
  rintro q st ⟨k,hk,rfl⟩
  by_cases hlt:k < m.length
  ·
   have hg:m[k]? = some (nth m k):=nth_get? _ _ hlt
   have wk:=i64_up (k:=k) (by omega)
   obtain ⟨a,b,d⟩:=hok.2 _ (nthM hlt)
   have hwl:=wr_le hok k (by omega)
   have hst:=wr_take hlt
   have hps:=part_split (wrL (m.take k)) (nth m k)
   generalize nth m k=p at *
   obtain ⟨S,hS⟩:∃ S,wrL (m.take k)=S:=⟨_,rfl⟩
   rw [hS] at hwl hst hps ⊢
   have z1:p.1.size + (#[61]:Array UInt8).size≤4611686018427387904:=by show _ + 1≤_; omega
   have z2:S.size + (p.1.size + (#[61]:Array UInt8).size)≤4611686018427387904:=by show _ + (_ + 1)≤_; omega
   obtain ⟨Q,hQ⟩:∃ Q,S ++ (p.1 ++ ⟨#[61]⟩)=Q:=⟨_,rfl⟩
   have hQz:Q.size≤4000005 * k + 4:=by rw [← hQ,ByteArray.size_append,ByteArray.size_append]; show _ + (_ + 1)≤_; omega
   have hps:Q ++ joinB p.2 commaB ++ semiB=S ++ wrPart p:=by rw [← hQ]; exact hps
   simp only [go_sem,intS,Int.reduceLT,Int.reduceLE,Int.reduceToNat,Int.reduceAdd,frz,hlt,hg,z1,z2,cPair,hQ]
   refine loop_inv [5,6,7,8] 0 (fun q2 st=>∃ j:Nat,j + q2=p.2.length ∧
    st=⟨mkE .top [(5,.list (m.map cPair)),(6,.str (Q ++ joinB (p.2.take j) commaB)),(7,.int .i64 k),(8,.int .i64 j)],[]⟩) p.2.length (by simp [hx]) (by simp) ?_ ?_
   ·
    refine ⟨0,by omega,?_⟩
    simp [trim_mk,go_sem,subHeap,renObj,renCell,renLeaf,pos,List.range_succ,join_none]
   ·
    rintro q2 st ⟨j,hj,rfl⟩
    by_cases hlj:j < p.2.length
    ·
     have hgj:p.2[j]? = some (nth p.2 j):=nth_get? _ _ hlj
     have wj:=i64_up (k:=j) (by omega)
     have hjz:=join_size d j (by omega)
     have hvz:=d _ (nthM hlj)
     have hjt:=join_take hlj
     generalize nth p.2 j=v at *
     obtain ⟨T,hT⟩:∃ T,joinB (p.2.take j) commaB=T:=⟨_,rfl⟩
     rw [hT] at hjz hjt ⊢
     by_cases h0:j=0
     ·
      have hj0:¬ ((0:Int) < (j:Int)):=by omega
      have y1:Q.size + T.size + v.size≤4611686018427387904:=by omega
      rw [if_pos h0] at hjt
      simp only [go_sem,intS,Int.reduceLT,Int.reduceLE,Int.reduceToNat,Int.reduceAdd,frz,hlt,hg,hlj,hgj,hj0,y1,wj,cPair,cStr]
      refine ⟨by simp,q2 - 1,by omega,j + 1,by omega,?_⟩
      simp [trim_mk,go_sem,subHeap,renObj,renCell,renLeaf,pos,List.range_succ,hjt,ByteArray.append_assoc]
     ·
      have hj0:(0:Int) < (j:Int):=by omega
      have y1:Q.size + T.size + (#[44]:Array UInt8).size≤4611686018427387904:=by show _ + _ + 1≤_; omega
      have y2:Q.size + T.size + (#[44]:Array UInt8).size + v.size≤4611686018427387904:=by show _ + _ + 1 + _≤_; omega
      rw [if_neg h0] at hjt
      simp only [go_sem,intS,Int.reduceLT,Int.reduceLE,Int.reduceToNat,Int.reduceAdd,frz,hlt,hg,hlj,hgj,hj0,y1,y2,wj,cPair,cStr]
      refine ⟨by simp,q2 - 1,by omega,j + 1,by omega,?_⟩
      rw [hjt]
      simp [trim_mk,go_sem,subHeap,renObj,renCell,renLeaf,pos,List.range_succ,commaB,ByteArray.append_assoc]
    ·
     have:p.2.take j=p.2:=List.take_of_length_le (by omega)
     have hjz:=join_size d p.2.length (Nat.le_refl _)
     rw [List.take_length] at hjz
     rw [this]
     have y1:Q.size + (joinB p.2 commaB).size + (#[59]:Array UInt8).size≤4611686018427387904:=by show _ + _ + 1≤_; omega
     simp only [go_sem,intS,Int.reduceLT,Int.reduceLE,Int.reduceToNat,Int.reduceAdd,frz,hlt,hg,hlj,y1,wk,cPair]
     refine ⟨by simp,q - 1,by omega,k + 1,by omega,?_⟩
     rw [hst,← hps]
     simp [trim_mk,go_sem,subHeap,renObj,renCell,renLeaf,pos,List.range_succ,semiB]
  ·
   have:m.take k=m:=List.take_of_length_le (by omega)
   rw [this]
   simp only [go_sem,intS,Int.reduceLT,Int.reduceLE,Int.reduceToNat,Int.reduceAdd,frz,hlt]
   refine ret_pure hx ?_
   simp [go_sem,L30,R30]
end Go.Proofs.YtfdolehffjmdmaaGreatDoor
/- What must be in any case of worlds. -/
namespace Go.Proofs.YtfdolehffjmdmaaGreatDoor
set_option linter.unusedSimpArgs false
set_option linter.unusedVariables false
open Go.RowKit
def wbT1:ByteArray:=⟨#[112,117,116,32,97,32,120]⟩
def wbT2:ByteArray:=⟨#[112,117,116,32,97,32,121]⟩
def wbT3:ByteArray:=⟨#[112,117,116,32,98,32,122]⟩
def wa1:Entry:=⟨⟨0,1⟩,1,wbT1,[]⟩
def wb1:Entry:=⟨⟨1,1⟩,1,wbT2,[]⟩
def wb2:Entry:=⟨⟨1,2⟩,1,wbT3,[⟨0,1⟩,⟨1,1⟩]⟩
def wbW1:Wo:=⟨[wa1],[],[],[],[],[wa1]⟩
def wbW2:Wo:=⟨[wa1],[],[wb1],[],[wb1],[wa1]⟩
def wbW3:Wo:=⟨[wa1],[],[wb1,wa1],[],[wb1],[]⟩
def wbW4:Wo:=⟨[wa1],[],[wb1,wa1],[],[],[]⟩
def wbW5:Wo:=⟨[wa1],[],[wb1,wa1,wb2],[],[wb2],[]⟩
def wbW6:Wo:=⟨[wa1],[wb2],[wb1,wa1,wb2],[],[],[]⟩
def wbS:Wo:=⟨[wa1,wb1,wb2],[],[wb1,wa1,wb2],[],[],[]⟩
def wbA:List (List PV) := [cAct 1 0 0 1 wbT1,cAct 1 1 0 1 wbT2,cAct 2 1 0 0 ⟨#[]⟩,cAct 3 0 0 0 ⟨#[]⟩,cAct 1 1 0 1 wbT3,cAct 2 0 0 0 ⟨#[]⟩]
theorem wb_h1:sortI (headsC [] 1) = []:=by rw [← heads_eq (log_ok.1 (by decide +kernel))]; decide +kernel
theorem wb_h2:sortI (headsC [wb1,wa1] 1) = [⟨0,1⟩,⟨1,1⟩]:=by rw [← heads_eq (log_ok.1 (by decide +kernel))]; decide +kernel
theorem wb_ok0:WoOk wNew:=woErr_ok.1 (by decide +kernel)
theorem wb_ok6:WoOk wbW6:=woErr_ok.1 (by decide +kernel)
theorem wb_a1:apE 0 [] 1 wbT1=wa1:=by rw [apE,wb_h1]; rfl
theorem wb_a2:apE 1 [] 1 wbT2=wb1:=by rw [apE,wb_h1]; rfl
theorem wb_a3:apE 1 [wb1,wa1] 1 wbT3=wb2:=by rw [apE,wb_h2]; rfl
theorem wb_x1:apErr 0 [] 1 wbT1=0:=by rw [apErr,wb_h1]; decide +kernel
theorem wb_x2:apErr 1 [] 1 wbT2=0:=by rw [apErr,wb_h1]; decide +kernel
theorem wb_x3:apErr 1 [wb1,wa1] 1 wbT3=0:=by rw [apErr,wb_h2]; decide +kernel
theorem doErr_app {w:Wo} {i c:Int} {t:ByteArray} (hi:i=0∨i=1) (h:apErr i (w.log i) c t=0):doErr w 1 i 0 c t=0:=by
 rw [doErr,if_neg (by decide),if_neg (by simp [extraB]),if_neg (by simp [hi]),doErr0,if_pos rfl,h]
theorem doW_app {w:Wo} {i c:Int} {t:ByteArray} {e:Entry} (h:apE i (w.log i) c t=e):doW w 1 i 0 c t=sendW (w.setS i (settled (w.log i ++ [e]) (w.wts i))) (1 - i) e:=by
 rw [doW,if_pos rfl,h]
theorem wb_y1:doErr wNew 1 0 0 1 wbT1=0:=doErr_app (w:=wNew) (.inl rfl) wb_x1
theorem wb_y2:doErr wbW1 1 1 0 1 wbT2=0:=doErr_app (w:=wbW1) (.inr rfl) wb_x2
theorem wb_y5:doErr wbW4 1 1 0 1 wbT3=0:=doErr_app (w:=wbW4) (.inr rfl) wb_x3
theorem wb_y3:doErr wbW2 2 1 0 0 ⟨#[]⟩=0:=by decide +kernel
theorem wb_z3:doW wbW2 2 1 0 0 ⟨#[]⟩=wbW3:=by kernel_rfl
theorem wb_y4:doErr wbW3 3 0 0 0 ⟨#[]⟩=0:=by decide +kernel
theorem wb_z4:doW wbW3 3 0 0 0 ⟨#[]⟩=wbW4:=by kernel_rfl
theorem wb_y6:doErr wbW5 2 0 0 0 ⟨#[]⟩=0:=by decide +kernel
theorem wb_z6:doW wbW5 2 0 0 0 ⟨#[]⟩=wbW6:=by kernel_rfl
theorem wb_s:stW wbW6=wbS:=by kernel_rfl
theorem acts_meets:Meets Tryz.prog 77 [] [] (.list wbA) []:=by
 refine Meets.of_walk Tryz.func77 Tryz.ntmps77 low77 res77 (by simp) fun x hx=>?_
 simp only [go_sem,L77,R77]
 refine ret_pure hx ?_
 simp [go_sem,L77,R77,wbA,cAct,wbT1,wbT2,wbT3]
end Go.Proofs.YtfdolehffjmdmaaGreatDoor
/- FoldTells,as a contract. -/
namespace Go.Proofs.YtfdolehffjmdmaaGreatDoor
set_option linter.unusedSimpArgs false
set_option linter.unusedVariables false
open Go.RowKit
def entsF:List Entry := [e0,e1,e2,e3]
theorem ents_check:checkLog entsF=0:=by decide +kernel
theorem ents_map:mapR entsF 3 = [(⟨#[97]⟩,[⟨#[121]⟩]),(⟨#[98]⟩,[⟨#[122]⟩])]:=by decide +kernel
theorem ents_raw:rawL entsF 3 = [(⟨#[97]⟩,[⟨#[121]⟩]),(⟨#[98]⟩,[⟨#[122]⟩])]:=by rw [← raw_map (log_ok.1 ents_check),ents_map]
end Go.Proofs.YtfdolehffjmdmaaGreatDoor
/- What must be in any case of desks. -/
namespace Go.Proofs.YtfdolehffjmdmaaGreatDoor
set_option linter.unusedSimpArgs false
set_option linter.unusedVariables false
open Go.RowKit
def acL:List Ac := [(1,0,0,1,wbT1),(1,1,0,1,wbT2),(2,1,0,0,⟨#[]⟩),(3,0,0,0,⟨#[]⟩),(1,1,0,1,wbT3),(2,0,0,0,⟨#[]⟩)]
theorem acL_rows:wbA=acL.map cAc:=rfl
theorem ac1:runStep (wNew,[]) (1,0,0,1,wbT1)=(wbW1,[0]):=by
 have e:acErr wNew (1,0,0,1,wbT1)=0:=wb_y1
 rw [runStep,e,acW,if_pos e,doW_app (w:=wNew) (e:=wa1) wb_a1]; rfl
theorem ac2:runStep (wbW1,[0]) (1,1,0,1,wbT2)=(wbW2,[0,0]):=by
 have e:acErr wbW1 (1,1,0,1,wbT2)=0:=wb_y2
 rw [runStep,e,acW,if_pos e,doW_app (w:=wbW1) (e:=wb1) wb_a2]; rfl
theorem ac3:runStep (wbW2,[0,0]) (2,1,0,0,⟨#[]⟩)=(wbW3,[0,0,0]):=by
 have e:acErr wbW2 (2,1,0,0,⟨#[]⟩)=0:=wb_y3
 rw [runStep,e,acW,if_pos e]
 show (doW wbW2 2 1 0 0 ⟨#[]⟩,_)=_
 rw [wb_z3]; rfl
theorem ac4:runStep (wbW3,[0,0,0]) (3,0,0,0,⟨#[]⟩)=(wbW4,[0,0,0,0]):=by
 have e:acErr wbW3 (3,0,0,0,⟨#[]⟩)=0:=wb_y4
 rw [runStep,e,acW,if_pos e]
 show (doW wbW3 3 0 0 0 ⟨#[]⟩,_)=_
 rw [wb_z4]; rfl
theorem ac5:runStep (wbW4,[0,0,0,0]) (1,1,0,1,wbT3)=(wbW5,[0,0,0,0,0]):=by
 have e:acErr wbW4 (1,1,0,1,wbT3)=0:=wb_y5
 rw [runStep,e,acW,if_pos e,doW_app (w:=wbW4) (e:=wb2) wb_a3]; rfl
theorem ac6:runStep (wbW5,[0,0,0,0,0]) (2,0,0,0,⟨#[]⟩)=(wbW6,[0,0,0,0,0,0]):=by
 have e:acErr wbW5 (2,0,0,0,⟨#[]⟩)=0:=wb_y6
 rw [runStep,e,acW,if_pos e]
 show (doW wbW5 2 0 0 0 ⟨#[]⟩,_)=_
 rw [wb_z6]; rfl
theorem acL_run:runW acL=(wbW6,[0,0,0,0,0,0]):=by
 rw [runW,acL,List.foldl_cons,ac1,List.foldl_cons,ac2,List.foldl_cons,ac3,List.foldl_cons,ac4,List.foldl_cons,ac5,List.foldl_cons,ac6]; rfl
theorem sameT_map {p q:List Entry} {c:Int} (hp:LogOk p) (hq:LogOk q):sameT p q c=decide (wrL (mapR p c)=wrL (mapR q c)):=by
 rw [sameT,raw_map hp,raw_map hq]
theorem same6:sameOf wbW6.ss wbW6.ys 1=false∧sameErr wbW6.ss wbW6.ys 1=0:=by
 have e:sameErr wbW6.ss wbW6.ys 1=0:=by decide +kernel
 refine ⟨?_,e⟩
 rw [sameOf,if_pos e]
 show sameT wbW6.p wbW6.q 1=false
 rw [sameT_map (log_ok.1 (by decide +kernel)) (log_ok.1 (by decide +kernel))]
 decide +kernel
theorem wbS_ok:WoOk wbS:=by rw [← wb_s]; exact (stW_ok wb_ok6).1
theorem sameS:sameOf wbS.ss wbS.ys 1=true∧sameErr wbS.ss wbS.ys 1=0:=by
 have e:sameErr wbS.ss wbS.ys 1=0:=by decide +kernel
 refine ⟨?_,e⟩
 rw [sameOf,if_pos e]
 show sameT wbS.p wbS.q 1=true
 rw [sameT_map (log_ok.1 (by decide +kernel)) (log_ok.1 (by decide +kernel))]
 decide +kernel
theorem ents_text:textL entsF 3=⟨#[97,61,121,59,98,61,122,59]⟩:=by
 have e:mapErr entsF 3=0:=by decide +kernel
 rw [textL,if_pos e,ents_raw]
 decide +kernel
set_option maxRecDepth 20000 in
set_option maxHeartbeats 4000000 in
theorem deskBegun_meets:Meets Tryz.prog 31 [] [] (.bool true) []:=by
 have h1:=run_meets acL (by decide)
 rw [if_neg (by decide),acL_run] at h1
 have h2:=text_meets entsF 3 (by decide)
 have hme:mapErr entsF 3=0:=by decide +kernel
 rw [ents_text,hme] at h2
 obtain ⟨o1,o2⟩:=okSs_of wb_ok6
 have h3:=same_meets wbW6.ss wbW6.ys 1 (by simp [Wo.ss]) (by simp [Wo.ys]) o1 o2
 rw [same6.1,same6.2] at h3
 have h4:=settle_ok wbW6 wb_ok6
 rw [wb_s] at h4
 obtain ⟨o3,o4⟩:=okSs_of wbS_ok
 have h5:=same_meets wbS.ss wbS.ys 1 (by simp [Wo.ss]) (by simp [Wo.ys]) o3 o4
 rw [sameS.1,sameS.2] at h5
 have hac:=acts_meets
 rw [acL_rows] at hac
 refine Meets.of_walk Tryz.func31 Tryz.ntmps31 low31 res31 (by simp) fun x hx=>?_
 simp only [go_sem,L31,R31]
 refine ops_call (.pure hac) ?_
 simp only [go_sem]
 refine ops_call (.pureE h1 (by simp [go_sem])) ?_
 simp only [go_sem,intS,Int.reduceLT,Int.reduceLE,Int.reduceToNat,Int.reduceAdd,frz,cWo,cWd]
 refine ops_call (.pure entries_meets) ?_
 simp only [go_sem,intS,Int.reduceLT,Int.reduceLE,Int.reduceToNat,Int.reduceAdd,frz]
 refine ops_call (.pureE h2 (by simp [go_sem,entsF])) ?_
 simp only [go_sem,intS,Int.reduceLT,Int.reduceLE,Int.reduceToNat,Int.reduceAdd,frz,cWo,cWd]
 refine ops_call (.pureE h3 (by simp [go_sem,cWd])) ?_
 simp only [go_sem,intS,Int.reduceLT,Int.reduceLE,Int.reduceToNat,Int.reduceAdd,frz,cWo,cWd]
 refine ops_call (.pureE h4 (by simp [go_sem,cWo,cWd])) ?_
 simp only [go_sem,intS,Int.reduceLT,Int.reduceLE,Int.reduceToNat,Int.reduceAdd,frz,cWo,cWd]
 refine ops_call (.pureE h5 (by simp [go_sem,cWd])) ?_
 have hb:((⟨#[97,61,121,59,98,61,122,59]⟩:ByteArray)=⟨#[97,61,121,59,98,61,122,59]⟩)=True:=eq_self _
 simp only [go_sem,intS,Int.reduceLT,Int.reduceLE,Int.reduceToNat,Int.reduceAdd,frz,cWo,cWd,hb,List.map_cons,List.map_nil,List.length_cons,List.length_nil,decide_true]
 refine ret_pure hx ?_
 simp [go_sem,L31,R31]
end Go.Proofs.YtfdolehffjmdmaaGreatDoor
/- Worlds,in the law text's words: NewWorld,CopyWorld,without,AllAt,DoOf: contracts. -/
namespace Go.Proofs.YtfdolehffjmdmaaGreatDoor
set_option linter.unusedSimpArgs false
set_option linter.unusedVariables false
open Go.RowKit
theorem weak_imp {x:Cx} {nt:Nat} {st:St} (id:Nat) {v T sz:Nat} {rows:List (List PV)} (h:st.heap[id]? = some (.arr v true false T sz rows)):Weak x nt st ⟨st.env,st.heap.set id (.arr v true true T sz rows)⟩:=by
 intro a w ⟨⟨C,hr,he⟩,hdf,hs⟩
 obtain ⟨k1,k2⟩:=hr.change (C':=C) (ob' := .arr v true true T sz rows) h (step_refl w) rfl (fun _=>rfl) (fun _ _=>⟨rfl,rfl⟩) (.inl ⟨rfl,rfl⟩)
  (fun b o _ hf hb=>by have:=hf hb; simp at this) (fun b o _ _=>rfl) (fun b h => .inl h)
  (fun hm hmp=>by
   obtain ⟨o1,o2,o3,xs,o4,o5⟩:=hr.obj id _ h
   refine ⟨o1,o2,o3,xs,o4,fun k row j p u a b c=>?_⟩
   obtain ⟨e1,e2⟩:=o5 k row j p u a b c
   refine ⟨e1,?_⟩
   simp only [Bool.false_eq_true,if_false,if_true] at e2 ⊢
   exact .pure (hmp _ _ e2))
 exact ⟨⟨C,k1,fun u=>k2 _ _ (he u)⟩,hdf,hs⟩
theorem newWorld_meets:Meets Tryz.prog 28 [] [] (.agg (cWo wNew)) []:=by
 have h0:Meets Tryz.prog 28 [] [] (.agg [.list [[.int .i64 0,.nilsl,.nilsl],[.int .i64 1,.nilsl,.nilsl]],.list [[.nilsl],[.nilsl]]]) []:=by
  refine Meets.of_walk Tryz.func28 Tryz.ntmps28 low28 res28 (by simp) fun x hx=>?_
  simp only [go_sem,L28,R28,intS,Int.reduceLT,Int.reduceLE,Int.reduceToNat,Int.reduceAdd,frz]
  refine ret_pure hx ?_
  simp [go_sem,L28,R28]
 exact Meets.nl 4 h0 rfl
theorem cYs_row (ys:List (List Entry)):∀ row ∈ cYs ys,row.length=1:=fun row h=>by
 obtain ⟨w,-,rfl⟩:=List.mem_map.1 h; rfl
def hCW (w w2:Wo):List AObj := [.arr 2 true false 49 3 (w.ss.map cSi3),.arr 2 true true 22 1 (cYs w2.ys)]
theorem copyWorld_meets (w:Wo):Meets Tryz.prog 73 [.agg (cWo w)] [] (.agg [.arr 0 2,.arr 1 2]) (hCW w w):=by
 refine Meets.of_walk Tryz.func73 Tryz.ntmps73 low73 res73 (by simp) fun x hx=>?_
 simp only [go_sem,L73,R73,cWo,cWd]
 rw [app_arr rfl rfl (cSi3_row _) (by simp [Wo.ss])]
 simp only [go_sem]
 rw [app_arr rfl rfl (cYs_row _) (by simp [cYs,Wo.ys])]
 simp only [go_sem]
 repeat refine ⟨rfl,?_⟩
 refine ret_weak (weak_imp 3 rfl) ?_
 refine ret_keep [2,3] (by simp) (by simp [hx]) (by simp [hx]) ?_ ?_
 ·
  simp [go_sem,L73,R73,hx,pos]
 ·
  simp [subHeap,renObj,renCell,renLeaf,hx,pos,go_sem,hCW,List.range_succ,cYs,Wo.ys]
theorem without_meets (l:List Entry) (n:Nat) (hn:n < l.length) (hl:l.length≤1000000):Meets Tryz.prog 76 [.list (l.map cE),.int .i64 n] [] (.list ((l.eraseIdx n).map cE)) []:=by
 have h1:List.take n (l.map cE)=(l.take n).map cE:=by rw [List.map_take]
 have h2:List.drop (n + 1) (l.map cE)=(l.drop (n + 1)).map cE:=by rw [List.map_drop]
 have hle:n≤l.length:=by omega
 have hle1:n + 1≤l.length:=by omega
 have wn:=i64_up (k:=n) (by omega)
 have hrow:(∀ row ∈ List.map cE l,row.length=5)=True:=eq_true (cE_row l)
 refine Meets.of_walk Tryz.func76 Tryz.ntmps76 low76 res76 (by simp) fun x hx=>?_
 simp only [go_sem,L76,R76,h1,h2,hle,hle1,wn,hrow,intS,Int.reduceLT,Int.reduceLE,Int.reduceToNat,Int.reduceAdd,frz,Int.sub_zero,Int.natCast_nonneg]
 have hte:∀ row ∈ (l.take n).map cE,row.length=5:=cE_row _
 have hdr:∀ row ∈ (l.drop (n + 1)).map cE,row.length=5:=cE_row _
 rw [app_arr rfl rfl hte (by simp; omega)]
 simp only [go_sem,L76,R76,h1,h2,hle,hle1,wn,hrow,intS,Int.reduceLT,Int.reduceLE,Int.reduceToNat,Int.reduceAdd,frz,Int.sub_zero,Int.natCast_nonneg]
 have h3:List.take ((l.length:Int) - ((n + 1:Nat):Int)).toNat ((l.drop (n + 1)).map cE)=(l.drop (n + 1)).map cE:=List.take_of_length_le (by simp; omega)
 rw [h3,app_arr rfl rfl hdr (by simp; omega)]
 have h4:(l.take n).map cE ++ (l.drop (n + 1)).map cE=(l.eraseIdx n).map cE:=by rw [← List.map_append,← List.eraseIdx_eq_take_drop_succ]
 simp only [go_sem,h4]
 repeat refine ⟨rfl,?_⟩
 refine ret_weak (weak_shut 0 rfl) ?_
 refine ret_pure hx ?_
 simp [go_sem,L76,R76,frzAt,pos,frz]
set_option maxHeartbeats 4000000 in
theorem allAt_meets (w : Wo) (i : Int) (hi : i = 0 ∨ i = 1) (hs : siErr i (w.log i) (w.wts i) = 0) (hB : LogOk (w.log (1 - i))) :
    Meets Tryz.prog 72 [.agg (cWo w),.int .i64 i] [] (.tup [.agg (cWo (w.setS i (allW w i).2)),.int .i64 0]) []:=by
  have hchk:∀ k,∀ e ∈ (w.log (1 - i)).take k,checkEntry e=0:=fun k e he=>hB.mem_chk (List.mem_of_mem_take he)
  have hlen:=hB.len
  rcases hi with rfl | rfl
  · have hB:LogOk w.q:=hB
    have hlen:w.q.length≤40:=hlen
    have hchk:∀ k,∀ e ∈ w.q.take k,checkEntry e=0:=hchk
    have hs:siErr 0 w.p w.u=0:=hs
    show Meets _ _ _ _ (.tup [.agg (cWo (w.setS 0 (allN 0 w.q w.p w.u).2)),.int .i64 0]) _
    have k10:IntKind.i64.wrap (1 - 0)=1:=by decide
    refine Meets.of_walk Tryz.func72 Tryz.ntmps72 low72 res72 (by simp) fun x hx=>?_
    simp only [go_sem,L72,R72,cWo,cWd]
    refine ops_call (.heapE [] (r' := .agg [.arr 2 2,.arr 3 2]) (H' := [.box (cWo w),.box [.nilsl,.nilsl]] ++ hCW w w) (copyWorld_meets w) (by simp) (by simp) (by simp [go_sem,cWo,cWd]) rfl rfl rfl) ?_
    simp only [go_sem,hCW,cWo,cWd,Wo.ss,Wo.ys,cSi3,cSi,intS,Int.reduceLT,Int.reduceLE,Int.reduceToNat,Int.reduceAdd,frz,List.map_cons,List.map_nil,List.cons_append,List.nil_append,k10]
    refine loop_inv [1,4,6,7,8] 5 (fun m st=>∃ k:Nat,k + m=w.q.length ∧
      st=⟨mkE .top [(1,.int .i64 0),(4,.ptr 1 0),(6,.ptr 4 0),(7,.list (w.q.map cE)),(8,.int .i64 k)],[.box (cWo w),.box [.nilsl,.nilsl]] ++ hCW (w.setS 0 (allN 0 (w.q.take k) w.p w.u).2) w ++ [.box [.arr 2 2,.arr 3 2]]⟩) w.q.length (by simp [hx]) (by simp [hCW]) ?_ ?_
    · refine ⟨0,by omega,?_⟩
      simp [trim_mk,go_sem,subHeap,renObj,renCell,renLeaf,pos,List.range_succ,hCW,cWo,cWd,Wo.ss,Wo.ys,cYs,cSi3,cSi,allN,Wo.setS]
    · rintro m st ⟨k,hk,rfl⟩
      have hok:=hchk k
      obtain ⟨a1,a2,-,-⟩:=allN_ok (w.q.take k) w.p w.u hs hok
      by_cases hlt:k < w.q.length
      · have hg:w.q[k]? = some (nth w.q k):=nth_get? _ _ hlt
        have wk:=i64_up (k:=k) (by omega)
        have hce:=hB.chk k hlt
        have hst:=allN_step (r:=0) (p:=w.p) (u:=w.u) hlt a1
        by_cases hr:(nth w.q k).id.r=0
        · have hst2:w.setS 0 (allN 0 (w.q.take (k + 1)) w.p w.u).2=w.setS 0 (allN 0 (w.q.take k) w.p w.u).2:=by rw [hst,allN,if_pos hr,allN]
          simp only [go_sem,hlt,hg,cE,hr,hCW,List.cons_append,List.nil_append,wk]
          refine ⟨by simp [hCW],m - 1,by omega,k + 1,by omega,?_⟩
          rw [hst2]
          simp [trim_mk,go_sem,subHeap,renObj,renCell,renLeaf,pos,List.range_succ,hCW,cWo,cWd,Wo.ss,Wo.ys,cYs,cSi3,cSi]
        · obtain ⟨r1,-,-,-,-,-,-⟩:=rc_ok a2 hce hr
          obtain ⟨-,s2,s3,s4,s5,s6,-,-⟩:=si_pre a2
          have hrc:=receiveOf_meets 0 (allN 0 (w.q.take k) w.p w.u).2.1 (allN 0 (w.q.take k) w.p w.u).2.2 (nth w.q k) s2 s3 s4 s5 s6 (check_fit hce)
          have hst2:allN 0 (w.q.take (k + 1)) w.p w.u=(0,(rcSi 0 (allN 0 (w.q.take k) w.p w.u).2.1 (allN 0 (w.q.take k) w.p w.u).2.2 (nth w.q k)).2):=by
            rw [hst,allN,if_neg hr,if_pos r1,allN]
          rw [r1,rcSi_one r1] at hrc
          obtain ⟨TT,hTT⟩:∃ TT,allN 0 (w.q.take (k + 1)) w.p w.u=TT:=⟨_,rfl⟩
          rw [hTT] at hst2
          generalize (rcSi 0 (allN 0 (w.q.take k) w.p w.u).2.1 (allN 0 (w.q.take k) w.p w.u).2.2 (nth w.q k)).2=T at *
          generalize (allN 0 (w.q.take k) w.p w.u).2=T0 at *
          obtain ⟨t1,t2⟩:=T0
          obtain ⟨u1,u2⟩:=T
          simp only at hrc
          simp only [go_sem,hlt,hg,cE,hr,hCW,Wo.ss,Wo.setS,cSi3,cSi,intS,Int.reduceLT,Int.reduceLE,Int.reduceToNat,Int.reduceAdd,frz,List.map_cons,List.map_nil,List.cons_append,List.nil_append]
          refine ops_call (.pureE hrc (by simp [go_sem,cSi,cE])) ?_
          simp only [go_sem,intS,Int.reduceLT,Int.reduceLE,Int.reduceToNat,Int.reduceAdd,frz,cSi3,cSi,wk]
          repeat refine ⟨rfl,?_⟩
          try simp only [go_sem,intS,Int.reduceLT,Int.reduceLE,Int.reduceToNat,Int.reduceAdd,frz,wk]
          refine ⟨by simp [hCW],m - 1,by omega,k + 1,by omega,?_⟩
          rw [hTT,hst2]
          simp [trim_mk,go_sem,subHeap,renObj,renCell,renLeaf,pos,List.range_succ,hCW,cWo,cWd,Wo.ss,Wo.ys,Wo.setS,cYs,cSi3,cSi]
      · have htk:w.q.take k=w.q:=List.take_of_length_le (by omega)
        rw [htk]
        simp only [go_sem,hlt,hCW,List.cons_append,List.nil_append]
        refine ret_weak (weak_shut 2 rfl) ?_
        refine ret_weak (weak_pu 3 rfl rfl (by simp [frz,PV.isPure,cYs,Wo.ys])) ?_
        refine ret_pure hx ?_
        simp [go_sem,L72,R72,cWo,cWd,Wo.ys,Wo.setS,frzAt,pos,frz,cYs]
        rfl
  · have hB:LogOk w.p:=hB
    have hlen:w.p.length≤40:=hlen
    have hchk:∀ k,∀ e ∈ w.p.take k,checkEntry e=0:=hchk
    have hs:siErr 1 w.q w.v=0:=hs
    show Meets _ _ _ _ (.tup [.agg (cWo (w.setS 1 (allN 1 w.p w.q w.v).2)),.int .i64 0]) _
    have k10:IntKind.i64.wrap (1 - 1)=0:=by decide
    refine Meets.of_walk Tryz.func72 Tryz.ntmps72 low72 res72 (by simp) fun x hx=>?_
    simp only [go_sem,L72,R72,cWo,cWd]
    refine ops_call (.heapE [] (r' := .agg [.arr 2 2,.arr 3 2]) (H' := [.box (cWo w),.box [.nilsl,.nilsl]] ++ hCW w w) (copyWorld_meets w) (by simp) (by simp) (by simp [go_sem,cWo,cWd]) rfl rfl rfl) ?_
    simp only [go_sem,hCW,cWo,cWd,Wo.ss,Wo.ys,cSi3,cSi,intS,Int.reduceLT,Int.reduceLE,Int.reduceToNat,Int.reduceAdd,frz,List.map_cons,List.map_nil,List.cons_append,List.nil_append,k10]
    refine loop_inv [1,4,6,7,8] 5 (fun m st=>∃ k:Nat,k + m=w.p.length ∧
      st=⟨mkE .top [(1,.int .i64 1),(4,.ptr 1 0),(6,.ptr 4 0),(7,.list (w.p.map cE)),(8,.int .i64 k)],[.box (cWo w),.box [.nilsl,.nilsl]] ++ hCW (w.setS 1 (allN 1 (w.p.take k) w.q w.v).2) w ++ [.box [.arr 2 2,.arr 3 2]]⟩) w.p.length (by simp [hx]) (by simp [hCW]) ?_ ?_
    · refine ⟨0,by omega,?_⟩
      simp [trim_mk,go_sem,subHeap,renObj,renCell,renLeaf,pos,List.range_succ,hCW,cWo,cWd,Wo.ss,Wo.ys,cYs,cSi3,cSi,allN,Wo.setS]
    · rintro m st ⟨k,hk,rfl⟩
      have hok:=hchk k
      obtain ⟨a1,a2,-,-⟩:=allN_ok (w.p.take k) w.q w.v hs hok
      by_cases hlt:k < w.p.length
      · have hg:w.p[k]? = some (nth w.p k):=nth_get? _ _ hlt
        have wk:=i64_up (k:=k) (by omega)
        have hce:=hB.chk k hlt
        have hst:=allN_step (r:=1) (p:=w.q) (u:=w.v) hlt a1
        by_cases hr:(nth w.p k).id.r=1
        · have hst2:w.setS 1 (allN 1 (w.p.take (k + 1)) w.q w.v).2=w.setS 1 (allN 1 (w.p.take k) w.q w.v).2:=by rw [hst,allN,if_pos hr,allN]
          simp only [go_sem,hlt,hg,cE,hr,hCW,List.cons_append,List.nil_append,wk]
          refine ⟨by simp [hCW],m - 1,by omega,k + 1,by omega,?_⟩
          rw [hst2]
          simp [trim_mk,go_sem,subHeap,renObj,renCell,renLeaf,pos,List.range_succ,hCW,cWo,cWd,Wo.ss,Wo.ys,cYs,cSi3,cSi]
        · obtain ⟨r1,-,-,-,-,-,-⟩:=rc_ok a2 hce hr
          obtain ⟨-,s2,s3,s4,s5,s6,-,-⟩:=si_pre a2
          have hrc:=receiveOf_meets 1 (allN 1 (w.p.take k) w.q w.v).2.1 (allN 1 (w.p.take k) w.q w.v).2.2 (nth w.p k) s2 s3 s4 s5 s6 (check_fit hce)
          have hst2:allN 1 (w.p.take (k + 1)) w.q w.v=(0,(rcSi 1 (allN 1 (w.p.take k) w.q w.v).2.1 (allN 1 (w.p.take k) w.q w.v).2.2 (nth w.p k)).2):=by
            rw [hst,allN,if_neg hr,if_pos r1,allN]
          rw [r1,rcSi_one r1] at hrc
          obtain ⟨TT,hTT⟩:∃ TT,allN 1 (w.p.take (k + 1)) w.q w.v=TT:=⟨_,rfl⟩
          rw [hTT] at hst2
          generalize (rcSi 1 (allN 1 (w.p.take k) w.q w.v).2.1 (allN 1 (w.p.take k) w.q w.v).2.2 (nth w.p k)).2=T at *
          generalize (allN 1 (w.p.take k) w.q w.v).2=T0 at *
          obtain ⟨t1,t2⟩:=T0
          obtain ⟨u1,u2⟩:=T
          simp only at hrc
          simp only [go_sem,hlt,hg,cE,hr,hCW,Wo.ss,Wo.setS,cSi3,cSi,intS,Int.reduceLT,Int.reduceLE,Int.reduceToNat,Int.reduceAdd,frz,List.map_cons,List.map_nil,List.cons_append,List.nil_append]
          refine ops_call (.pureE hrc (by simp [go_sem,cSi,cE])) ?_
          simp only [go_sem,intS,Int.reduceLT,Int.reduceLE,Int.reduceToNat,Int.reduceAdd,frz,cSi3,cSi,wk]
          repeat refine ⟨rfl,?_⟩
          try simp only [go_sem,intS,Int.reduceLT,Int.reduceLE,Int.reduceToNat,Int.reduceAdd,frz,wk]
          refine ⟨by simp [hCW],m - 1,by omega,k + 1,by omega,?_⟩
          rw [hTT,hst2]
          simp [trim_mk,go_sem,subHeap,renObj,renCell,renLeaf,pos,List.range_succ,hCW,cWo,cWd,Wo.ss,Wo.ys,Wo.setS,cYs,cSi3,cSi]
      · have htk:w.p.take k=w.p:=List.take_of_length_le (by omega)
        rw [htk]
        simp only [go_sem,hlt,hCW,List.cons_append,List.nil_append]
        refine ret_weak (weak_shut 2 rfl) ?_
        refine ret_weak (weak_pu 3 rfl rfl (by simp [frz,PV.isPure,cYs,Wo.ys])) ?_
        refine ret_pure hx ?_
        simp [go_sem,L72,R72,cWo,cWd,Wo.ys,Wo.setS,frzAt,pos,frz,cYs]
        rfl
end Go.Proofs.YtfdolehffjmdmaaGreatDoor
/- Worlds,in the law text's words: DoOf: a contract. -/
namespace Go.Proofs.YtfdolehffjmdmaaGreatDoor
set_option linter.unusedSimpArgs false
set_option linter.unusedVariables false
open Go.RowKit
theorem txt_nil (t:ByteArray):decide (t=⟨#[]⟩)=decide (t.size=0):=by
 rw [Bool.eq_iff_iff,decide_eq_true_eq,decide_eq_true_eq]
 constructor
 ·
  intro h; rw [h]; rfl
 ·
  intro h; exact ByteArray.ext (Array.eq_empty_of_size_eq_zero h)
theorem wthn01 (i:Int):wthn i 0 1=decide (i=0∨i=1):=by
 cases h:wthn i 0 1
 ·
  symm; rw [decide_eq_false_iff_not]; intro q
  have:wthn i 0 1=true:=wthn_iff.2 (by omega)
  rw [h] at this; cases this
 ·
  rw [wthn_iff] at h; symm; rw [decide_eq_true_eq]; omega
theorem doOf_kind (w:Wo) (k i n c:Int) (t:ByteArray) (hk:k < 1∨5 < k):Meets Tryz.prog 29 [.agg (cWo w),.agg (cAct k i n c t)] [] (.tup [.agg cWoN,.int .i64 7]) []:=by
 refine Meets.of_walk Tryz.func29 Tryz.ntmps29 low29 res29 (by simp) fun x hx=>?_
 simp only [go_sem,L29,R29,cWo,cWd,cAct]
 refine ops_call (.pureE (between_meets k 1 5) (by simp [go_sem])) ?_
 have e:wthn k 1 5=false:=by
  cases h:wthn k 1 5
  ·
   rfl
  ·
   rw [wthn_iff] at h; omega
 rw [e]
 simp only [go_sem]
 refine ret_pure hx ?_
 simp [go_sem,L29,R29,cWoN]
theorem doOf_extra (w:Wo) (k i n c:Int) (t:ByteArray) (hk:¬ (k < 1∨5 < k)) (he:extraB k n c t=true):Meets Tryz.prog 29 [.agg (cWo w),.agg (cAct k i n c t)] [] (.tup [.agg cWoN,.int .i64 1]) []:=by
 refine Meets.of_walk Tryz.func29 Tryz.ntmps29 low29 res29 (by simp) fun x hx=>?_
 simp only [go_sem,L29,R29,cWo,cWd,cAct]
 refine ops_call (.pureE (between_meets k 1 5) (by simp [go_sem])) ?_
 have e:wthn k 1 5=true:=wthn_iff.2 (by omega)
 rw [e]
 by_cases k1:k=1
 ·
  subst k1
  have n0:¬ n=0:=by simpa [extraB] using he
  simp only [go_sem,intS,Int.reduceLT,Int.reduceLE,Int.reduceToNat,Int.reduceAdd,frz,cAct,n0]
  refine ret_pure hx ?_
  simp [go_sem,L29,R29,cWoN]
 ·
  by_cases c0:c=0
  ·
   by_cases t0:t.size=0
   ·
    have k5:k=5∧¬ n=0:=by simpa [extraB,k1,c0,t0] using he
    obtain ⟨rfl,n0⟩:=k5
    simp only [go_sem,intS,Int.reduceLT,Int.reduceLE,Int.reduceToNat,Int.reduceAdd,frz,cAct,c0,txt_nil,t0,n0]
    refine ret_pure hx ?_
    simp [go_sem,L29,R29,cWoN]
   ·
    simp only [go_sem,intS,Int.reduceLT,Int.reduceLE,Int.reduceToNat,Int.reduceAdd,frz,cAct,k1,c0,txt_nil,t0]
    refine ret_pure hx ?_
    simp [go_sem,L29,R29,cWoN]
  ·
   simp only [go_sem,intS,Int.reduceLT,Int.reduceLE,Int.reduceToNat,Int.reduceAdd,frz,cAct,k1,c0]
   refine ret_pure hx ?_
   simp [go_sem,L29,R29,cWoN]
theorem doOf_at (w:Wo) (k i n c:Int) (t:ByteArray) (hk:¬ (k < 1∨5 < k)) (he:¬ extraB k n c t=true) (hi:¬ (i=0∨i=1)):Meets Tryz.prog 29 [.agg (cWo w),.agg (cAct k i n c t)] [] (.tup [.agg cWoN,.int .i64 3]) []:=by
 refine Meets.of_walk Tryz.func29 Tryz.ntmps29 low29 res29 (by simp) fun x hx=>?_
 simp only [go_sem,L29,R29,cWo,cWd,cAct]
 refine ops_call (.pureE (between_meets k 1 5) (by simp [go_sem])) ?_
 have e:wthn k 1 5=true:=wthn_iff.2 (by omega)
 rw [e]
 by_cases k1:k=1
 ·
  subst k1
  have n0:n=0:=by simpa [extraB] using he
  simp only [go_sem,intS,Int.reduceLT,Int.reduceLE,Int.reduceToNat,Int.reduceAdd,frz,cAct,n0]
  refine ops_call (.pureE (between_meets i 0 1) (by simp [go_sem])) ?_
  rw [wthn01,decide_eq_false hi]
  simp only [go_sem]
  refine ret_pure hx ?_
  simp [go_sem,L29,R29,cWoN]
 ·
  have c0:c=0:=by
   by_cases c0:c=0
   ·
    exact c0
   ·
    exact (he (by simp [extraB,k1,c0])).elim
  have t0:t.size=0:=by
   by_cases t0:t.size=0
   ·
    exact t0
   ·
    exact (he (by simp [extraB,k1,t0])).elim
  by_cases k5:k=5
  ·
   subst k5
   have n0:n=0:=by simpa [extraB,c0,t0] using he
   simp only [go_sem,intS,Int.reduceLT,Int.reduceLE,Int.reduceToNat,Int.reduceAdd,frz,cAct,c0,txt_nil,t0,n0]
   refine ops_call (.pureE (between_meets i 0 1) (by simp [go_sem])) ?_
   rw [wthn01,decide_eq_false hi]
   simp only [go_sem]
   refine ret_pure hx ?_
   simp [go_sem,L29,R29,cWoN]
  ·
   simp only [go_sem,intS,Int.reduceLT,Int.reduceLE,Int.reduceToNat,Int.reduceAdd,frz,cAct,k1,k5,c0,txt_nil,t0]
   refine ops_call (.pureE (between_meets i 0 1) (by simp [go_sem])) ?_
   rw [wthn01,decide_eq_false hi]
   simp only [go_sem]
   refine ret_pure hx ?_
   simp [go_sem,L29,R29,cWoN]
theorem doOf_5 (w:Wo) (h:WoOk w) (i:Int) (t:ByteArray) (t0:t.size=0) (hi:i=0∨i=1):Meets Tryz.prog 29 [.agg (cWo w),.agg (cAct 5 i 0 0 t)] [] (.tup [.agg (cWo (w.setS i (allW w i).2)),.int .i64 0]) []:=by
 have hall:=allAt_meets w i hi (h.si hi) (h.log (other_of hi))
 generalize w.setS i (allW w i).2=w2 at *
 rcases hi with rfl | rfl
 ·
  skip
  refine Meets.of_walk Tryz.func29 Tryz.ntmps29 low29 res29 (by simp) fun x hx=>?_
  simp only [go_sem,L29,R29,cWo,cWd,cAct]
  refine ops_call (.pureE (between_meets 5 1 5) (by simp [go_sem])) ?_
  rw [show wthn 5 1 5=true from by decide]
  simp only [go_sem,intS,Int.reduceLT,Int.reduceLE,Int.reduceToNat,Int.reduceAdd,frz,cAct,txt_nil,t0]
  refine ops_call (.pureE (between_meets 0 0 1) (by simp [go_sem])) ?_
  rw [show wthn 0 0 1=true from by decide]
  simp only [go_sem,intS,Int.reduceLT,Int.reduceLE,Int.reduceToNat,Int.reduceAdd,frz,cAct,cWo,cWd]
  refine ops_call (.pureE hall (by simp [go_sem,cWo,cWd])) ?_
  simp only [go_sem,intS,Int.reduceLT,Int.reduceLE,Int.reduceToNat,Int.reduceAdd,frz,cWo,cWd]
  refine ret_pure hx ?_
  simp [go_sem,L29,R29]
 ·
  skip
  refine Meets.of_walk Tryz.func29 Tryz.ntmps29 low29 res29 (by simp) fun x hx=>?_
  simp only [go_sem,L29,R29,cWo,cWd,cAct]
  refine ops_call (.pureE (between_meets 5 1 5) (by simp [go_sem])) ?_
  rw [show wthn 5 1 5=true from by decide]
  simp only [go_sem,intS,Int.reduceLT,Int.reduceLE,Int.reduceToNat,Int.reduceAdd,frz,cAct,txt_nil,t0]
  refine ops_call (.pureE (between_meets 1 0 1) (by simp [go_sem])) ?_
  rw [show wthn 1 0 1=true from by decide]
  simp only [go_sem,intS,Int.reduceLT,Int.reduceLE,Int.reduceToNat,Int.reduceAdd,frz,cAct,cWo,cWd]
  refine ops_call (.pureE hall (by simp [go_sem,cWo,cWd])) ?_
  simp only [go_sem,intS,Int.reduceLT,Int.reduceLE,Int.reduceToNat,Int.reduceAdd,frz,cWo,cWd]
  refine ret_pure hx ?_
  simp [go_sem,L29,R29]
set_option maxHeartbeats 4000000 in
theorem doOf_1 (w : Wo) (h : WoOk w) (i c : Int) (t : ByteArray) (hi : i = 0 ∨ i = 1) : Meets Tryz.prog 29 [.agg (cWo w), .agg (cAct 1 i 0 c t)] []
    (.tup [.agg (if apErr i (w.log i) c t=0 then cWo (sendW (w.setS i (settled (w.log i ++ [apE i (w.log i) c t]) (w.wts i))) (1 - i) (apE i (w.log i) c t)) else cWoN),.int .i64 (apErr i (w.log i) c t)]) []:=by
  obtain ⟨a1,-,-,-,a5,-,a7,a8⟩:=si_pre (h.si hi)
  have la:=h.la
  have lb:=h.lb
  have hap:=appendOf_meets i (w.log i) (w.wts i) c t hi a7 a8 a5
  obtain ⟨R,hR⟩:∃ R,(if apErr i (w.log i) c t=0 then cWo (sendW (w.setS i (settled (w.log i ++ [apE i (w.log i) c t]) (w.wts i))) (1 - i) (apE i (w.log i) c t)) else cWoN)=R:=⟨_,rfl⟩
  rw [hR]
  rcases hi with rfl | rfl
  · have hap:Meets Tryz.prog 74 [.agg (cSi 0 w.p w.u),.int .i64 c,.str t] [] (.tup [.agg (cSi3 (apSi 0 w.p w.u c t)),.agg (cE (apEn 0 w.p c t)),.int .i64 (apErr 0 w.p c t)]) []:=hap
    refine Meets.of_walk Tryz.func29 Tryz.ntmps29 low29 res29 (by simp) fun x hx=>?_
    simp only [go_sem,L29,R29,cWo,cWd,cAct]
    refine ops_call (.pureE (between_meets 1 1 5) (by simp [go_sem])) ?_
    rw [show wthn 1 1 5=true from by decide]
    simp only [go_sem,intS,Int.reduceLT,Int.reduceLE,Int.reduceToNat,Int.reduceAdd,frz,cAct,txt_nil,intS,Int.reduceLT,Int.reduceLE,Int.reduceToNat,Int.reduceAdd,frz]
    refine ops_call (.pureE (between_meets 0 0 1) (by simp [go_sem])) ?_
    rw [show wthn 0 0 1=true from by decide]
    simp only [go_sem,intS,Int.reduceLT,Int.reduceLE,Int.reduceToNat,Int.reduceAdd,frz,cAct,cWo,cWd]
    refine ops_call (.heapE [] (r' := .agg [.arr 3 2,.arr 4 2]) (H' := [.box (cWo w),.box (cAct 1 0 0 c t),.box [.nilsl,.nilsl]] ++ hCW w w) (copyWorld_meets w) (by simp) (by simp) (by simp [go_sem,cWo,cWd]) rfl rfl rfl) ?_
    simp only [go_sem,intS,Int.reduceLT,Int.reduceLE,Int.reduceToNat,Int.reduceAdd,frz,cAct,hCW,cWo,cWd,Wo.ss,Wo.ys,cYs,cSi3,cSi,List.map_cons,List.map_nil,List.cons_append,List.nil_append]
    have k10:IntKind.i64.wrap (1 - 0)=1:=by decide
    by_cases h0:apErr 0 w.p c t=0
    · have ea:apSi 0 w.p w.u c t=(0,settled (w.p ++ [apE 0 w.p c t]) w.u):=by rw [apSi,if_pos h0]
      have eb:apEn 0 w.p c t=apE 0 w.p c t:=by rw [apEn,if_pos h0]
      rw [ea,eb,h0] at hap
      have hfin:(if apErr 0 (w.log 0) c t=0 then cWo (sendW (w.setS 0 (settled (w.log 0 ++ [apE 0 (w.log 0) c t]) (w.wts 0))) (1 - 0) (apE 0 (w.log 0) c t)) else cWoN)=cWo (if w.b.length=30 then w.setS 0 (settled (w.p ++ [apE 0 w.p c t]) w.u) else (w.setS 0 (settled (w.p ++ [apE 0 w.p c t]) w.u)).setY 1 (w.b ++ [apE 0 w.p c t])):=by
        rw [if_pos (show apErr 0 (w.log 0) c t=0 from h0)]; rfl
      rw [hfin] at hR
      subst hR
      rw [show apErr 0 (w.log 0) c t=0 from h0]
      clear hfin ea eb h0
      generalize apE 0 w.p c t=e at *
      generalize settled (w.p ++ [e]) w.u=PU at *
      obtain ⟨P,U⟩:=PU
      refine ops_call (.pureE hap (by simp [go_sem,cSi])) ?_
      simp only [go_sem,intS,Int.reduceLT,Int.reduceLE,Int.reduceToNat,Int.reduceAdd,frz,cSi3,cSi,cE,cAct,k10]
      repeat refine ⟨rfl,?_⟩
      by_cases hl:(w.b.length:Int) < 30
      · rw [if_neg (by omega)]
        simp only [go_sem,intS,Int.reduceLT,Int.reduceLE,Int.reduceToNat,Int.reduceAdd,frz,cSi3,cSi,cE,cAct,k10,hl,List.length_map]
        rw [app_arr rfl rfl (cE_row w.b) (by simp; omega)]
        simp only [go_sem,intS,Int.reduceLT,Int.reduceLE,Int.reduceToNat,Int.reduceAdd,frz,cE]
        rw [app_arr rfl rfl (by simp) (by simp; omega)]
        have hce:List.map cE w.b ++ [[PV.int .i64 e.id.r,.int .i64 e.id.n,.int .i64 e.c,.str e.t,.list (e.ls.map cId)]]=(w.b ++ [e]).map cE:=by simp [cE]
        simp only [go_sem,intS,Int.reduceLT,Int.reduceLE,Int.reduceToNat,Int.reduceAdd,frz,hce]
        repeat refine ⟨rfl,?_⟩
        try simp only [go_sem,intS,Int.reduceLT,Int.reduceLE,Int.reduceToNat,Int.reduceAdd,frz]
        refine ret_weak (weak_shut 8 rfl) ?_
        refine ret_weak (weak_pu 4 rfl rfl (by simp [frz,PV.isPure])) ?_
        refine ret_weak (weak_shut 3 rfl) ?_
        refine ret_pure hx ?_
        simp [go_sem,L29,R29,cWo,cWd,cYs,Wo.ys,Wo.ss,cSi3,cSi,frzAt,pos,frz]
        first | rfl | simp [Wo.setS,Wo.setY,Wo.way]
      · rw [if_pos (by omega)]
        simp only [go_sem,intS,Int.reduceLT,Int.reduceLE,Int.reduceToNat,Int.reduceAdd,frz,cSi3,cSi,cE,cAct,k10,hl,List.length_map]
        refine ret_weak (weak_pu 4 rfl rfl (by simp [frz,PV.isPure])) ?_
        refine ret_weak (weak_shut 3 rfl) ?_
        refine ret_pure hx ?_
        simp [go_sem,L29,R29,cWo,cWd,cYs,Wo.ys,Wo.ss,cSi3,cSi,frzAt,pos,frz]
        first | rfl | simp [Wo.setS,Wo.setY,Wo.way]
    · have ea:apSi 0 w.p w.u c t=(0,[],[]):=by rw [apSi,if_neg h0]
      have eb:apEn 0 w.p c t=zE:=by rw [apEn,if_neg h0]
      have hfin:(if apErr 0 (w.log 0) c t=0 then cWo (sendW (w.setS 0 (settled (w.log 0 ++ [apE 0 (w.log 0) c t]) (w.wts 0))) (1 - 0) (apE 0 (w.log 0) c t)) else cWoN)=cWoN:=if_neg h0
      rw [hfin] at hR
      subst hR
      refine ops_call (.pureE hap (by simp [go_sem,cSi])) ?_
      simp only [go_sem,intS,Int.reduceLT,Int.reduceLE,Int.reduceToNat,Int.reduceAdd,frz,ea,eb,cSi3,cSi,cE,zE,cAct,h0]
      repeat refine ⟨rfl,?_⟩
      try simp only [go_sem,intS,Int.reduceLT,Int.reduceLE,Int.reduceToNat,Int.reduceAdd,frz,h0]
      refine ret_pure hx ?_
      simp [go_sem,L29,R29,cWoN]
      try rfl
  · have hap:Meets Tryz.prog 74 [.agg (cSi 1 w.q w.v),.int .i64 c,.str t] [] (.tup [.agg (cSi3 (apSi 1 w.q w.v c t)),.agg (cE (apEn 1 w.q c t)),.int .i64 (apErr 1 w.q c t)]) []:=hap
    refine Meets.of_walk Tryz.func29 Tryz.ntmps29 low29 res29 (by simp) fun x hx=>?_
    simp only [go_sem,L29,R29,cWo,cWd,cAct]
    refine ops_call (.pureE (between_meets 1 1 5) (by simp [go_sem])) ?_
    rw [show wthn 1 1 5=true from by decide]
    simp only [go_sem,intS,Int.reduceLT,Int.reduceLE,Int.reduceToNat,Int.reduceAdd,frz,cAct,txt_nil,intS,Int.reduceLT,Int.reduceLE,Int.reduceToNat,Int.reduceAdd,frz]
    refine ops_call (.pureE (between_meets 1 0 1) (by simp [go_sem])) ?_
    rw [show wthn 1 0 1=true from by decide]
    simp only [go_sem,intS,Int.reduceLT,Int.reduceLE,Int.reduceToNat,Int.reduceAdd,frz,cAct,cWo,cWd]
    refine ops_call (.heapE [] (r' := .agg [.arr 3 2,.arr 4 2]) (H' := [.box (cWo w),.box (cAct 1 1 0 c t),.box [.nilsl,.nilsl]] ++ hCW w w) (copyWorld_meets w) (by simp) (by simp) (by simp [go_sem,cWo,cWd]) rfl rfl rfl) ?_
    simp only [go_sem,intS,Int.reduceLT,Int.reduceLE,Int.reduceToNat,Int.reduceAdd,frz,cAct,hCW,cWo,cWd,Wo.ss,Wo.ys,cYs,cSi3,cSi,List.map_cons,List.map_nil,List.cons_append,List.nil_append]
    have k10:IntKind.i64.wrap (1 - 1)=0:=by decide
    by_cases h0:apErr 1 w.q c t=0
    · have ea:apSi 1 w.q w.v c t=(1,settled (w.q ++ [apE 1 w.q c t]) w.v):=by rw [apSi,if_pos h0]
      have eb:apEn 1 w.q c t=apE 1 w.q c t:=by rw [apEn,if_pos h0]
      rw [ea,eb,h0] at hap
      have hfin:(if apErr 1 (w.log 1) c t=0 then cWo (sendW (w.setS 1 (settled (w.log 1 ++ [apE 1 (w.log 1) c t]) (w.wts 1))) (1 - 1) (apE 1 (w.log 1) c t)) else cWoN)=cWo (if w.a.length=30 then w.setS 1 (settled (w.q ++ [apE 1 w.q c t]) w.v) else (w.setS 1 (settled (w.q ++ [apE 1 w.q c t]) w.v)).setY 0 (w.a ++ [apE 1 w.q c t])):=by
        rw [if_pos (show apErr 1 (w.log 1) c t=0 from h0)]; rfl
      rw [hfin] at hR
      subst hR
      rw [show apErr 1 (w.log 1) c t=0 from h0]
      clear hfin ea eb h0
      generalize apE 1 w.q c t=e at *
      generalize settled (w.q ++ [e]) w.v=PU at *
      obtain ⟨P,U⟩:=PU
      refine ops_call (.pureE hap (by simp [go_sem,cSi])) ?_
      simp only [go_sem,intS,Int.reduceLT,Int.reduceLE,Int.reduceToNat,Int.reduceAdd,frz,cSi3,cSi,cE,cAct,k10]
      repeat refine ⟨rfl,?_⟩
      by_cases hl:(w.a.length:Int) < 30
      · rw [if_neg (by omega)]
        simp only [go_sem,intS,Int.reduceLT,Int.reduceLE,Int.reduceToNat,Int.reduceAdd,frz,cSi3,cSi,cE,cAct,k10,hl,List.length_map]
        rw [app_arr rfl rfl (cE_row w.a) (by simp; omega)]
        simp only [go_sem,intS,Int.reduceLT,Int.reduceLE,Int.reduceToNat,Int.reduceAdd,frz,cE]
        rw [app_arr rfl rfl (by simp) (by simp; omega)]
        have hce:List.map cE w.a ++ [[PV.int .i64 e.id.r,.int .i64 e.id.n,.int .i64 e.c,.str e.t,.list (e.ls.map cId)]]=(w.a ++ [e]).map cE:=by simp [cE]
        simp only [go_sem,intS,Int.reduceLT,Int.reduceLE,Int.reduceToNat,Int.reduceAdd,frz,hce]
        repeat refine ⟨rfl,?_⟩
        try simp only [go_sem,intS,Int.reduceLT,Int.reduceLE,Int.reduceToNat,Int.reduceAdd,frz]
        refine ret_weak (weak_shut 8 rfl) ?_
        refine ret_weak (weak_pu 4 rfl rfl (by simp [frz,PV.isPure])) ?_
        refine ret_weak (weak_shut 3 rfl) ?_
        refine ret_pure hx ?_
        simp [go_sem,L29,R29,cWo,cWd,cYs,Wo.ys,Wo.ss,cSi3,cSi,frzAt,pos,frz]
        first | rfl | simp [Wo.setS,Wo.setY,Wo.way]
      · rw [if_pos (by omega)]
        simp only [go_sem,intS,Int.reduceLT,Int.reduceLE,Int.reduceToNat,Int.reduceAdd,frz,cSi3,cSi,cE,cAct,k10,hl,List.length_map]
        refine ret_weak (weak_pu 4 rfl rfl (by simp [frz,PV.isPure])) ?_
        refine ret_weak (weak_shut 3 rfl) ?_
        refine ret_pure hx ?_
        simp [go_sem,L29,R29,cWo,cWd,cYs,Wo.ys,Wo.ss,cSi3,cSi,frzAt,pos,frz]
        first | rfl | simp [Wo.setS,Wo.setY,Wo.way]
    · have ea:apSi 1 w.q w.v c t=(0,[],[]):=by rw [apSi,if_neg h0]
      have eb:apEn 1 w.q c t=zE:=by rw [apEn,if_neg h0]
      have hfin:(if apErr 1 (w.log 1) c t=0 then cWo (sendW (w.setS 1 (settled (w.log 1 ++ [apE 1 (w.log 1) c t]) (w.wts 1))) (1 - 1) (apE 1 (w.log 1) c t)) else cWoN)=cWoN:=if_neg h0
      rw [hfin] at hR
      subst hR
      refine ops_call (.pureE hap (by simp [go_sem,cSi])) ?_
      simp only [go_sem,intS,Int.reduceLT,Int.reduceLE,Int.reduceToNat,Int.reduceAdd,frz,ea,eb,cSi3,cSi,cE,zE,cAct,h0]
      repeat refine ⟨rfl,?_⟩
      try simp only [go_sem,intS,Int.reduceLT,Int.reduceLE,Int.reduceToNat,Int.reduceAdd,frz,h0]
      refine ret_pure hx ?_
      simp [go_sem,L29,R29,cWoN]
      try rfl
set_option maxHeartbeats 4000000 in
theorem doOf_n (w:Wo) (h:WoOk w) (k i n:Int) (t:ByteArray) (t0:t.size=0) (hk:k=2∨k=3∨k=4) (hi:i=0∨i=1) (hn:n < 0∨((w.way i).length:Int)≤n):Meets Tryz.prog 29 [.agg (cWo w),.agg (cAct k i n 0 t)] [] (.tup [.agg cWoN,.int .i64 5]) []:=by
 have la:=h.la
 have lb:=h.lb
 have k1:¬ k=1:=by omega
 have k5:¬ k=5:=by omega
 refine Meets.of_walk Tryz.func29 Tryz.ntmps29 low29 res29 (by simp) fun x hx=>?_
 simp only [go_sem,L29,R29,cWo,cWd,cAct]
 refine ops_call (.pureE (between_meets k 1 5) (by simp [go_sem])) ?_
 rw [show wthn k 1 5=true from wthn_iff.2 (by omega)]
 simp only [go_sem,intS,Int.reduceLT,Int.reduceLE,Int.reduceToNat,Int.reduceAdd,frz,cAct,txt_nil,t0,k1,k5]
 rcases hi with rfl | rfl
 ·
  skip
  have hwl:IntKind.i64.wrap ((w.a.length:Int) - 1)=(w.a.length:Int) - 1:=by rw [IntWalk.i64_in _ (by omega)]
  have hf:wthn n 0 ((w.a.length:Int) - 1)=false:=by
   cases h:wthn n 0 ((w.a.length:Int) - 1)
   ·
    rfl
   ·
    rw [wthn_iff] at h
    have hn:n < 0∨(w.a.length:Int)≤n:=hn
    omega
  refine ops_call (.pureE (between_meets 0 0 1) (by simp [go_sem])) ?_
  rw [show wthn 0 0 1=true from by decide]
  simp only [go_sem,intS,Int.reduceLT,Int.reduceLE,Int.reduceToNat,Int.reduceAdd,frz,cAct,cWo,cWd,k5]
  refine ops_call (.heapE [] (r' := .agg [.arr 3 2,.arr 4 2]) (H' := [.box (cWo w),.box (cAct k 0 n 0 t),.box [.nilsl,.nilsl]] ++ hCW w w) (copyWorld_meets w) (by simp) (by simp) (by simp [go_sem,cWo,cWd]) rfl rfl rfl) ?_
  simp only [go_sem,intS,Int.reduceLT,Int.reduceLE,Int.reduceToNat,Int.reduceAdd,frz,cAct,hCW,cWo,cWd,Wo.ss,Wo.ys,cYs,List.map_cons,List.map_nil,List.cons_append,List.nil_append,List.length_map,hwl,k1]
  refine ops_call (.pureE (between_meets n 0 ((w.a.length:Int) - 1)) (by simp [go_sem])) ?_
  rw [hf]
  simp only [go_sem]
  refine ret_pure hx ?_
  simp [go_sem,L29,R29,cWoN]
 ·
  skip
  have hwl:IntKind.i64.wrap ((w.b.length:Int) - 1)=(w.b.length:Int) - 1:=by rw [IntWalk.i64_in _ (by omega)]
  have hf:wthn n 0 ((w.b.length:Int) - 1)=false:=by
   cases h:wthn n 0 ((w.b.length:Int) - 1)
   ·
    rfl
   ·
    rw [wthn_iff] at h
    have hn:n < 0∨(w.b.length:Int)≤n:=hn
    omega
  refine ops_call (.pureE (between_meets 1 0 1) (by simp [go_sem])) ?_
  rw [show wthn 1 0 1=true from by decide]
  simp only [go_sem,intS,Int.reduceLT,Int.reduceLE,Int.reduceToNat,Int.reduceAdd,frz,cAct,cWo,cWd,k5]
  refine ops_call (.heapE [] (r' := .agg [.arr 3 2,.arr 4 2]) (H' := [.box (cWo w),.box (cAct k 1 n 0 t),.box [.nilsl,.nilsl]] ++ hCW w w) (copyWorld_meets w) (by simp) (by simp) (by simp [go_sem,cWo,cWd]) rfl rfl rfl) ?_
  simp only [go_sem,intS,Int.reduceLT,Int.reduceLE,Int.reduceToNat,Int.reduceAdd,frz,cAct,hCW,cWo,cWd,Wo.ss,Wo.ys,cYs,List.map_cons,List.map_nil,List.cons_append,List.nil_append,List.length_map,hwl,k1]
  refine ops_call (.pureE (between_meets n 0 ((w.b.length:Int) - 1)) (by simp [go_sem])) ?_
  rw [hf]
  simp only [go_sem]
  refine ret_pure hx ?_
  simp [go_sem,L29,R29,cWoN]
set_option maxHeartbeats 4000000 in
theorem doOf_2 (w:Wo) (h:WoOk w) (i:Int) (q:Nat) (t:ByteArray) (t0:t.size=0) (hi:i=0∨i=1) (hq:q < (w.way i).length):Meets Tryz.prog 29 [.agg (cWo w),.agg (cAct 2 i q 0 t)] [] (.tup [.agg (cWo ((w.setS i (rcSi i (w.log i) (w.wts i) (nth (w.way i) q)).2).setY i ((w.way i).eraseIdx q))),.int .i64 0]) []:=by
 have la:=h.la
 have lb:=h.lb
 obtain ⟨-,y2,y3⟩:=h.by_ hi
 have hm:=nthM hq
 obtain ⟨a1,s2,s3,s4,s5,s6,a7,a8⟩:=si_pre (h.si hi)
 have hr0:=rc_born h hi (y2 _ hm) (y3 _ hm)
 have hrc:=receiveOf_meets i (w.log i) (w.wts i) (nth (w.way i) q) s2 s3 s4 s5 s6 (check_fit (y2 _ hm))
 rw [hr0,rcSi_one hr0] at hrc
 generalize (rcSi i (w.log i) (w.wts i) (nth (w.way i) q)).2=PU at *
 obtain ⟨P,U⟩:=PU
 rcases hi with rfl | rfl
 ·
  skip
  have hq:q < w.a.length:=hq
  have hwl:IntKind.i64.wrap ((w.a.length:Int) - 1)=(w.a.length:Int) - 1:=by rw [IntWalk.i64_in _ (by omega)]
  have hf:wthn (q:Int) 0 ((w.a.length:Int) - 1)=true:=wthn_iff.2 (by omega)
  have hgq:w.a[q]? = some (nth w.a q):=nth_get? _ _ hq
  obtain ⟨n,hn⟩:∃ n:Int,n=(q:Int):=⟨_,rfl⟩
  rw [← hn] at hf ⊢
  refine Meets.of_walk Tryz.func29 Tryz.ntmps29 low29 res29 (by simp) fun x hx=>?_
  simp only [go_sem,L29,R29,cWo,cWd,cAct]
  refine ops_call (.pureE (between_meets 2 1 5) (by simp [go_sem])) ?_
  rw [show wthn 2 1 5=true from by decide]
  simp only [go_sem,intS,Int.reduceLT,Int.reduceLE,Int.reduceToNat,Int.reduceAdd,frz,cAct,txt_nil,t0]
  refine ops_call (.pureE (between_meets 0 0 1) (by simp [go_sem])) ?_
  rw [show wthn 0 0 1=true from by decide]
  simp only [go_sem,intS,Int.reduceLT,Int.reduceLE,Int.reduceToNat,Int.reduceAdd,frz,cAct,cWo,cWd]
  refine ops_call (.heapE [] (r' := .agg [.arr 3 2,.arr 4 2]) (H' := [.box (cWo w),.box (cAct 2 0 n 0 t),.box [.nilsl,.nilsl]] ++ hCW w w) (copyWorld_meets w) (by simp) (by simp) (by simp [go_sem,cWo,cWd]) rfl rfl rfl) ?_
  simp only [go_sem,intS,Int.reduceLT,Int.reduceLE,Int.reduceToNat,Int.reduceAdd,frz,cAct,hCW,cWo,cWd,Wo.ss,Wo.ys,cYs,cSi3,cSi,List.map_cons,List.map_nil,List.cons_append,List.nil_append,List.length_map,hwl]
  refine ops_call (.pureE (between_meets n 0 ((w.a.length:Int) - 1)) (by simp [go_sem])) ?_
  rw [hf]
  rw [hn]
  simp only [go_sem,intS,Int.reduceLT,Int.reduceLE,Int.reduceToNat,Int.reduceAdd,frz,cAct,cSi3,cSi]
  have hrc:Meets Tryz.prog 75 [.agg (cSi 0 w.p w.u),.agg (cE (nth w.a q))] [] (.tup [.agg (cSi3 (0,P,U)),.int .i64 0]) []:=hrc
  simp only [go_sem,intS,Int.reduceLT,Int.reduceLE,Int.reduceToNat,Int.reduceAdd,frz,hgq,hq,cE,cSi3,cSi]
  refine ops_call (.pureE hrc (by simp [go_sem,cSi,cE])) ?_
  simp only [go_sem,intS,Int.reduceLT,Int.reduceLE,Int.reduceToNat,Int.reduceAdd,frz,cSi3,cSi,cAct]
  repeat refine ⟨rfl,?_⟩
  try simp only [go_sem,intS,Int.reduceLT,Int.reduceLE,Int.reduceToNat,Int.reduceAdd,frz,cAct,cSi3,cSi]
  refine ops_call (.pureE (without_meets w.a q hq (by omega)) (by simp [go_sem])) ?_
  simp only [go_sem,intS,Int.reduceLT,Int.reduceLE,Int.reduceToNat,Int.reduceAdd,frz,cSi3,cSi,cAct]
  repeat refine ⟨rfl,?_⟩
  try simp only [go_sem,intS,Int.reduceLT,Int.reduceLE,Int.reduceToNat,Int.reduceAdd,frz]
  refine ret_weak (weak_pu 4 rfl rfl (by simp [frz,PV.isPure])) ?_
  refine ret_weak (weak_shut 3 rfl) ?_
  refine ret_pure hx ?_
  simp [go_sem,L29,R29,cWo,cWd,cYs,Wo.ys,Wo.ss,cSi3,cSi,frzAt,pos,frz]
  first | rfl | simp [Wo.setS,Wo.setY,Wo.way]
 ·
  skip
  have hq:q < w.b.length:=hq
  have hwl:IntKind.i64.wrap ((w.b.length:Int) - 1)=(w.b.length:Int) - 1:=by rw [IntWalk.i64_in _ (by omega)]
  have hf:wthn (q:Int) 0 ((w.b.length:Int) - 1)=true:=wthn_iff.2 (by omega)
  have hgq:w.b[q]? = some (nth w.b q):=nth_get? _ _ hq
  obtain ⟨n,hn⟩:∃ n:Int,n=(q:Int):=⟨_,rfl⟩
  rw [← hn] at hf ⊢
  refine Meets.of_walk Tryz.func29 Tryz.ntmps29 low29 res29 (by simp) fun x hx=>?_
  simp only [go_sem,L29,R29,cWo,cWd,cAct]
  refine ops_call (.pureE (between_meets 2 1 5) (by simp [go_sem])) ?_
  rw [show wthn 2 1 5=true from by decide]
  simp only [go_sem,intS,Int.reduceLT,Int.reduceLE,Int.reduceToNat,Int.reduceAdd,frz,cAct,txt_nil,t0]
  refine ops_call (.pureE (between_meets 1 0 1) (by simp [go_sem])) ?_
  rw [show wthn 1 0 1=true from by decide]
  simp only [go_sem,intS,Int.reduceLT,Int.reduceLE,Int.reduceToNat,Int.reduceAdd,frz,cAct,cWo,cWd]
  refine ops_call (.heapE [] (r' := .agg [.arr 3 2,.arr 4 2]) (H' := [.box (cWo w),.box (cAct 2 1 n 0 t),.box [.nilsl,.nilsl]] ++ hCW w w) (copyWorld_meets w) (by simp) (by simp) (by simp [go_sem,cWo,cWd]) rfl rfl rfl) ?_
  simp only [go_sem,intS,Int.reduceLT,Int.reduceLE,Int.reduceToNat,Int.reduceAdd,frz,cAct,hCW,cWo,cWd,Wo.ss,Wo.ys,cYs,cSi3,cSi,List.map_cons,List.map_nil,List.cons_append,List.nil_append,List.length_map,hwl]
  refine ops_call (.pureE (between_meets n 0 ((w.b.length:Int) - 1)) (by simp [go_sem])) ?_
  rw [hf]
  rw [hn]
  simp only [go_sem,intS,Int.reduceLT,Int.reduceLE,Int.reduceToNat,Int.reduceAdd,frz,cAct,cSi3,cSi]
  have hrc:Meets Tryz.prog 75 [.agg (cSi 1 w.q w.v),.agg (cE (nth w.b q))] [] (.tup [.agg (cSi3 (1,P,U)),.int .i64 0]) []:=hrc
  simp only [go_sem,intS,Int.reduceLT,Int.reduceLE,Int.reduceToNat,Int.reduceAdd,frz,hgq,hq,cE,cSi3,cSi]
  refine ops_call (.pureE hrc (by simp [go_sem,cSi,cE])) ?_
  simp only [go_sem,intS,Int.reduceLT,Int.reduceLE,Int.reduceToNat,Int.reduceAdd,frz,cSi3,cSi,cAct]
  repeat refine ⟨rfl,?_⟩
  try simp only [go_sem,intS,Int.reduceLT,Int.reduceLE,Int.reduceToNat,Int.reduceAdd,frz,cAct,cSi3,cSi]
  refine ops_call (.pureE (without_meets w.b q hq (by omega)) (by simp [go_sem])) ?_
  simp only [go_sem,intS,Int.reduceLT,Int.reduceLE,Int.reduceToNat,Int.reduceAdd,frz,cSi3,cSi,cAct]
  repeat refine ⟨rfl,?_⟩
  try simp only [go_sem,intS,Int.reduceLT,Int.reduceLE,Int.reduceToNat,Int.reduceAdd,frz]
  refine ret_weak (weak_pu 4 rfl rfl (by simp [frz,PV.isPure])) ?_
  refine ret_weak (weak_shut 3 rfl) ?_
  refine ret_pure hx ?_
  simp [go_sem,L29,R29,cWo,cWd,cYs,Wo.ys,Wo.ss,cSi3,cSi,frzAt,pos,frz]
  first | rfl | simp [Wo.setS,Wo.setY,Wo.way]
set_option maxHeartbeats 4000000 in
theorem doOf_3 (w:Wo) (h:WoOk w) (i:Int) (q:Nat) (t:ByteArray) (t0:t.size=0) (hi:i=0∨i=1) (hq:q < (w.way i).length):Meets Tryz.prog 29 [.agg (cWo w),.agg (cAct 3 i q 0 t)] [] (.tup [.agg (cWo (w.setY i ((w.way i).eraseIdx q))),.int .i64 0]) []:=by
 have la:=h.la
 have lb:=h.lb
 rcases hi with rfl | rfl
 ·
  skip
  have hq:q < w.a.length:=hq
  have hwl:IntKind.i64.wrap ((w.a.length:Int) - 1)=(w.a.length:Int) - 1:=by rw [IntWalk.i64_in _ (by omega)]
  have hf:wthn (q:Int) 0 ((w.a.length:Int) - 1)=true:=wthn_iff.2 (by omega)
  have hgq:w.a[q]? = some (nth w.a q):=nth_get? _ _ hq
  obtain ⟨n,hn⟩:∃ n:Int,n=(q:Int):=⟨_,rfl⟩
  rw [← hn] at hf ⊢
  refine Meets.of_walk Tryz.func29 Tryz.ntmps29 low29 res29 (by simp) fun x hx=>?_
  simp only [go_sem,L29,R29,cWo,cWd,cAct]
  refine ops_call (.pureE (between_meets 3 1 5) (by simp [go_sem])) ?_
  rw [show wthn 3 1 5=true from by decide]
  simp only [go_sem,intS,Int.reduceLT,Int.reduceLE,Int.reduceToNat,Int.reduceAdd,frz,cAct,txt_nil,t0]
  refine ops_call (.pureE (between_meets 0 0 1) (by simp [go_sem])) ?_
  rw [show wthn 0 0 1=true from by decide]
  simp only [go_sem,intS,Int.reduceLT,Int.reduceLE,Int.reduceToNat,Int.reduceAdd,frz,cAct,cWo,cWd]
  refine ops_call (.heapE [] (r' := .agg [.arr 3 2,.arr 4 2]) (H' := [.box (cWo w),.box (cAct 3 0 n 0 t),.box [.nilsl,.nilsl]] ++ hCW w w) (copyWorld_meets w) (by simp) (by simp) (by simp [go_sem,cWo,cWd]) rfl rfl rfl) ?_
  simp only [go_sem,intS,Int.reduceLT,Int.reduceLE,Int.reduceToNat,Int.reduceAdd,frz,cAct,hCW,cWo,cWd,Wo.ss,Wo.ys,cYs,cSi3,cSi,List.map_cons,List.map_nil,List.cons_append,List.nil_append,List.length_map,hwl]
  refine ops_call (.pureE (between_meets n 0 ((w.a.length:Int) - 1)) (by simp [go_sem])) ?_
  rw [hf]
  rw [hn]
  simp only [go_sem,intS,Int.reduceLT,Int.reduceLE,Int.reduceToNat,Int.reduceAdd,frz,cAct,cSi3,cSi]
  refine ops_call (.pureE (without_meets w.a q hq (by omega)) (by simp [go_sem])) ?_
  simp only [go_sem,intS,Int.reduceLT,Int.reduceLE,Int.reduceToNat,Int.reduceAdd,frz,cSi3,cSi,cAct]
  repeat refine ⟨rfl,?_⟩
  try simp only [go_sem,intS,Int.reduceLT,Int.reduceLE,Int.reduceToNat,Int.reduceAdd,frz]
  refine ret_weak (weak_pu 4 rfl rfl (by simp [frz,PV.isPure])) ?_
  refine ret_weak (weak_shut 3 rfl) ?_
  refine ret_pure hx ?_
  simp [go_sem,L29,R29,cWo,cWd,cYs,Wo.ys,Wo.ss,cSi3,cSi,frzAt,pos,frz]
  first | rfl | simp [Wo.setS,Wo.setY,Wo.way]
 ·
  skip
  have hq:q < w.b.length:=hq
  have hwl:IntKind.i64.wrap ((w.b.length:Int) - 1)=(w.b.length:Int) - 1:=by rw [IntWalk.i64_in _ (by omega)]
  have hf:wthn (q:Int) 0 ((w.b.length:Int) - 1)=true:=wthn_iff.2 (by omega)
  have hgq:w.b[q]? = some (nth w.b q):=nth_get? _ _ hq
  obtain ⟨n,hn⟩:∃ n:Int,n=(q:Int):=⟨_,rfl⟩
  rw [← hn] at hf ⊢
  refine Meets.of_walk Tryz.func29 Tryz.ntmps29 low29 res29 (by simp) fun x hx=>?_
  simp only [go_sem,L29,R29,cWo,cWd,cAct]
  refine ops_call (.pureE (between_meets 3 1 5) (by simp [go_sem])) ?_
  rw [show wthn 3 1 5=true from by decide]
  simp only [go_sem,intS,Int.reduceLT,Int.reduceLE,Int.reduceToNat,Int.reduceAdd,frz,cAct,txt_nil,t0]
  refine ops_call (.pureE (between_meets 1 0 1) (by simp [go_sem])) ?_
  rw [show wthn 1 0 1=true from by decide]
  simp only [go_sem,intS,Int.reduceLT,Int.reduceLE,Int.reduceToNat,Int.reduceAdd,frz,cAct,cWo,cWd]
  refine ops_call (.heapE [] (r' := .agg [.arr 3 2,.arr 4 2]) (H' := [.box (cWo w),.box (cAct 3 1 n 0 t),.box [.nilsl,.nilsl]] ++ hCW w w) (copyWorld_meets w) (by simp) (by simp) (by simp [go_sem,cWo,cWd]) rfl rfl rfl) ?_
  simp only [go_sem,intS,Int.reduceLT,Int.reduceLE,Int.reduceToNat,Int.reduceAdd,frz,cAct,hCW,cWo,cWd,Wo.ss,Wo.ys,cYs,cSi3,cSi,List.map_cons,List.map_nil,List.cons_append,List.nil_append,List.length_map,hwl]
  refine ops_call (.pureE (between_meets n 0 ((w.b.length:Int) - 1)) (by simp [go_sem])) ?_
  rw [hf]
  rw [hn]
  simp only [go_sem,intS,Int.reduceLT,Int.reduceLE,Int.reduceToNat,Int.reduceAdd,frz,cAct,cSi3,cSi]
  refine ops_call (.pureE (without_meets w.b q hq (by omega)) (by simp [go_sem])) ?_
  simp only [go_sem,intS,Int.reduceLT,Int.reduceLE,Int.reduceToNat,Int.reduceAdd,frz,cSi3,cSi,cAct]
  repeat refine ⟨rfl,?_⟩
  try simp only [go_sem,intS,Int.reduceLT,Int.reduceLE,Int.reduceToNat,Int.reduceAdd,frz]
  refine ret_weak (weak_pu 4 rfl rfl (by simp [frz,PV.isPure])) ?_
  refine ret_weak (weak_shut 3 rfl) ?_
  refine ret_pure hx ?_
  simp [go_sem,L29,R29,cWo,cWd,cYs,Wo.ys,Wo.ss,cSi3,cSi,frzAt,pos,frz]
  first | rfl | simp [Wo.setS,Wo.setY,Wo.way]
set_option maxHeartbeats 4000000 in
theorem doOf_4 (w : Wo) (h : WoOk w) (i : Int) (q : Nat) (t : ByteArray) (t0 : t.size = 0) (hi : i = 0 ∨ i = 1) (hq : q < (w.way i).length) : Meets Tryz.prog 29 [.agg (cWo w), .agg (cAct 4 i q 0 t)] []
    (.tup [.agg (if (w.way i).length=30 then cWoN else cWo (w.setY i (w.way i ++ [nth (w.way i) q]))),.int .i64 (if (w.way i).length=30 then 2 else 0)]) []:=by
  have la:=h.la
  have lb:=h.lb
  rcases hi with rfl | rfl
  · skip
    by_cases h30:(w.a.length:Int)=30
    · rw [if_pos (show (w.way 0).length=30 by show w.a.length=30; omega),if_pos (show (w.way 0).length=30 by show w.a.length=30; omega)]
      have hq:q < w.a.length:=hq
      have hwl:IntKind.i64.wrap ((w.a.length:Int) - 1)=(w.a.length:Int) - 1:=by rw [IntWalk.i64_in _ (by omega)]
      have hf:wthn (q:Int) 0 ((w.a.length:Int) - 1)=true:=wthn_iff.2 (by omega)
      have hgq:w.a[q]? = some (nth w.a q):=nth_get? _ _ hq
      obtain ⟨n,hn⟩:∃ n:Int,n=(q:Int):=⟨_,rfl⟩
      rw [← hn] at hf ⊢
      refine Meets.of_walk Tryz.func29 Tryz.ntmps29 low29 res29 (by simp) fun x hx=>?_
      simp only [go_sem,L29,R29,cWo,cWd,cAct]
      refine ops_call (.pureE (between_meets 4 1 5) (by simp [go_sem])) ?_
      rw [show wthn 4 1 5=true from by decide]
      simp only [go_sem,intS,Int.reduceLT,Int.reduceLE,Int.reduceToNat,Int.reduceAdd,frz,cAct,txt_nil,t0]
      refine ops_call (.pureE (between_meets 0 0 1) (by simp [go_sem])) ?_
      rw [show wthn 0 0 1=true from by decide]
      simp only [go_sem,intS,Int.reduceLT,Int.reduceLE,Int.reduceToNat,Int.reduceAdd,frz,cAct,cWo,cWd]
      refine ops_call (.heapE [] (r' := .agg [.arr 3 2,.arr 4 2]) (H' := [.box (cWo w),.box (cAct 4 0 n 0 t),.box [.nilsl,.nilsl]] ++ hCW w w) (copyWorld_meets w) (by simp) (by simp) (by simp [go_sem,cWo,cWd]) rfl rfl rfl) ?_
      simp only [go_sem,intS,Int.reduceLT,Int.reduceLE,Int.reduceToNat,Int.reduceAdd,frz,cAct,hCW,cWo,cWd,Wo.ss,Wo.ys,cYs,cSi3,cSi,List.map_cons,List.map_nil,List.cons_append,List.nil_append,List.length_map,hwl]
      refine ops_call (.pureE (between_meets n 0 ((w.a.length:Int) - 1)) (by simp [go_sem])) ?_
      rw [hf]
      rw [hn]
      simp only [go_sem,intS,Int.reduceLT,Int.reduceLE,Int.reduceToNat,Int.reduceAdd,frz,cAct,cSi3,cSi]
      simp only [go_sem,intS,Int.reduceLT,Int.reduceLE,Int.reduceToNat,Int.reduceAdd,frz,h30,List.length_map]
      refine ret_pure hx ?_
      simp [go_sem,L29,R29,cWoN]
    · rw [if_neg (show ¬ (w.way 0).length=30 by show ¬ w.a.length=30; omega),if_neg (show ¬ (w.way 0).length=30 by show ¬ w.a.length=30; omega)]
      have hq:q < w.a.length:=hq
      have hwl:IntKind.i64.wrap ((w.a.length:Int) - 1)=(w.a.length:Int) - 1:=by rw [IntWalk.i64_in _ (by omega)]
      have hf:wthn (q:Int) 0 ((w.a.length:Int) - 1)=true:=wthn_iff.2 (by omega)
      have hgq:w.a[q]? = some (nth w.a q):=nth_get? _ _ hq
      obtain ⟨n,hn⟩:∃ n:Int,n=(q:Int):=⟨_,rfl⟩
      rw [← hn] at hf ⊢
      refine Meets.of_walk Tryz.func29 Tryz.ntmps29 low29 res29 (by simp) fun x hx=>?_
      simp only [go_sem,L29,R29,cWo,cWd,cAct]
      refine ops_call (.pureE (between_meets 4 1 5) (by simp [go_sem])) ?_
      rw [show wthn 4 1 5=true from by decide]
      simp only [go_sem,intS,Int.reduceLT,Int.reduceLE,Int.reduceToNat,Int.reduceAdd,frz,cAct,txt_nil,t0]
      refine ops_call (.pureE (between_meets 0 0 1) (by simp [go_sem])) ?_
      rw [show wthn 0 0 1=true from by decide]
      simp only [go_sem,intS,Int.reduceLT,Int.reduceLE,Int.reduceToNat,Int.reduceAdd,frz,cAct,cWo,cWd]
      refine ops_call (.heapE [] (r' := .agg [.arr 3 2,.arr 4 2]) (H' := [.box (cWo w),.box (cAct 4 0 n 0 t),.box [.nilsl,.nilsl]] ++ hCW w w) (copyWorld_meets w) (by simp) (by simp) (by simp [go_sem,cWo,cWd]) rfl rfl rfl) ?_
      simp only [go_sem,intS,Int.reduceLT,Int.reduceLE,Int.reduceToNat,Int.reduceAdd,frz,cAct,hCW,cWo,cWd,Wo.ss,Wo.ys,cYs,cSi3,cSi,List.map_cons,List.map_nil,List.cons_append,List.nil_append,List.length_map,hwl]
      refine ops_call (.pureE (between_meets n 0 ((w.a.length:Int) - 1)) (by simp [go_sem])) ?_
      rw [hf]
      rw [hn]
      simp only [go_sem,intS,Int.reduceLT,Int.reduceLE,Int.reduceToNat,Int.reduceAdd,frz,cAct,cSi3,cSi]
      simp only [go_sem,intS,Int.reduceLT,Int.reduceLE,Int.reduceToNat,Int.reduceAdd,frz,h30,List.length_map]
      rw [app_arr rfl rfl (cE_row w.a) (by simp; omega)]
      simp only [go_sem,intS,Int.reduceLT,Int.reduceLE,Int.reduceToNat,Int.reduceAdd,frz,hgq,hq,cE]
      rw [app_arr rfl rfl (by simp) (by simp; omega)]
      have hce:List.map cE w.a ++ [[PV.int .i64 (nth w.a q).id.r,.int .i64 (nth w.a q).id.n,.int .i64 (nth w.a q).c,.str (nth w.a q).t,.list ((nth w.a q).ls.map cId)]]=(w.a ++ [nth w.a q]).map cE:=by simp [cE]
      simp only [go_sem,intS,Int.reduceLT,Int.reduceLE,Int.reduceToNat,Int.reduceAdd,frz,hce]
      repeat refine ⟨rfl,?_⟩
      try simp only [go_sem,intS,Int.reduceLT,Int.reduceLE,Int.reduceToNat,Int.reduceAdd,frz]
      refine ret_weak (weak_shut 6 rfl) ?_
      refine ret_weak (weak_pu 4 rfl rfl (by simp [frz,PV.isPure])) ?_
      refine ret_weak (weak_shut 3 rfl) ?_
      refine ret_pure hx ?_
      simp [go_sem,L29,R29,cWo,cWd,cYs,Wo.ys,Wo.ss,cSi3,cSi,frzAt,pos,frz]
      first | rfl | simp [Wo.setS,Wo.setY,Wo.way]
  · skip
    by_cases h30:(w.b.length:Int)=30
    · rw [if_pos (show (w.way 1).length=30 by show w.b.length=30; omega),if_pos (show (w.way 1).length=30 by show w.b.length=30; omega)]
      have hq:q < w.b.length:=hq
      have hwl:IntKind.i64.wrap ((w.b.length:Int) - 1)=(w.b.length:Int) - 1:=by rw [IntWalk.i64_in _ (by omega)]
      have hf:wthn (q:Int) 0 ((w.b.length:Int) - 1)=true:=wthn_iff.2 (by omega)
      have hgq:w.b[q]? = some (nth w.b q):=nth_get? _ _ hq
      obtain ⟨n,hn⟩:∃ n:Int,n=(q:Int):=⟨_,rfl⟩
      rw [← hn] at hf ⊢
      refine Meets.of_walk Tryz.func29 Tryz.ntmps29 low29 res29 (by simp) fun x hx=>?_
      simp only [go_sem,L29,R29,cWo,cWd,cAct]
      refine ops_call (.pureE (between_meets 4 1 5) (by simp [go_sem])) ?_
      rw [show wthn 4 1 5=true from by decide]
      simp only [go_sem,intS,Int.reduceLT,Int.reduceLE,Int.reduceToNat,Int.reduceAdd,frz,cAct,txt_nil,t0]
      refine ops_call (.pureE (between_meets 1 0 1) (by simp [go_sem])) ?_
      rw [show wthn 1 0 1=true from by decide]
      simp only [go_sem,intS,Int.reduceLT,Int.reduceLE,Int.reduceToNat,Int.reduceAdd,frz,cAct,cWo,cWd]
      refine ops_call (.heapE [] (r' := .agg [.arr 3 2,.arr 4 2]) (H' := [.box (cWo w),.box (cAct 4 1 n 0 t),.box [.nilsl,.nilsl]] ++ hCW w w) (copyWorld_meets w) (by simp) (by simp) (by simp [go_sem,cWo,cWd]) rfl rfl rfl) ?_
      simp only [go_sem,intS,Int.reduceLT,Int.reduceLE,Int.reduceToNat,Int.reduceAdd,frz,cAct,hCW,cWo,cWd,Wo.ss,Wo.ys,cYs,cSi3,cSi,List.map_cons,List.map_nil,List.cons_append,List.nil_append,List.length_map,hwl]
      refine ops_call (.pureE (between_meets n 0 ((w.b.length:Int) - 1)) (by simp [go_sem])) ?_
      rw [hf]
      rw [hn]
      simp only [go_sem,intS,Int.reduceLT,Int.reduceLE,Int.reduceToNat,Int.reduceAdd,frz,cAct,cSi3,cSi]
      simp only [go_sem,intS,Int.reduceLT,Int.reduceLE,Int.reduceToNat,Int.reduceAdd,frz,h30,List.length_map]
      refine ret_pure hx ?_
      simp [go_sem,L29,R29,cWoN]
    · rw [if_neg (show ¬ (w.way 1).length=30 by show ¬ w.b.length=30; omega),if_neg (show ¬ (w.way 1).length=30 by show ¬ w.b.length=30; omega)]
      have hq:q < w.b.length:=hq
      have hwl:IntKind.i64.wrap ((w.b.length:Int) - 1)=(w.b.length:Int) - 1:=by rw [IntWalk.i64_in _ (by omega)]
      have hf:wthn (q:Int) 0 ((w.b.length:Int) - 1)=true:=wthn_iff.2 (by omega)
      have hgq:w.b[q]? = some (nth w.b q):=nth_get? _ _ hq
      obtain ⟨n,hn⟩:∃ n:Int,n=(q:Int):=⟨_,rfl⟩
      rw [← hn] at hf ⊢
      refine Meets.of_walk Tryz.func29 Tryz.ntmps29 low29 res29 (by simp) fun x hx=>?_
      simp only [go_sem,L29,R29,cWo,cWd,cAct]
      refine ops_call (.pureE (between_meets 4 1 5) (by simp [go_sem])) ?_
      rw [show wthn 4 1 5=true from by decide]
      simp only [go_sem,intS,Int.reduceLT,Int.reduceLE,Int.reduceToNat,Int.reduceAdd,frz,cAct,txt_nil,t0]
      refine ops_call (.pureE (between_meets 1 0 1) (by simp [go_sem])) ?_
      rw [show wthn 1 0 1=true from by decide]
      simp only [go_sem,intS,Int.reduceLT,Int.reduceLE,Int.reduceToNat,Int.reduceAdd,frz,cAct,cWo,cWd]
      refine ops_call (.heapE [] (r' := .agg [.arr 3 2,.arr 4 2]) (H' := [.box (cWo w),.box (cAct 4 1 n 0 t),.box [.nilsl,.nilsl]] ++ hCW w w) (copyWorld_meets w) (by simp) (by simp) (by simp [go_sem,cWo,cWd]) rfl rfl rfl) ?_
      simp only [go_sem,intS,Int.reduceLT,Int.reduceLE,Int.reduceToNat,Int.reduceAdd,frz,cAct,hCW,cWo,cWd,Wo.ss,Wo.ys,cYs,cSi3,cSi,List.map_cons,List.map_nil,List.cons_append,List.nil_append,List.length_map,hwl]
      refine ops_call (.pureE (between_meets n 0 ((w.b.length:Int) - 1)) (by simp [go_sem])) ?_
      rw [hf]
      rw [hn]
      simp only [go_sem,intS,Int.reduceLT,Int.reduceLE,Int.reduceToNat,Int.reduceAdd,frz,cAct,cSi3,cSi]
      simp only [go_sem,intS,Int.reduceLT,Int.reduceLE,Int.reduceToNat,Int.reduceAdd,frz,h30,List.length_map]
      rw [app_arr rfl rfl (cE_row w.b) (by simp; omega)]
      simp only [go_sem,intS,Int.reduceLT,Int.reduceLE,Int.reduceToNat,Int.reduceAdd,frz,hgq,hq,cE]
      rw [app_arr rfl rfl (by simp) (by simp; omega)]
      have hce:List.map cE w.b ++ [[PV.int .i64 (nth w.b q).id.r,.int .i64 (nth w.b q).id.n,.int .i64 (nth w.b q).c,.str (nth w.b q).t,.list ((nth w.b q).ls.map cId)]]=(w.b ++ [nth w.b q]).map cE:=by simp [cE]
      simp only [go_sem,intS,Int.reduceLT,Int.reduceLE,Int.reduceToNat,Int.reduceAdd,frz,hce]
      repeat refine ⟨rfl,?_⟩
      try simp only [go_sem,intS,Int.reduceLT,Int.reduceLE,Int.reduceToNat,Int.reduceAdd,frz]
      refine ret_weak (weak_shut 6 rfl) ?_
      refine ret_weak (weak_pu 4 rfl rfl (by simp [frz,PV.isPure])) ?_
      refine ret_weak (weak_shut 3 rfl) ?_
      refine ret_pure hx ?_
      simp [go_sem,L29,R29,cWo,cWd,cYs,Wo.ys,Wo.ss,cSi3,cSi,frzAt,pos,frz]
      first | rfl | simp [Wo.setS,Wo.setY,Wo.way]
theorem doOf_meets (w:Wo) (h:WoOk w) (k i n c:Int) (t:ByteArray):Meets Tryz.prog 29 [.agg (cWo w),.agg (cAct k i n c t)] [] (.tup [.agg (doC w k i n c t),.int .i64 (doErr w k i n c t)]) []:=by
 by_cases hk:k < 1∨5 < k
 ·
  have e:doErr w k i n c t=7:=by rw [doErr,if_pos hk]
  rw [doC,e,if_neg (by decide)]
  exact doOf_kind w k i n c t hk
 ·
  by_cases he:extraB k n c t=true
  ·
   have e:doErr w k i n c t=1:=by rw [doErr,if_neg hk,if_pos he]
   rw [doC,e,if_neg (by decide)]
   exact doOf_extra w k i n c t hk he
  ·
   by_cases hi:i=0∨i=1
   ·
    have e:doErr w k i n c t=doErr0 w k i n c t:=by rw [doErr,if_neg hk,if_neg he,if_neg (by simp [hi])]
    rw [doC,e]
    by_cases k1:k=1
    ·
     subst k1
     have n0:n=0:=by simpa [extraB] using he
     subst n0
     have e2:doErr0 w 1 i 0 c t=apErr i (w.log i) c t:=by rw [doErr0,if_pos rfl]
     have e3:doW w 1 i 0 c t=sendW (w.setS i (settled (w.log i ++ [apE i (w.log i) c t]) (w.wts i))) (1 - i) (apE i (w.log i) c t):=by rw [doW,if_pos rfl]
     rw [e2,e3]
     exact doOf_1 w h i c t hi
    ·
     have c0:c=0:=by
      by_cases c0:c=0
      ·
       exact c0
      ·
       exact (he (by simp [extraB,k1,c0])).elim
     have t0:t.size=0:=by
      by_cases t0:t.size=0
      ·
       exact t0
      ·
       exact (he (by simp [extraB,k1,t0])).elim
     subst c0
     by_cases k5:k=5
     ·
      subst k5
      have n0:n=0:=by simpa [extraB,t0] using he
      subst n0
      have e2:doErr0 w 5 i 0 0 t=0:=by rw [doErr0,if_neg (by decide),if_pos rfl]; exact (allW_ok h hi).1
      have e3:doW w 5 i 0 0 t=w.setS i (allW w i).2:=by rw [doW,if_neg (by decide),if_pos rfl]
      rw [e2,if_pos rfl,e3]
      exact doOf_5 w h i t t0 hi
     ·
      have hk3:k=2∨k=3∨k=4:=by omega
      by_cases hn:n < 0∨((w.way i).length:Int)≤n
      ·
       have e2:doErr0 w k i n 0 t=5:=by rw [doErr0,if_neg k1,if_neg k5,if_pos hn]
       rw [e2,if_neg (by decide)]
       exact doOf_n w h k i n t t0 hk3 hi hn
      ·
       obtain ⟨q,rfl⟩:∃ q:Nat,n=q:=⟨n.toNat,by omega⟩
       have hq:q < (w.way i).length:=by omega
       rcases hk3 with rfl | rfl | rfl
       ·
        obtain ⟨-,y2,y3⟩:=h.by_ hi
        have hm:=nthM hq
        have hr0:=rc_born h hi (y2 _ hm) (y3 _ hm)
        have e2:doErr0 w 2 i q 0 t=0:=by rw [doErr0,if_neg (by decide),if_neg (by decide),if_neg hn,if_pos rfl,Int.toNat_natCast]; exact hr0
        have e3:doW w 2 i q 0 t=(w.setS i (rcSi i (w.log i) (w.wts i) (nth (w.way i) q)).2).setY i ((w.way i).eraseIdx q):=by rw [doW,if_neg (by decide),if_neg (by decide),if_pos rfl,Int.toNat_natCast]
        rw [e2,if_pos rfl,e3]
        exact doOf_2 w h i q t t0 hi hq
       ·
        have e2:doErr0 w 3 i q 0 t=0:=by rw [doErr0,if_neg (by decide),if_neg (by decide),if_neg hn,if_neg (by decide),if_pos rfl]
        have e3:doW w 3 i q 0 t=w.setY i ((w.way i).eraseIdx q):=by rw [doW,if_neg (by decide),if_neg (by decide),if_neg (by decide),if_pos rfl,Int.toNat_natCast]
        rw [e2,if_pos rfl,e3]
        exact doOf_3 w h i q t t0 hi hq
       ·
        have e2:doErr0 w 4 i q 0 t=if (w.way i).length=30 then 2 else 0:=by rw [doErr0,if_neg (by decide),if_neg (by decide),if_neg hn,if_neg (by decide),if_neg (by decide)]
        have e3:doW w 4 i q 0 t=w.setY i (w.way i ++ [nth (w.way i) q]):=by rw [doW,if_neg (by decide),if_neg (by decide),if_neg (by decide),if_neg (by decide),Int.toNat_natCast]
        have:=doOf_4 w h i q t t0 hi hq
        rw [e2,e3]
        by_cases h30:(w.way i).length=30
        ·
         simp only [if_pos h30] at this ⊢
         rwa [if_neg (by decide)]
        ·
         simp only [if_neg h30,if_true] at this ⊢
         exact this
   ·
    have e:doErr w k i n c t=3:=by rw [doErr,if_neg hk,if_neg he,if_pos hi]
    rw [doC,e,if_neg (by decide)]
    exact doOf_at w k i n c t hk he hi
end Go.Proofs.YtfdolehffjmdmaaGreatDoor
/- DeskTells,as a contract. -/
namespace Go.Proofs.YtfdolehffjmdmaaGreatDoor
set_option linter.unusedSimpArgs false
set_option linter.unusedVariables false
open Go.RowKit
def rE (l:List Ac):Int:=if 40 < l.length then 2 else 0
def rW (l:List Ac):Wo:=if 40 < l.length then wNew else (runW l).1
def rD (l:List Ac):List Int:=if 40 < l.length then [] else (runW l).2
def rS (l:List Ac):List Si:=if 40 < l.length then [] else (runW l).1.ss
def rY (l:List Ac):List (List Entry):=if 40 < l.length then [] else (runW l).1.ys
theorem runW_ok (l:List Ac):WoOk (runW l).1∧(runW l).2.length=l.length:=by
 have:=run_ok l l.length (Nat.le_refl _)
 rwa [List.take_length] at this
theorem rW_ok (l:List Ac):WoOk (rW l):=by
 unfold rW
 split
 ·
  exact wb_ok0
 ·
  exact (runW_ok l).1
theorem rD_len (l:List Ac):(rD l).length≤40:=by
 unfold rD
 split
 ·
  simp
 ·
  have:=(runW_ok l).2; omega
theorem runR_meets (l:List Ac) (hl:l.length≤9223372036854775806):Meets Tryz.prog 24 [.list (l.map cAc)] [] (.tup [.agg (cWd (rS l) (rY l)),.list ((rD l).map cInt),.int .i64 (rE l)]) []:=by
 have h:=run_meets l hl
 unfold rS rY rD rE
 split at h
 ·
  rename_i h40; rw [if_pos h40,if_pos h40,if_pos h40,if_pos h40]; exact h
 ·
  rename_i h40; rw [if_neg h40,if_neg h40,if_neg h40,if_neg h40]; exact h
theorem runIs_meets (l:List Ac):Meets Tryz.prog 32 [.agg (cWd (rS l) (rY l)),.int .i64 (rE l),.int .i64 (rE l),.agg (cWo (rW l))] [] (.bool true) []:=by
 obtain ⟨o1,o2⟩:=okSs_of (rW_ok l)
 have h:=worldIs_meets (rE l) (rW l).ss (rW l).ys (by simp [Wo.ss]) (by simp [Wo.ys]) o1 o2
 by_cases h40:40 < l.length
 ·
  have e:rE l=2:=if_pos h40
  have e2:rW l=wNew:=if_pos h40
  rw [e,e2] at h ⊢
  rw [rS,rY,if_pos h40,if_pos h40]
  rw [if_neg (by decide)] at h
  exact h
 ·
  have e:rE l=0:=if_neg h40
  have e2:rW l=(runW l).1:=if_neg h40
  rw [e,e2] at h ⊢
  rw [rS,rY,if_neg h40,if_neg h40]
  rw [if_pos rfl] at h
  exact h
theorem mapErr_of (l:List Entry) (c:Int):mapErr l c=if checkLog l=0 then (if c < 1∨7 < c then 3 else 0) else checkLog l:=by
 unfold mapErr
 split
 ·
  cases hw:wthn c 1 7
  ·
   rw [if_neg (by simp),if_pos]
   rw [← Bool.not_eq_true,wthn_iff] at hw; omega
  ·
   rw [if_pos rfl,if_neg]
   rw [wthn_iff] at hw; omega
 ·
  rfl
theorem sameErr_ok {ss:List Si} {ys:List (List Entry)} {c:Int} (h:sameErr ss ys c=0):woErr ss ys=0∧wthn c 1 7=true:=by
 unfold sameErr at h
 by_cases h0:woErr ss ys=0
 ·
  rw [if_pos h0] at h
  refine ⟨h0,?_⟩
  cases hw:wthn c 1 7
  ·
   rw [hw] at h; simp at h
  ·
   rfl
 ·
  rw [if_neg h0] at h; exact (h0 h).elim
theorem sameErr_of (ss:List Si) (ys:List (List Entry)) (c:Int):sameErr ss ys c=if woErr ss ys=0 then (if c < 1∨7 < c then 3 else 0) else woErr ss ys:=by
 unfold sameErr
 split
 ·
  cases hw:wthn c 1 7
  ·
   rw [if_neg (by simp),if_pos]
   rw [← Bool.not_eq_true,wthn_iff] at hw; omega
  ·
   rw [if_pos rfl,if_neg]
   rw [wthn_iff] at hw; omega
 ·
  rfl
set_option maxRecDepth 20000 in
set_option maxHeartbeats 8000000 in
theorem deskTells_meets (l : List Ac) (lg : List Entry) (c : Int) (ss : List Si) (ys : List (List Entry)) (hl : l.length ≤ 9223372036854775806) (hg : lg.length ≤ 9223372036854775806) (hs : ss.length ≤ 1000000000000000) (hy : ys.length ≤ 1000000000000000) (ho : okSs ss) (hoy : okYs ys) :
    Meets Tryz.prog 6 [.list (l.map cAc),.list (lg.map cE),.int .i64 c,.agg (cWd ss ys)] [] (.bool true) []:=by
  have hdl:=rD_len l
  refine Meets.of_parts Tryz.func6 Tryz.ntmps6 low6 res6 (by simp) fun x hx=>?_
  simp only [L6,R6,LC.flat,List.cons_append,List.nil_append]
  refine WL_join 9 [0,1,2,7,9,10,11,12,13,14,15,16,17,18] 2 (fun st=>st=⟨mkE .top [(0,.list (l.map cAc)),(1,.list (lg.map cE)),(2,.int .i64 c),(7,.ptr 0 0),(9,.ptr 1 0),(10,.list ((rD l).map cInt)),(11,.int .i64 (rE l)),(12,.str (textL lg c)),(13,.int .i64 (mapErr lg c)),(14,.bool (sameOf ss ys c)),(15,.int .i64 (sameErr ss ys c)),(16,.int .i64 (rE l)),(17,.int .i64 (mapErr lg c)),(18,.int .i64 (sameErr ss ys c))],[.box (cWd ss ys),.box (cWd (rS l) (rY l))]⟩) (by simp [hx]) (by simp) ?_ ?_
  · simp only [List.take_succ_cons,List.take_zero]
    have e0:rE l=if 40 < l.length then 2 else 0:=rfl
    have e1:=mapErr_of lg c
    have e2:=sameErr_of ss ys c
    simp only [go_sem,cWd]
    refine ops_call (.pureE (runR_meets l hl) (by simp [go_sem])) ?_
    simp only [go_sem,cWd]
    refine ops_call (.pureE (text_meets lg c hg) (by simp [go_sem])) ?_
    simp only [go_sem,cWd]
    refine ops_call (.pureE (same_meets ss ys c hs hy ho hoy) (by simp [go_sem,cWd])) ?_
    simp only [go_sem,cWd]
    refine ops_call (.pureE (checkLog_meets lg hg) (by simp [go_sem])) ?_
    simp only [go_sem,cWd]
    refine ops_call (.pureE (checkWorld_meets ss ys hs hy ho hoy) (by simp [go_sem,cWd])) ?_
    simp only [go_sem,cWd]
    have e3:((40:Int) < (l.length:Int))=(40 < l.length):=by simp; omega
    by_cases h40:40 < l.length
    · have e4:rE l=2:=if_pos h40
      by_cases h1:c < 1
      · skip
        by_cases h3:checkLog lg=0
        · have q1:mapErr lg c=3:=by rw [e1,if_pos h3,if_pos (Or.inl h1)]
          by_cases h4:woErr ss ys=0
          · have q2:sameErr ss ys c=3:=by rw [e2,if_pos h4,if_pos (Or.inl h1)]
            simp only [go_sem,intS,Int.reduceLT,Int.reduceLE,Int.reduceToNat,Int.reduceAdd,frz,e3,h40,h1,h3,h4,e4,q1,q2,decide_true,decide_false]
            refine ⟨by simp,_,Weak.refl _ _ _,?_⟩
            simp [trim_mk,go_sem,subHeap,renObj,renCell,renLeaf,pos,List.range_succ,cWd,e4,q1,q2,h3,h4]
          · have q2:sameErr ss ys c=woErr ss ys:=by rw [e2,if_neg h4]
            simp only [go_sem,intS,Int.reduceLT,Int.reduceLE,Int.reduceToNat,Int.reduceAdd,frz,e3,h40,h1,h3,h4,e4,q1,q2,decide_true,decide_false]
            refine ⟨by simp,_,Weak.refl _ _ _,?_⟩
            simp [trim_mk,go_sem,subHeap,renObj,renCell,renLeaf,pos,List.range_succ,cWd,e4,q1,q2,h3,h4]
        · have q1:mapErr lg c=checkLog lg:=by rw [e1,if_neg h3]
          by_cases h4:woErr ss ys=0
          · have q2:sameErr ss ys c=3:=by rw [e2,if_pos h4,if_pos (Or.inl h1)]
            simp only [go_sem,intS,Int.reduceLT,Int.reduceLE,Int.reduceToNat,Int.reduceAdd,frz,e3,h40,h1,h3,h4,e4,q1,q2,decide_true,decide_false]
            refine ⟨by simp,_,Weak.refl _ _ _,?_⟩
            simp [trim_mk,go_sem,subHeap,renObj,renCell,renLeaf,pos,List.range_succ,cWd,e4,q1,q2,h3,h4]
          · have q2:sameErr ss ys c=woErr ss ys:=by rw [e2,if_neg h4]
            simp only [go_sem,intS,Int.reduceLT,Int.reduceLE,Int.reduceToNat,Int.reduceAdd,frz,e3,h40,h1,h3,h4,e4,q1,q2,decide_true,decide_false]
            refine ⟨by simp,_,Weak.refl _ _ _,?_⟩
            simp [trim_mk,go_sem,subHeap,renObj,renCell,renLeaf,pos,List.range_succ,cWd,e4,q1,q2,h3,h4]
      · by_cases h2:7 < c
        · skip
          by_cases h3:checkLog lg=0
          · have q1:mapErr lg c=3:=by rw [e1,if_pos h3,if_pos (Or.inr h2)]
            by_cases h4:woErr ss ys=0
            · have q2:sameErr ss ys c=3:=by rw [e2,if_pos h4,if_pos (Or.inr h2)]
              simp only [go_sem,intS,Int.reduceLT,Int.reduceLE,Int.reduceToNat,Int.reduceAdd,frz,e3,h40,h1,h2,h3,h4,e4,q1,q2,decide_true,decide_false]
              refine ⟨by simp,_,Weak.refl _ _ _,?_⟩
              simp [trim_mk,go_sem,subHeap,renObj,renCell,renLeaf,pos,List.range_succ,cWd,e4,q1,q2,h3,h4]
            · have q2:sameErr ss ys c=woErr ss ys:=by rw [e2,if_neg h4]
              simp only [go_sem,intS,Int.reduceLT,Int.reduceLE,Int.reduceToNat,Int.reduceAdd,frz,e3,h40,h1,h2,h3,h4,e4,q1,q2,decide_true,decide_false]
              refine ⟨by simp,_,Weak.refl _ _ _,?_⟩
              simp [trim_mk,go_sem,subHeap,renObj,renCell,renLeaf,pos,List.range_succ,cWd,e4,q1,q2,h3,h4]
          · have q1:mapErr lg c=checkLog lg:=by rw [e1,if_neg h3]
            by_cases h4:woErr ss ys=0
            · have q2:sameErr ss ys c=3:=by rw [e2,if_pos h4,if_pos (Or.inr h2)]
              simp only [go_sem,intS,Int.reduceLT,Int.reduceLE,Int.reduceToNat,Int.reduceAdd,frz,e3,h40,h1,h2,h3,h4,e4,q1,q2,decide_true,decide_false]
              refine ⟨by simp,_,Weak.refl _ _ _,?_⟩
              simp [trim_mk,go_sem,subHeap,renObj,renCell,renLeaf,pos,List.range_succ,cWd,e4,q1,q2,h3,h4]
            · have q2:sameErr ss ys c=woErr ss ys:=by rw [e2,if_neg h4]
              simp only [go_sem,intS,Int.reduceLT,Int.reduceLE,Int.reduceToNat,Int.reduceAdd,frz,e3,h40,h1,h2,h3,h4,e4,q1,q2,decide_true,decide_false]
              refine ⟨by simp,_,Weak.refl _ _ _,?_⟩
              simp [trim_mk,go_sem,subHeap,renObj,renCell,renLeaf,pos,List.range_succ,cWd,e4,q1,q2,h3,h4]
        · have hn:¬ (c < 1∨7 < c):=by omega
          by_cases h3:checkLog lg=0
          · have q1:mapErr lg c=0:=by rw [e1,if_pos h3,if_neg hn]
            by_cases h4:woErr ss ys=0
            · have q2:sameErr ss ys c=0:=by rw [e2,if_pos h4,if_neg hn]
              simp only [go_sem,intS,Int.reduceLT,Int.reduceLE,Int.reduceToNat,Int.reduceAdd,frz,e3,h40,h1,h2,h3,h4,e4,q1,q2,decide_true,decide_false]
              refine ⟨by simp,_,Weak.refl _ _ _,?_⟩
              simp [trim_mk,go_sem,subHeap,renObj,renCell,renLeaf,pos,List.range_succ,cWd,e4,q1,q2,h3,h4]
            · have q2:sameErr ss ys c=woErr ss ys:=by rw [e2,if_neg h4]
              simp only [go_sem,intS,Int.reduceLT,Int.reduceLE,Int.reduceToNat,Int.reduceAdd,frz,e3,h40,h1,h2,h3,h4,e4,q1,q2,decide_true,decide_false]
              refine ⟨by simp,_,Weak.refl _ _ _,?_⟩
              simp [trim_mk,go_sem,subHeap,renObj,renCell,renLeaf,pos,List.range_succ,cWd,e4,q1,q2,h3,h4]
          · have q1:mapErr lg c=checkLog lg:=by rw [e1,if_neg h3]
            by_cases h4:woErr ss ys=0
            · have q2:sameErr ss ys c=0:=by rw [e2,if_pos h4,if_neg hn]
              simp only [go_sem,intS,Int.reduceLT,Int.reduceLE,Int.reduceToNat,Int.reduceAdd,frz,e3,h40,h1,h2,h3,h4,e4,q1,q2,decide_true,decide_false]
              refine ⟨by simp,_,Weak.refl _ _ _,?_⟩
              simp [trim_mk,go_sem,subHeap,renObj,renCell,renLeaf,pos,List.range_succ,cWd,e4,q1,q2,h3,h4]
            · have q2:sameErr ss ys c=woErr ss ys:=by rw [e2,if_neg h4]
              simp only [go_sem,intS,Int.reduceLT,Int.reduceLE,Int.reduceToNat,Int.reduceAdd,frz,e3,h40,h1,h2,h3,h4,e4,q1,q2,decide_true,decide_false]
              refine ⟨by simp,_,Weak.refl _ _ _,?_⟩
              simp [trim_mk,go_sem,subHeap,renObj,renCell,renLeaf,pos,List.range_succ,cWd,e4,q1,q2,h3,h4]
    · have e4:rE l=0:=if_neg h40
      by_cases h1:c < 1
      · skip
        by_cases h3:checkLog lg=0
        · have q1:mapErr lg c=3:=by rw [e1,if_pos h3,if_pos (Or.inl h1)]
          by_cases h4:woErr ss ys=0
          · have q2:sameErr ss ys c=3:=by rw [e2,if_pos h4,if_pos (Or.inl h1)]
            simp only [go_sem,intS,Int.reduceLT,Int.reduceLE,Int.reduceToNat,Int.reduceAdd,frz,e3,h40,h1,h3,h4,e4,q1,q2,decide_true,decide_false]
            refine ⟨by simp,_,Weak.refl _ _ _,?_⟩
            simp [trim_mk,go_sem,subHeap,renObj,renCell,renLeaf,pos,List.range_succ,cWd,e4,q1,q2,h3,h4]
          · have q2:sameErr ss ys c=woErr ss ys:=by rw [e2,if_neg h4]
            simp only [go_sem,intS,Int.reduceLT,Int.reduceLE,Int.reduceToNat,Int.reduceAdd,frz,e3,h40,h1,h3,h4,e4,q1,q2,decide_true,decide_false]
            refine ⟨by simp,_,Weak.refl _ _ _,?_⟩
            simp [trim_mk,go_sem,subHeap,renObj,renCell,renLeaf,pos,List.range_succ,cWd,e4,q1,q2,h3,h4]
        · have q1:mapErr lg c=checkLog lg:=by rw [e1,if_neg h3]
          by_cases h4:woErr ss ys=0
          · have q2:sameErr ss ys c=3:=by rw [e2,if_pos h4,if_pos (Or.inl h1)]
            simp only [go_sem,intS,Int.reduceLT,Int.reduceLE,Int.reduceToNat,Int.reduceAdd,frz,e3,h40,h1,h3,h4,e4,q1,q2,decide_true,decide_false]
            refine ⟨by simp,_,Weak.refl _ _ _,?_⟩
            simp [trim_mk,go_sem,subHeap,renObj,renCell,renLeaf,pos,List.range_succ,cWd,e4,q1,q2,h3,h4]
          · have q2:sameErr ss ys c=woErr ss ys:=by rw [e2,if_neg h4]
            simp only [go_sem,intS,Int.reduceLT,Int.reduceLE,Int.reduceToNat,Int.reduceAdd,frz,e3,h40,h1,h3,h4,e4,q1,q2,decide_true,decide_false]
            refine ⟨by simp,_,Weak.refl _ _ _,?_⟩
            simp [trim_mk,go_sem,subHeap,renObj,renCell,renLeaf,pos,List.range_succ,cWd,e4,q1,q2,h3,h4]
      · by_cases h2:7 < c
        · skip
          by_cases h3:checkLog lg=0
          · have q1:mapErr lg c=3:=by rw [e1,if_pos h3,if_pos (Or.inr h2)]
            by_cases h4:woErr ss ys=0
            · have q2:sameErr ss ys c=3:=by rw [e2,if_pos h4,if_pos (Or.inr h2)]
              simp only [go_sem,intS,Int.reduceLT,Int.reduceLE,Int.reduceToNat,Int.reduceAdd,frz,e3,h40,h1,h2,h3,h4,e4,q1,q2,decide_true,decide_false]
              refine ⟨by simp,_,Weak.refl _ _ _,?_⟩
              simp [trim_mk,go_sem,subHeap,renObj,renCell,renLeaf,pos,List.range_succ,cWd,e4,q1,q2,h3,h4]
            · have q2:sameErr ss ys c=woErr ss ys:=by rw [e2,if_neg h4]
              simp only [go_sem,intS,Int.reduceLT,Int.reduceLE,Int.reduceToNat,Int.reduceAdd,frz,e3,h40,h1,h2,h3,h4,e4,q1,q2,decide_true,decide_false]
              refine ⟨by simp,_,Weak.refl _ _ _,?_⟩
              simp [trim_mk,go_sem,subHeap,renObj,renCell,renLeaf,pos,List.range_succ,cWd,e4,q1,q2,h3,h4]
          · have q1:mapErr lg c=checkLog lg:=by rw [e1,if_neg h3]
            by_cases h4:woErr ss ys=0
            · have q2:sameErr ss ys c=3:=by rw [e2,if_pos h4,if_pos (Or.inr h2)]
              simp only [go_sem,intS,Int.reduceLT,Int.reduceLE,Int.reduceToNat,Int.reduceAdd,frz,e3,h40,h1,h2,h3,h4,e4,q1,q2,decide_true,decide_false]
              refine ⟨by simp,_,Weak.refl _ _ _,?_⟩
              simp [trim_mk,go_sem,subHeap,renObj,renCell,renLeaf,pos,List.range_succ,cWd,e4,q1,q2,h3,h4]
            · have q2:sameErr ss ys c=woErr ss ys:=by rw [e2,if_neg h4]
              simp only [go_sem,intS,Int.reduceLT,Int.reduceLE,Int.reduceToNat,Int.reduceAdd,frz,e3,h40,h1,h2,h3,h4,e4,q1,q2,decide_true,decide_false]
              refine ⟨by simp,_,Weak.refl _ _ _,?_⟩
              simp [trim_mk,go_sem,subHeap,renObj,renCell,renLeaf,pos,List.range_succ,cWd,e4,q1,q2,h3,h4]
        · have hn:¬ (c < 1∨7 < c):=by omega
          by_cases h3:checkLog lg=0
          · have q1:mapErr lg c=0:=by rw [e1,if_pos h3,if_neg hn]
            by_cases h4:woErr ss ys=0
            · have q2:sameErr ss ys c=0:=by rw [e2,if_pos h4,if_neg hn]
              simp only [go_sem,intS,Int.reduceLT,Int.reduceLE,Int.reduceToNat,Int.reduceAdd,frz,e3,h40,h1,h2,h3,h4,e4,q1,q2,decide_true,decide_false]
              refine ⟨by simp,_,Weak.refl _ _ _,?_⟩
              simp [trim_mk,go_sem,subHeap,renObj,renCell,renLeaf,pos,List.range_succ,cWd,e4,q1,q2,h3,h4]
            · have q2:sameErr ss ys c=woErr ss ys:=by rw [e2,if_neg h4]
              simp only [go_sem,intS,Int.reduceLT,Int.reduceLE,Int.reduceToNat,Int.reduceAdd,frz,e3,h40,h1,h2,h3,h4,e4,q1,q2,decide_true,decide_false]
              refine ⟨by simp,_,Weak.refl _ _ _,?_⟩
              simp [trim_mk,go_sem,subHeap,renObj,renCell,renLeaf,pos,List.range_succ,cWd,e4,q1,q2,h3,h4]
          · have q1:mapErr lg c=checkLog lg:=by rw [e1,if_neg h3]
            by_cases h4:woErr ss ys=0
            · have q2:sameErr ss ys c=0:=by rw [e2,if_pos h4,if_neg hn]
              simp only [go_sem,intS,Int.reduceLT,Int.reduceLE,Int.reduceToNat,Int.reduceAdd,frz,e3,h40,h1,h2,h3,h4,e4,q1,q2,decide_true,decide_false]
              refine ⟨by simp,_,Weak.refl _ _ _,?_⟩
              simp [trim_mk,go_sem,subHeap,renObj,renCell,renLeaf,pos,List.range_succ,cWd,e4,q1,q2,h3,h4]
            · have q2:sameErr ss ys c=woErr ss ys:=by rw [e2,if_neg h4]
              simp only [go_sem,intS,Int.reduceLT,Int.reduceLE,Int.reduceToNat,Int.reduceAdd,frz,e3,h40,h1,h2,h3,h4,e4,q1,q2,decide_true,decide_false]
              refine ⟨by simp,_,Weak.refl _ _ _,?_⟩
              simp [trim_mk,go_sem,subHeap,renObj,renCell,renLeaf,pos,List.range_succ,cWd,e4,q1,q2,h3,h4]
  · rintro st rfl
    simp only [List.drop_succ_cons,List.drop_zero]
    refine WL_join 4 [1,2,7,9,10,11,12,13,14,15,16,17,18,19,20] 4 (fun st=>∃ v:Nat,st=⟨mkE .top [(1,.list (lg.map cE)),(2,.int .i64 c),(7,.ptr 0 0),(9,.ptr 1 0),(10,.list ((rD l).map cInt)),(11,.int .i64 (rE l)),(12,.str (textL lg c)),(13,.int .i64 (mapErr lg c)),(14,.bool (sameOf ss ys c)),(15,.int .i64 (sameErr ss ys c)),(16,.int .i64 (rE l)),(17,.int .i64 (mapErr lg c)),(18,.int .i64 (sameErr ss ys c)),(19,.ptr 2 0),(20,.arr 3 v)],[.box (cWd ss ys),.box (cWd (rS l) (rY l)),.box (cWo (rW l)),.arr v true false 24 1 ((rD l).map cInt)]⟩) (by simp [hx]) (by simp) ?_ ?_
    · simp only [List.take_succ_cons,List.take_zero]
      simp only [go_sem,cWd]
      refine ops_call (.pure newWorld_meets) ?_
      simp only [go_sem,cWo,cWd]
      refine W_weak (weak_own 20 0 24 1 true false rfl (by omega)) ?_
      rw [put_mk]
      by_cases h40:40 < l.length
      · have e4:rE l=2:=if_pos h40
        have e5:rW l=wNew:=if_pos h40
        have e6:rD l = []:=if_pos h40
        have hpos:(0:Int) < (l.length:Int):=by omega
        refine loop_inv [0,1,2,7,9,10,11,12,13,14,15,16,17,18,19,20,21] 4 (fun q st=>st=⟨mkE .top ((0,.list (l.map cAc)) :: [(1,.list (lg.map cE)),(2,.int .i64 c),(7,.ptr 0 0),(9,.ptr 1 0),(10,.list ((rD l).map cInt)),(11,.int .i64 (rE l)),(12,.str (textL lg c)),(13,.int .i64 (mapErr lg c)),(14,.bool (sameOf ss ys c)),(15,.int .i64 (sameErr ss ys c)),(16,.int .i64 (rE l)),(17,.int .i64 (mapErr lg c)),(18,.int .i64 (sameErr ss ys c)),(19,.ptr 2 0),(20,.arr 3 0),(21,.int .i64 0)]),[.box (cWd ss ys),.box (cWd (rS l) (rY l)),.box (cWo wNew),.arr 0 true false 24 1 []]⟩) 0 (by simp [hx]) (by simp) ?_ ?_
        · simp [trim_mk,go_sem,subHeap,renObj,renCell,renLeaf,pos,List.range_succ,cWo,cWd]
        · rintro q st rfl
          simp only [go_sem,intS,Int.reduceLT,Int.reduceLE,Int.reduceToNat,Int.reduceAdd,frz,hpos,e4]
          refine ⟨by simp,_,Weak.refl _ _ _,0,?_⟩
          simp [trim_mk,go_sem,subHeap,renObj,renCell,renLeaf,pos,List.range_succ,cWo,cWd,e4,e5,e6]
      · have e4:rE l=0:=if_neg h40
        have e5:rW l=(runW l).1:=if_neg h40
        have e6:rD l=(runW l).2:=if_neg h40
        refine loop_inv [0,1,2,7,9,10,11,12,13,14,15,16,17,18,19,20,21] 4 (fun q st=>∃ k v:Nat,k + q=l.length∧st=⟨mkE .top ((0,.list (l.map cAc)) :: [(1,.list (lg.map cE)),(2,.int .i64 c),(7,.ptr 0 0),(9,.ptr 1 0),(10,.list ((rD l).map cInt)),(11,.int .i64 (rE l)),(12,.str (textL lg c)),(13,.int .i64 (mapErr lg c)),(14,.bool (sameOf ss ys c)),(15,.int .i64 (sameErr ss ys c)),(16,.int .i64 (rE l)),(17,.int .i64 (mapErr lg c)),(18,.int .i64 (sameErr ss ys c)),(19,.ptr 2 0),(20,.arr 3 v),(21,.int .i64 k)]),[.box (cWd ss ys),.box (cWd (rS l) (rY l)),.box (cWo (runW (l.take k)).1),.arr v true false 24 1 ((runW (l.take k)).2.map cInt)]⟩) l.length (by simp [hx]) (by simp) ?_ ?_
        · refine ⟨0,0,by omega,?_⟩
          simp [trim_mk,go_sem,subHeap,renObj,renCell,renLeaf,pos,List.range_succ,cWo,cWd,runW]
        · rintro q st ⟨k,v,hk,rfl⟩
          by_cases hlt:k < l.length
          · have hga:l[k]? = some (nth l k):=nth_get? _ _ hlt
            have wk:=i64_up (k:=k) (by omega)
            obtain ⟨hw,hz⟩:=run_ok l k (by omega)
            have hst:=run_take hlt
            generalize nth l k=a at *
            generalize runW (l.take k)=r at *
            obtain ⟨w,es⟩:=r
            obtain ⟨ak,ai,an,ac,at_⟩:=a
            simp only at hw hz
            have hdo:=doOf_meets w hw ak ai an ac at_
            simp only [go_sem,intS,Int.reduceLT,Int.reduceLE,Int.reduceToNat,Int.reduceAdd,frz,hlt,hga,e4,cAc,cAct,cWo,cWd]
            refine ops_call (.pureE hdo (by simp [go_sem,cWo,cWd,cAct])) ?_
            have q1:acErr w (ak,ai,an,ac,at_)=doErr w ak ai an ac at_:=rfl
            by_cases he:doErr w ak ai an ac at_=0
            · have q2:acW w (ak,ai,an,ac,at_)=doW w ak ai an ac at_:=by rw [acW,q1,if_pos he]
              rw [doC,if_pos he,he]
              simp only [go_sem,intS,Int.reduceLT,Int.reduceLE,Int.reduceToNat,Int.reduceAdd,frz,cWo,cWd]
              repeat refine ⟨rfl,?_⟩
              rw [app_arr rfl rfl (by simp) (by simp; omega)]
              simp only [go_sem,intS,Int.reduceLT,Int.reduceLE,Int.reduceToNat,Int.reduceAdd,frz,wk]
              refine ⟨by simp,q - 1,by omega,k + 1,v + 1,by omega,?_⟩
              rw [hst]
              simp [trim_mk,go_sem,subHeap,renObj,renCell,renLeaf,pos,List.range_succ,runStep,q1,q2,he,cWo,cWd,cInt,e4]
            · have q2:acW w (ak,ai,an,ac,at_)=w:=by rw [acW,q1,if_neg he]
              rw [doC,if_neg he]
              simp only [go_sem,intS,Int.reduceLT,Int.reduceLE,Int.reduceToNat,Int.reduceAdd,frz,cWoN]
              repeat refine ⟨rfl,?_⟩
              simp only [go_sem,intS,Int.reduceLT,Int.reduceLE,Int.reduceToNat,Int.reduceAdd,frz,he]
              rw [app_arr rfl rfl (by simp) (by simp; omega)]
              simp only [go_sem,intS,Int.reduceLT,Int.reduceLE,Int.reduceToNat,Int.reduceAdd,frz,wk]
              refine ⟨by simp,q - 1,by omega,k + 1,v + 1,by omega,?_⟩
              rw [hst]
              simp [trim_mk,go_sem,subHeap,renObj,renCell,renLeaf,pos,List.range_succ,runStep,q1,q2,cWo,cWd,cInt,e4]
          · have:l.take k=l:=List.take_of_length_le (by omega)
            rw [this]
            simp only [go_sem,intS,Int.reduceLT,Int.reduceLE,Int.reduceToNat,Int.reduceAdd,frz,hlt]
            refine ⟨by simp,_,Weak.refl _ _ _,v,?_⟩
            simp [trim_mk,go_sem,subHeap,renObj,renCell,renLeaf,pos,List.range_succ,cWo,cWd,e4,e5,e6]
    · rintro st ⟨v,rfl⟩
      simp only [List.drop_succ_cons,List.drop_zero]
      refine WL_join 6 [9,10,11,12,13,14,15,16,17,18,19,20,24,25] 4 (fun st=>st=⟨mkE .top [(9,.ptr 1 0),(10,.list ((rD l).map cInt)),(11,.int .i64 (rE l)),(12,.str (textL lg c)),(13,.int .i64 (mapErr lg c)),(14,.bool (sameOf ss ys c)),(15,.int .i64 (sameErr ss ys c)),(16,.int .i64 (rE l)),(17,.int .i64 (mapErr lg c)),(18,.int .i64 (sameErr ss ys c)),(19,.ptr 2 0),(20,.arr 3 v),(24,.str (textL lg c)),(25,.bool (sameOf ss ys c))],[.box (cWd ss ys),.box (cWd (rS l) (rY l)),.box (cWo (rW l)),.arr v true false 24 1 ((rD l).map cInt)]⟩) (by simp [hx]) (by simp) ?_ ?_
      · simp only [List.take_succ_cons,List.take_zero]
        by_cases h1:mapErr lg c=0
        · obtain ⟨hok,hc⟩:=mapErr_ok.1 h1
          have e1:textL lg c=wrL (mapR lg c):=by rw [textL,if_pos h1,raw_map hok]
          simp only [go_sem,intS,Int.reduceLT,Int.reduceLE,Int.reduceToNat,Int.reduceAdd,frz,h1,cWd]
          refine ops_call (.pureE (textOf_meets lg c hok hc) (by simp [go_sem])) ?_
          simp only [go_sem,intS,Int.reduceLT,Int.reduceLE,Int.reduceToNat,Int.reduceAdd,frz,h1,cWd]
          by_cases h2:sameErr ss ys c=0
          · obtain ⟨h0,hc2⟩:=sameErr_ok h2
            obtain ⟨w,rfl,rfl,hw⟩:=woErr_inv h0
            have hp:LogOk w.p:=hw.log (i:=0) (.inl rfl)
            have hq:LogOk w.q:=hw.log (i:=1) (.inr rfl)
            have e2:sameOf w.ss w.ys c=decide (wrL (mapR w.p c)=wrL (mapR w.q c)):=by
              rw [sameOf,if_pos h2,← sameT_map hp hq]; rfl
            have h2':sameErr [(0,w.p,w.u),(1,w.q,w.v)] [w.a,w.b] c=0:=h2
            have e2':sameOf [(0,w.p,w.u),(1,w.q,w.v)] [w.a,w.b] c=decide (wrL (mapR w.p c)=wrL (mapR w.q c)):=e2
            simp only [go_sem,intS,Int.reduceLT,Int.reduceLE,Int.reduceToNat,Int.reduceAdd,frz,h2',Wo.ss,Wo.ys,cSi3,cSi,List.map_cons,List.map_nil,List.length_cons,List.length_nil]
            refine ops_call (.pureE (textOf_meets w.p c hp hc2) (by simp [go_sem])) ?_
            simp only [go_sem,intS,Int.reduceLT,Int.reduceLE,Int.reduceToNat,Int.reduceAdd,frz]
            refine ops_call (.pureE (textOf_meets w.q c hq hc2) (by simp [go_sem])) ?_
            simp only [go_sem,intS,Int.reduceLT,Int.reduceLE,Int.reduceToNat,Int.reduceAdd,frz]
            repeat refine ⟨rfl,?_⟩
            refine ⟨by simp,_,Weak.refl _ _ _,?_⟩
            simp [trim_mk,go_sem,subHeap,renObj,renCell,renLeaf,pos,List.range_succ,cWd,cWo,Wo.ss,Wo.ys,cSi3,cSi,e1,e2',h1,h2',nilB]
          · have e2:sameOf ss ys c=false:=by rw [sameOf,if_neg h2]
            simp only [go_sem,intS,Int.reduceLT,Int.reduceLE,Int.reduceToNat,Int.reduceAdd,frz,h2]
            refine ⟨by simp,_,Weak.refl _ _ _,?_⟩
            simp [trim_mk,go_sem,subHeap,renObj,renCell,renLeaf,pos,List.range_succ,cWd,cWo,e1,e2,h1,nilB]
        · have e1:textL lg c=nilB:=by rw [textL,if_neg h1]
          simp only [go_sem,intS,Int.reduceLT,Int.reduceLE,Int.reduceToNat,Int.reduceAdd,frz,h1,cWd]
          by_cases h2:sameErr ss ys c=0
          · obtain ⟨h0,hc2⟩:=sameErr_ok h2
            obtain ⟨w,rfl,rfl,hw⟩:=woErr_inv h0
            have hp:LogOk w.p:=hw.log (i:=0) (.inl rfl)
            have hq:LogOk w.q:=hw.log (i:=1) (.inr rfl)
            have e2:sameOf w.ss w.ys c=decide (wrL (mapR w.p c)=wrL (mapR w.q c)):=by
              rw [sameOf,if_pos h2,← sameT_map hp hq]; rfl
            have h2':sameErr [(0,w.p,w.u),(1,w.q,w.v)] [w.a,w.b] c=0:=h2
            have e2':sameOf [(0,w.p,w.u),(1,w.q,w.v)] [w.a,w.b] c=decide (wrL (mapR w.p c)=wrL (mapR w.q c)):=e2
            simp only [go_sem,intS,Int.reduceLT,Int.reduceLE,Int.reduceToNat,Int.reduceAdd,frz,h2',Wo.ss,Wo.ys,cSi3,cSi,List.map_cons,List.map_nil,List.length_cons,List.length_nil]
            refine ops_call (.pureE (textOf_meets w.p c hp hc2) (by simp [go_sem])) ?_
            simp only [go_sem,intS,Int.reduceLT,Int.reduceLE,Int.reduceToNat,Int.reduceAdd,frz]
            refine ops_call (.pureE (textOf_meets w.q c hq hc2) (by simp [go_sem])) ?_
            simp only [go_sem,intS,Int.reduceLT,Int.reduceLE,Int.reduceToNat,Int.reduceAdd,frz]
            repeat refine ⟨rfl,?_⟩
            refine ⟨by simp,_,Weak.refl _ _ _,?_⟩
            simp [trim_mk,go_sem,subHeap,renObj,renCell,renLeaf,pos,List.range_succ,cWd,cWo,Wo.ss,Wo.ys,cSi3,cSi,e1,e2',h1,h2',nilB]
          · have e2:sameOf ss ys c=false:=by rw [sameOf,if_neg h2]
            simp only [go_sem,intS,Int.reduceLT,Int.reduceLE,Int.reduceToNat,Int.reduceAdd,frz,h2]
            refine ⟨by simp,_,Weak.refl _ _ _,?_⟩
            simp [trim_mk,go_sem,subHeap,renObj,renCell,renLeaf,pos,List.range_succ,cWd,cWo,e1,e2,h1,nilB]
      · rintro st rfl
        simp only [List.drop_succ_cons,List.drop_zero]
        refine WL_walk ?_
        simp only [go_sem,intS,Int.reduceLT,Int.reduceLE,Int.reduceToNat,Int.reduceAdd,frz,decide_true,decide_false]
        refine loop_inv [9,10,11,12,13,14,15,16,17,18,19,20,24,25,26] 4 (fun q st=>∃ k:Nat,k + q=(rD l).length∧st=⟨mkE .top [(9,.ptr 1 0),(10,.list ((rD l).map cInt)),(11,.int .i64 (rE l)),(12,.str (textL lg c)),(13,.int .i64 (mapErr lg c)),(14,.bool (sameOf ss ys c)),(15,.int .i64 (sameErr ss ys c)),(16,.int .i64 (rE l)),(17,.int .i64 (mapErr lg c)),(18,.int .i64 (sameErr ss ys c)),(19,.ptr 2 0),(20,.arr 3 v),(24,.str (textL lg c)),(25,.bool (sameOf ss ys c)),(26,.int .i64 k)],[.box (cWd ss ys),.box (cWd (rS l) (rY l)),.box (cWo (rW l)),.arr v true false 24 1 ((rD l).map cInt)]⟩) (rD l).length (by simp [hx]) (by simp) ?_ ?_
        · refine ⟨0,by omega,?_⟩
          simp [trim_mk,go_sem,subHeap,renObj,renCell,renLeaf,pos,List.range_succ,cWd,cWo]
        · rintro q st ⟨k,hk,rfl⟩
          by_cases hlt:k < (rD l).length
          · have hgd:(rD l)[k]? = some (nth (rD l) k):=nth_get? _ _ hlt
            have wk:=i64_up (k:=k) (by omega)
            simp only [go_sem,intS,Int.reduceLT,Int.reduceLE,Int.reduceToNat,Int.reduceAdd,frz,hlt,hgd,cInt,cWd,cWo,decide_true,decide_false,wk]
            repeat refine ⟨rfl,?_⟩
            try simp only [go_sem,intS,Int.reduceLT,Int.reduceLE,Int.reduceToNat,Int.reduceAdd,frz,wk]
            refine ⟨by simp,q - 1,by omega,k + 1,by omega,?_⟩
            simp [trim_mk,go_sem,subHeap,renObj,renCell,renLeaf,pos,List.range_succ,cWd,cWo]
          · simp only [go_sem,intS,Int.reduceLT,Int.reduceLE,Int.reduceToNat,Int.reduceAdd,frz,hlt,cWd,cWo]
            refine ops_call (.pureE deskBegun_meets (by simp [go_sem])) ?_
            simp only [go_sem,intS,Int.reduceLT,Int.reduceLE,Int.reduceToNat,Int.reduceAdd,frz,cWd,cWo]
            refine ops_call (.pureE (runIs_meets l) (by simp [go_sem,cWo,cWd])) ?_
            simp only [go_sem,intS,Int.reduceLT,Int.reduceLE,Int.reduceToNat,Int.reduceAdd,frz,decide_true,decide_false]
            refine ret_pure hx ?_
            simp [go_sem,L6,R6]
end Go.Proofs.YtfdolehffjmdmaaGreatDoor
/- From an argument's reading as data to what the walks ask of memory; and from a walk that ends in 'true' to a law's statement. -/
namespace Go.Proofs.YtfdolehffjmdmaaGreatDoor
open Go.RowKit Go.ChangeShapes Go.WideShapes Go.ChangeAt
section
variable {H:Type} {enc:TypeId × Value→H} {P:Program} {w:World} {sp:Nat→Bool} {held:Bool}
theorem trodAll_stays (hl : laidOutB P = true) {W W' : World} (hb : Below W.heap.size W W') : ∀ {ts : List TypeId} {vs : List Value} {ds : List (DataW H)} {ps : List MemPlace},
    (∀ t ∈ ts,P.readableRec t=true∧t < P.types.size)→(∀ x ∈ ps,x.block < W.heap.size)→DataW.TrodAll enc P W 0 (fun _=>true) true ts vs ds ps→DataW.TrodAll enc P W' 0 (fun b=>decide (b < W.heap.size)) true ts vs ds ps
  | [],[],[],_,_,_,h=>h
  | t :: ts,v :: vs,d :: ds,_,hr,hlt,h=>by
    obtain ⟨p,q,h1,h2,rfl⟩:=h
    refine ⟨p,q,Below.trod hl (hr t (by simp)).1 (hr t (by simp)).2 h1 hb (fun x hx=>hlt x (by simp [hx])),trodAll_stays hl hb (fun t' ht=>hr t' (by simp [ht])) (fun x hx=>hlt x (by simp [hx])) h2,rfl⟩
  | [],[],_ :: _,_,_,_,h=>h.elim
  | [],_ :: _,_,_,_,_,h=>by cases h
  | _ :: _,[],_,_,_,_,h=>by cases h
  | _ :: _,_ :: _,[],_,_,_,h=>h.elim
theorem law_post {f : Func} {s : ChangeSpec} {apart : Bool} {W W' : World} {args : Array Value} {ds gs : List (DataW H)} {before : List MemPlace} {tb : TypeId}
    (hl:laidOutB P=true) (hpar:∀ t ∈ f.params.toList,P.readableRec t=true∧t < P.types.size) (hres:f.resultTypes=#[tb]) (hub:P.underlying tb=some .bool) (hvars:s.vars = [])
    (hW:DataW.Whole enc P f.params.toList s.vars apart W args.toList ds gs before)
    (hs:s.fn H (ds ++ gs) = { results := [.lit (.bool true)],args:=ds }) (hb:Below W.heap.size W W'):s.post enc P f apart true false false W args (.bool true) W':=by
  have hlt:=hW.lt
  have hW':=hW
  obtain ⟨p,q,hA,hV,rfl,hfz,hnd⟩:=hW
  rw [hvars] at hV
  have hq:gs = []∧q = []:=by
    cases gs with
    | nil=>exact ⟨rfl,hV⟩
    | cons g gs=>exact hV.elim
  obtain ⟨rfl,rfl⟩:=hq
  refine ⟨ds,[],_,[],p,[],hW',?_,?_,?_,hb.frame _,fun h=>by cases h⟩
  · rw [hs,hres]
    exact trodAll_mk1 (shut_bool hub true)
  · rw [hs]
    exact trodAll_stays hl hb hpar (fun x hx=>hlt x (by simp [hx])) hA
  · rw [hs,hvars]
    rfl
theorem parsOf {ts:List TypeId} (h:(ts.all fun t=>P.readableRec t && decide (t < P.types.size))=true):∀ t ∈ ts,P.readableRec t=true∧t < P.types.size:=by
 intro t ht
 have:=List.all_eq_true.1 h t ht
 simpa only [Bool.and_eq_true,decide_eq_true_eq] using this
end
def I64 (n:Int):Prop := -9223372036854775808≤n∧n≤9223372036854775807
theorem i64_of_wf {n:Int} (h:(Lit.int .i64 n).wf=true):I64 n:=by simpa [Lit.wf,IntKind.min,IntKind.max,IntKind.signed,IntKind.bits,I64] using h
section
variable {H:Type} {enc:TypeId × Value→H} {w:World} {sp:Nat→Bool} {held:Bool}
theorem lawOwn:ownKnob Tryz.prog.godebug=none:=by kernel_rfl
theorem lawLaid:laidOutB Tryz.prog=true:=by kernel_rfl
theorem lawBool:Tryz.prog.underlying 4=some .bool:=by kernel_rfl
theorem undInt':Tryz.prog.underlying 3=some (.int .i64):=by kernel_rfl
theorem cellsInt:Tryz.prog.cellsOf 3=1:=by kernel_rfl
theorem undId:Tryz.prog.underlying 43=some (.struct (Tryz.prog.fieldsOf 43)):=by kernel_rfl
theorem cellsId:Tryz.prog.cellsOf 43=2:=by kernel_rfl
end
end Go.Proofs.YtfdolehffjmdmaaGreatDoor
/- From an argument's reading as data to abstract values; from a contract of a law to its statement. -/
namespace Go.Proofs.YtfdolehffjmdmaaGreatDoor
open Go.RowKit Go.ChangeShapes Go.WideShapes Go.ChangeAt
def Shows (w:World) (ps:List PV) (cs:List Value):Prop:=cs.length=ps.length∧∀ (j:Nat) p v,ps[j]? = some p→cs[j]? = some v→RepP (fun b _=>b < w.heap.size) w p v
section
variable {H:Type} {enc:TypeId × Value→H} {P:Program} {w:World} {sp:Nat→Bool} {held:Bool}
def Opens (enc:TypeId × Value→H) (P:Program) (w:World) (sp:Nat→Bool) (held:Bool) (t:TypeId) (n:Nat) (R:List PV→Prop):Prop :=
 P.cellsOf t=n∧∀ fuel cs (y:DataW H × List MemPlace),DataW.trod enc P w 0 sp held fuel t cs=some y→(∀ k ∈ y.1.weights P t,k≤reachBytes)→∃ ps,ps.length=n∧R ps∧Shows w ps cs
theorem Opens.mono {t:TypeId} {n:Nat} {R R':List PV→Prop} (h:Opens enc P w sp held t n R) (hR:∀ ps,R ps→R' ps):Opens enc P w sp held t n R' :=
 ⟨h.1,fun fuel cs y hy hw=>by obtain ⟨ps,h1,h2,h3⟩:=h.2 fuel cs y hy hw; exact ⟨ps,h1,hR ps h2,h3⟩⟩
theorem shows1 {p:PV} {v:Value} (h:RepP (fun b _=>b < w.heap.size) w p v):Shows w [p] [v]:=by
 refine ⟨rfl,fun j q u hj hu=>?_⟩
 cases j with
 | zero=>simp at hj hu; subst hj; subst hu; exact h
 | succ j=>simp at hj
theorem opens_int {t:TypeId} (ht:P.underlying t=some (.int .i64)) (hc:P.cellsOf t=1):Opens enc P w sp held t 1 fun ps=>∃ n,I64 n∧ps = [.int .i64 n]:=by
 refine ⟨hc,fun fuel cs y h _=>?_⟩
 obtain ⟨n,rfl,-,hw⟩:=DataW.trod_int ht h
 exact ⟨[.int .i64 n],rfl,⟨n,i64_of_wf hw,rfl⟩,shows1 (.int _ _)⟩
theorem opens_str {t:TypeId} (ht:P.underlying t=some .string) (hc:P.cellsOf t=1):Opens enc P w sp held t 1 fun ps=>∃ s:ByteArray,s.size≤reachBytes∧ps = [.str s]:=by
 refine ⟨hc,fun fuel cs y h hw=>?_⟩
 obtain ⟨s,rfl,rfl,-⟩:=DataW.trod_string ht h
 have hs:=hw s.data.toList.length (by simp [DataW.weights])
 exact ⟨[.str s],rfl,⟨s,by simpa using hs,rfl⟩,shows1 (.str _)⟩
theorem trod_elems2 {t e : TypeId} {fuel : Nat} {v : Value} {x : DataW H × List MemPlace} (ht : P.underlying t = some (.slice e)) (hsz : 0 < P.cellsOf e) (h : DataW.trod enc P w 0 sp held fuel t [v] = some x) (hw : ∀ k ∈ x.1.weights P t, k ≤ reachBytes) :
    ∃ a n c,v = .slice a n c∧n≤c∧c≤maxLen∧n * P.bytesOf e≤reachBytes∧∀ k,k < n→∃ b o cs m y,a=some ⟨b,o,none⟩∧b < w.heap.size∧cs.length=P.cellsOf e∧(∀ j,j < P.cellsOf e→w.cell? ⟨b,o + k * P.cellsOf e + j,none⟩=cs[j]?) ∧
      DataW.trod enc P w 0 sp held m e cs=some y∧∀ q ∈ y.1.weights P e,q≤reachBytes:=by
  have memAll:∀ (ds:List (DataW H)) (d:DataW H),d ∈ ds→∀ q ∈ d.weights P e,q ∈ DataW.weightsAll P e ds:=by
    intro ds
    induction ds with
    | nil=>intro d hd; cases hd
    | cons d0 ds ih =>
      intro d hd q hq
      simp only [DataW.weightsAll,List.mem_append]
      rcases List.mem_cons.1 hd with rfl | hd
      · exact .inl hq
      · exact .inr (ih d hd q hq)
  rcases DataW.trod_slice ht h with ⟨hv,-⟩ | ⟨a,len,cap,elems,rest,m,-,hv,hx,-,h1,h2,hl,hel,-,-⟩
  · exact ⟨none,0,0,by simpa using hv,by omega,by unfold maxLen; omega,by omega,fun k hk=>by omega⟩
  · obtain rfl:v = .slice (some a) len cap:=by simpa using hv
    have hwt:len * P.bytesOf e≤reachBytes:=by
      have:=hw ((elems.length + rest.length) * P.bytesOf e) (by rw [hx]; simp [DataW.weights,ht])
      have h3:len * P.bytesOf e≤(elems.length + rest.length) * P.bytesOf e:=Nat.mul_le_mul_right _ (by omega)
      omega
    have key:∀ k,k < len→∃ cs y,w.cells? 0 (a.add (k * P.cellsOf e)) (P.cellsOf e)=some cs∧DataW.trod enc P w 0 sp held m e cs=some y∧∀ q ∈ y.1.weights P e,q≤reachBytes:=by
      intro k hk
      have:=hel k hk
      rw [List.getElem?_eq_getElem (by omega)] at this
      obtain ⟨cs,hcs,hy⟩:=Option.bind_eq_some_iff.1 this
      refine ⟨cs,_,hcs,hy,fun q hq=>hw q ?_⟩
      rw [hx]
      simp only [DataW.weights,ht,List.mem_cons,List.mem_append]
      exact .inr (.inl (memAll _ _ (List.mem_map.2 ⟨_,List.getElem_mem _,rfl⟩) q hq))
    refine ⟨some a,len,cap,rfl,h1,h2,hwt,fun k hk=>?_⟩
    obtain ⟨cs0,y0,hc0,-⟩:=key 0 (by omega)
    have h0:=(World.cells?_some hc0).2.2 0 hsz
    obtain ⟨ab,ao,asp⟩:=a
    have hl0:=(World.cells?_some hc0).2.1
    have has:asp=none:=by
      simp only [Nat.zero_mul,Addr.add,if_true] at h0
      rw [List.getElem?_eq_getElem (by omega)] at h0
      cases asp with
      | none=>rfl
      | some s =>
        simp only [World.cell?] at h0
        split at h0 <;> simp at h0
    subst has
    obtain ⟨cs,y,hcs,hy,hq⟩:=key k hk
    have h3:=World.cells?_some hcs
    have add_eq:∀ (o n:Nat),(⟨ab,o,none⟩:Addr).add n=⟨ab,o + n,none⟩:=by
      intro o n; unfold Addr.add; split <;> simp_all
    refine ⟨ab,ao,cs,m,y,rfl,?_,h3.2.1,fun j hj=>?_,hy,hq⟩
    · exact World.cells?_block (a:=⟨ab,ao,none⟩) (by simpa [add_eq] using hc0) hsz
    · have:=h3.2.2 j hj
      simpa [add_eq] using this
theorem list_choose {α:Type} {n:Nat} {Q:Nat→α→Prop} (h:∀ k,k < n→∃ x,Q k x):∃ l:List α,l.length=n∧∀ (k:Nat) x,l[k]? = some x→Q k x:=by
 induction n with
 | zero=>exact ⟨[],rfl,fun k x hk=>by simp at hk⟩
 | succ n ih =>
  obtain ⟨l,h1,h2⟩:=ih fun k hk=>h k (by omega)
  obtain ⟨x,hx⟩:=h n (by omega)
  refine ⟨l ++ [x],by simp [h1],fun k y hk=>?_⟩
  by_cases hlt:k < l.length
  ·
   rw [List.getElem?_append_left hlt] at hk; exact h2 k y hk
  ·
   rw [List.getElem?_append_right (by omega)] at hk
   have:k - l.length=0:=by
    have:=(List.getElem?_eq_some_iff.1 hk).1
    simp at this; omega
   rw [this] at hk
   simp at hk
   subst hk
   rw [show k=n by omega]; exact hx
theorem opens_slice {t e : TypeId} {n : Nat} {R : List PV → Prop} (ht : P.underlying t = some (.slice e)) (hc : P.cellsOf t = 1) (hn : 0 < n) (he : Opens enc P w sp held e n R) :
    Opens enc P w sp held t 1 fun ps=>∃ rows,rows.length * P.bytesOf e≤reachBytes∧(∀ row ∈ rows,row.length=n∧R row)∧ps = [.list rows]:=by
  refine ⟨hc,fun fuel cs y h hw=>?_⟩
  have hcs:∃ v,cs = [v]:=by
    rcases DataW.trod_slice ht h with ⟨hv,-⟩ | ⟨a,len,cap,elems,rest,m,-,hv,-⟩ <;> exact ⟨_,hv⟩
  obtain ⟨v,rfl⟩:=hcs
  obtain ⟨hce,he⟩:=he
  obtain ⟨a,len,c,rfl,h1,h2,hby,h3⟩:=trod_elems2 ht (by omega) h hw
  rw [hce] at h3
  obtain ⟨rows,r1,r2⟩:=list_choose (Q:=fun k (row:List PV)=>row.length=n∧R row∧∃ b o cs,a=some ⟨b,o,none⟩∧b < w.heap.size∧cs.length=n∧(∀ j,j < n→w.cell? ⟨b,o + k * n + j,none⟩=cs[j]?)∧Shows w row cs) fun k hk=>by
    obtain ⟨b,o,cs,m,y,q1,q2,q3,q4,q5,q6⟩:=h3 k hk
    obtain ⟨ps,p1,p2,p3⟩:=he m cs y q5 q6
    exact ⟨ps,p1,p2,b,o,cs,q1,q2,q3,q4,p3⟩
  refine ⟨[.list rows],rfl,⟨rows,by rw [r1]; exact hby,fun row hr=>?_,rfl⟩,shows1 ?_⟩
  · obtain ⟨k,hk⟩:=List.getElem?_of_mem hr
    exact ⟨(r2 k row hk).1,(r2 k row hk).2.1⟩
  · have key:∀ k row j p,rows[k]? = some row→row[j]? = some p→∃ b o,a=some ⟨b,o,none⟩∧b < w.heap.size∧∃ u,w.cell? ⟨b,o + k * n + j,none⟩=some u∧RepP (fun b _=>b < w.heap.size) w p u:=by
      intro k row j p hk hj
      obtain ⟨hl,-,b,o,cs,q1,q2,q3,q4,q5⟩:=r2 k row hk
      have hlt:j < n:=by rw [← hl]; exact (List.getElem?_eq_some_iff.1 hj).1
      refine ⟨b,o,q1,q2,cs[j]'(by omega),?_,?_⟩
      · rw [q4 j hlt,List.getElem?_eq_getElem (by omega)]
      · exact q5.2 j p _ hj (List.getElem?_eq_getElem (by omega))
    have := RepP.list (S := fun b _ => b < w.heap.size) (w := w) rows a c n (fun k j => match a with | some ad => (w.cell? ⟨ad.block, ad.off + k * n + j, none⟩).getD Go.undef | none => Go.undef) (by omega) h2 hn (fun row hr => by
        obtain ⟨k,hk⟩:=List.getElem?_of_mem hr
        exact (r2 k row hk).1) (fun k row j p hk hj=>by
        obtain ⟨b,o,q1,q2,u,q3,q4⟩:=key k row j p hk hj
        subst q1
        exact ⟨b,o,rfl,q2,by simp [q3]⟩) (fun k row j p hk hj=>by
        obtain ⟨b,o,q1,q2,u,q3,q4⟩:=key k row j p hk hj
        subst q1
        simp only [q3,Option.getD_some]
        exact q4)
    rw [r1] at this
    exact this
def offs:Nat→List (TypeId × Nat)→List (TypeId × Nat)
 | _,[] => []
 | o,(t,n) :: r=>(t,o) :: offs (o + n) r
def RAll:List (Nat × (List PV→Prop))→List PV→Prop
 | [],ps=>ps = []
 | (n,R) :: r,ps=>∃ a b,ps=a ++ b∧a.length=n∧R a∧RAll r b
def OpensAll (enc:TypeId × Value→H) (P:Program) (w:World) (sp:Nat→Bool) (held:Bool):List (TypeId × Nat × (List PV→Prop))→Prop
 | []=>True
 | (t,n,R) :: r=>Opens enc P w sp held t n R∧OpensAll enc P w sp held r
theorem shows_append {a b:List PV} {cs ds:List Value} (h1:Shows w a cs) (h2:Shows w b ds):Shows w (a ++ b) (cs ++ ds):=by
 refine ⟨by simp [h1.1,h2.1],fun j p v hj hv=>?_⟩
 by_cases hlt:j < a.length
 ·
  rw [List.getElem?_append_left hlt] at hj
  rw [List.getElem?_append_left (by rw [h1.1]; exact hlt)] at hv
  exact h1.2 j p v hj hv
 ·
  rw [List.getElem?_append_right (by omega)] at hj
  rw [List.getElem?_append_right (by rw [h1.1]; omega),h1.1] at hv
  exact h2.2 _ p v hj hv
theorem opens_fields : ∀ (fl : List (TypeId × Nat × (List PV → Prop))) (o : Nat) (cs : List Value), OpensAll enc P w sp held fl → cs.length = o + (fl.map (·.2.1)).sum →
    (∀ (i:Nat) (t':TypeId) (o':Nat),(offs o (fl.map fun f=>(f.1,f.2.1)))[i]? = some (t',o')→∃ n y,DataW.trod enc P w 0 sp held n t' ((cs.drop o').take (P.cellsOf t'))=some y∧∀ k ∈ y.1.weights P t',k≤reachBytes) →
    ∃ ps,ps.length=(fl.map (·.2.1)).sum∧RAll (fl.map (·.2)) ps∧Shows w ps (cs.drop o)
  | [], o, cs, _, hl, _ => ⟨[], rfl, rfl, by
      rw [List.drop_eq_nil_of_le (by simp at hl; omega)]
      exact ⟨rfl,fun j p v hj=>by simp at hj⟩⟩
  | (t,n,R) :: fl,o,cs,ho,hl,hx=>by
    obtain ⟨⟨hc,h1⟩,h2⟩:=ho
    obtain ⟨m,y,hy,hwy⟩:=hx 0 t o rfl
    obtain ⟨ps,p1,p2,p3⟩:=h1 m _ y hy hwy
    simp only [List.map_cons,List.sum_cons] at hl
    obtain ⟨qs,q1,q2,q3⟩:=opens_fields fl (o + n) cs h2 (by omega) fun i t' o' hi=>hx (i + 1) t' o' hi
    refine ⟨ps ++ qs,by simp [p1,q1],⟨ps,qs,rfl,p1,p2,q2⟩,?_⟩
    rw [hc] at p3
    have:cs.drop o=(cs.drop o).take n ++ cs.drop (o + n):=by rw [← List.drop_drop,List.take_append_drop]
    rw [this]
    exact shows_append p3 q3
theorem opens_struct {t : TypeId} {n : Nat} (fl : List (TypeId × Nat × (List PV → Prop))) (hs : P.underlying t = some (.struct (P.fieldsOf t))) (hf : (P.fieldsOf t).toList.map (fun f => (f.type, f.offset)) = offs 0 (fl.map fun f => (f.1, f.2.1)))
    (hc:P.cellsOf t=n) (hn:(fl.map (·.2.1)).sum=n) (ho:OpensAll enc P w sp held fl):Opens enc P w sp held t n (RAll (fl.map (·.2))):=by
  refine ⟨hc,fun fuel cs y h hw=>?_⟩
  obtain ⟨xs,m,_,hy,hl,hlen,hq⟩:=DataW.trod_struct hs h
  have hx:∀ (i:Nat) (t':TypeId) (o':Nat),(offs 0 (fl.map fun f=>(f.1,f.2.1)))[i]? = some (t',o')→∃ n y,DataW.trod enc P w 0 sp held n t' ((cs.drop o').take (P.cellsOf t'))=some y∧∀ k ∈ y.1.weights P t',k≤reachBytes:=by
    intro i t' o' hi
    rw [← hf,List.getElem?_map] at hi
    obtain ⟨f,h1,h2⟩:=Option.map_eq_some_iff.1 hi
    simp only [Prod.mk.injEq] at h2
    obtain ⟨rfl,rfl⟩:=h2
    have h3:=hq i f (by simpa using h1)
    have hi2:i < (P.fieldsOf t).toList.length:=(List.getElem?_eq_some_iff.1 h1).1
    have hi3:i < xs.length:=by rw [hlen]; simpa using hi2
    refine ⟨m,xs[i],by rw [h3]; simp,fun k hk=>hw k ?_⟩
    rw [hy]
    simp only [DataW.weights,hs]
    refine DataW.weights_mem_each (j:=i) (t:=f.type) (d:=xs[i].1) ?_ ?_ k hk
    · rw [List.getElem?_map,h1]; rfl
    · rw [List.getElem?_map,List.getElem?_eq_getElem hi3]; rfl
  obtain ⟨ps,h1,h2,h3⟩:=opens_fields fl 0 cs ho (by omega) hx
  exact ⟨ps,by omega,h2,h3⟩
theorem open_cell {t:TypeId} {R:List PV→Prop} (ho:Opens enc P w sp held t 1 R) {v:Value} (h1:∀ cs,v ≠ .agg cs) {d:DataW H} {p:List MemPlace} (h:DataW.Trod enc P w 0 sp held t v d p) (hw:∀ k ∈ d.weights P t,k≤reachBytes):∃ q,R [q]∧RepP (fun b _=>b < w.heap.size) w q v:=by
 obtain ⟨fuel,hf⟩:=h
 obtain ⟨ps,p1,p2,p3⟩:=ho.2 fuel _ _ hf hw
 have hv:v.cells.toList = [v]:=by cases v <;> first | rfl | exact (h1 _ rfl).elim
 match ps,p1 with
 | [q],_=>exact ⟨q,p2,p3.2 0 q v rfl (by rw [hv]; rfl)⟩
theorem open_agg {t:TypeId} {n:Nat} {R:List PV→Prop} (ho:Opens enc P w sp held t n R) {v:Value} (h1:∃ cs,v = .agg cs) {d:DataW H} {p:List MemPlace} (h:DataW.Trod enc P w 0 sp held t v d p) (hw:∀ k ∈ d.weights P t,k≤reachBytes) (S:Nat→Nat→Prop) (hS:∀ b o,b < w.heap.size→S b o) (C:Conc):∃ ps,R ps∧RepV S w C (.agg ps) v:=by
 obtain ⟨fuel,hf⟩:=h
 obtain ⟨cs,rfl⟩:=h1
 obtain ⟨ps,p1,p2,p3⟩:=ho.2 fuel _ _ hf hw
 have hk:∀ (j:Nat) q x,ps[j]? = some q→cs.toList[j]? = some x→RepP (fun b _=>b < w.heap.size) w q x:=fun j q x hj hx=>p3.2 j q x hj hx
 refine ⟨ps,p2,?_⟩
 have:=RepV.agg (S:=S) (w:=w) (C:=C) ps cs.toList p3.1 (fun j x hx=>?_) fun j q x hj hx => .pure ((hk j q x hj hx).mono (fun b o h=>hS b o h) fun _ _ _=>rfl)
 ·
  simpa using this
 ·
  have hlt:j < ps.length:=by rw [← p3.1]; exact (List.getElem?_eq_some_iff.1 hx).1
  exact (hk j _ x (List.getElem?_eq_getElem hlt) hx).one
end
def lawCx (w:World):Cx:=⟨w,fun b _=>b < w.heap.size,⟨0,fun _=>0,fun _=>Go.undef,fun _=>0⟩,[]⟩
theorem lawHR (w:World):HR (lawCx w) (lawCx w).C0 [] w :=
 ⟨rfl,fun id ob h=>by simp at h,fun id id' ob ob' b h=>by simp at h,fun id ob b h=>by simp at h,fun b o h=>⟨h,fun id ob h=>by simp at h,rfl⟩,Nat.le_refl _,rfl,rfl,rfl,fun b _ _=>rfl,Nat.le_refl _,fun i hi=>rfl,fun i hi => .inl ⟨rfl,rfl⟩⟩
theorem lawStab {w:World} {b o:Nat} (h:b < w.heap.size):Stab (lawCx w) (lawCx w).C0 [] w b o:=⟨.inl h,h,fun id ob h=>by simp at h⟩
def Arg (w:World) (p:PV) (v:Value):Prop:=RepV (Stab (lawCx w) (lawCx w).C0 [] w) w (lawCx w).C0 p v
theorem Arg.of {w:World} {p:PV} {v:Value} (h:RepP (fun b _=>b < w.heap.size) w p v):Arg w p v := .pure (h.mono (fun _ _ h=>lawStab h) fun _ _ _=>rfl)
inductive ArgsAre (w:World):List PV→List Value→Prop
 | nil:ArgsAre w [] []
 | cons {p:PV} {v:Value} {ps:List PV} {vs:List Value} (h:Arg w p v) (t:ArgsAre w ps vs):ArgsAre w (p :: ps) (v :: vs)
theorem ArgsAre.reps {w:World} {ps:List PV} {vs:List Value} (h:ArgsAre w ps vs):Reps (Stab (lawCx w) (lawCx w).C0 [] w) w (lawCx w).C0 ps vs:=by
 induction h with
 | nil=>exact ⟨rfl,fun j p v hj=>by simp at hj⟩
 | cons h t ih =>
  refine ⟨by simp [ih.1],fun j p v hj hv=>?_⟩
  cases j with
  | zero=>simp at hj hv; subst hj; subst hv; exact h
  | succ j=>exact ih.2 j p v (by simpa using hj) (by simpa using hv)
theorem law_calls {P:Program} {f:Nat} {args:List PV} {vs:Array Value} {w:World} (h:Meets P f args [] (.bool true) []) (hp:ArgsAre w args vs.toList):Calls P f vs w fun e w'=>e = .returned (.bool true)∧Below w.heap.size w w':=by
 refine (h (lawCx w) vs rfl (lawHR w) hp.reps).mono fun e w' ⟨v,C',h1,h2,h3⟩=>?_
 have hv:=h3.bool_inv
 subst hv
 exact ⟨h1,⟨h2.os,h2.tape,h2.output,h2.size,fun b hb=>h2.frame b hb fun i ob0 hi=>by simp [lawCx] at hi⟩⟩
end Go.Proofs.YtfdolehffjmdmaaGreatDoor
/- Arguments of laws,opened: ids,entries,lists of them. -/
namespace Go.Proofs.YtfdolehffjmdmaaGreatDoor
open Go.RowKit Go.ChangeShapes Go.WideShapes Go.ChangeAt
section
variable {H:Type} {enc:TypeId × Value→H} {w:World} {sp:Nat→Bool} {held:Bool}
theorem rows_map {α:Type} {f:α→List PV} {Q:α→Prop} {n:Nat}:∀ {rows:List (List PV)},(∀ row ∈ rows,row.length=n∧∃ x,Q x∧row=f x)→∃ l:List α,(∀ x ∈ l,Q x)∧rows=l.map f
 | [],_=>⟨[],by simp,rfl⟩
 | row :: rows,h=>by
  obtain ⟨-,x,h1,rfl⟩:=h row (by simp)
  obtain ⟨l,h2,rfl⟩:=rows_map (rows:=rows) fun row hr=>h row (by simp [hr])
  exact ⟨x :: l,by simpa using ⟨h1,h2⟩,rfl⟩
theorem opInt:Opens enc Tryz.prog w sp held 3 1 fun ps=>∃ n,I64 n∧ps = [.int .i64 n]:=opens_int undInt' cellsInt
theorem opStr:Opens enc Tryz.prog w sp held 9 1 fun ps=>∃ s:ByteArray,s.size≤reachBytes∧ps = [.str s]:=opens_str (by kernel_rfl) (by kernel_rfl)
def wfId (x:Id):Prop:=I64 x.r∧I64 x.n
theorem opId:Opens enc Tryz.prog w sp held 43 2 fun ps=>∃ x:Id,wfId x∧ps=cId x :=
 (opens_struct [(3,1,_),(3,1,_)] undId (by kernel_rfl) cellsId rfl ⟨opInt,opInt,trivial⟩).mono (by
  rintro ps ⟨a,b,rfl,-,⟨n,hn,rfl⟩,c,d,rfl,-,⟨m,hm,rfl⟩,rfl⟩
  exact ⟨⟨n,m⟩,⟨hn,hm⟩,rfl⟩)
theorem opIds:Opens enc Tryz.prog w sp held 44 1 fun ps=>∃ l:List Id,l.length * 16≤reachBytes∧(∀ x ∈ l,wfId x)∧ps = [.list (l.map cId)] :=
 (opens_slice (by kernel_rfl) (by kernel_rfl) (by omega) opId).mono (by
  rintro ps ⟨rows,hm,hr,rfl⟩
  obtain ⟨l,h1,rfl⟩:=rows_map hr
  rw [show Tryz.prog.bytesOf 43=16 by kernel_rfl] at hm
  exact ⟨l,by simpa using hm,h1,rfl⟩)
def wfE (e:Entry):Prop:=wfId e.id∧I64 e.c∧e.t.size≤reachBytes∧e.ls.length * 16≤reachBytes∧∀ x ∈ e.ls,wfId x
theorem undEntry:Tryz.prog.underlying 46=some (.struct (Tryz.prog.fieldsOf 46)):=by kernel_rfl
theorem opEntry:Opens enc Tryz.prog w sp held 46 5 fun ps=>∃ e:Entry,wfE e∧ps=cE e :=
 (opens_struct [(43,2,_),(3,1,_),(9,1,_),(44,1,_)] undEntry (by kernel_rfl) (by kernel_rfl) rfl ⟨opId,opInt,opStr,opIds,trivial⟩).mono (by
  rintro ps ⟨a,b,rfl,-,⟨x,hx,rfl⟩,c,d,rfl,-,⟨n,hn,rfl⟩,f,g,rfl,-,⟨s,hs,rfl⟩,k,q,rfl,-,⟨l,hl,hq,rfl⟩,rfl⟩
  exact ⟨⟨x,n,s,l⟩,⟨hx,hn,hs,hl,hq⟩,rfl⟩)
set_option maxRecDepth 100000 in
theorem argInt {b0:Nat} {v:Value} {d:DataW H} {p:List MemPlace} (hv:Value.okWide Tryz.prog w .any b0 3 v) (h:DataW.Trod enc Tryz.prog w 0 sp held 3 v d p) (hw:∀ k ∈ d.weights Tryz.prog 3,k≤reachBytes):∃ n,I64 n∧Arg w (.int .i64 n) v:=by
 obtain ⟨m,rfl⟩:=okWide_int undInt' hv
 obtain ⟨q,⟨n,hn,hq⟩,h2⟩:=open_cell opInt (by simp) h hw
 simp at hq; subst hq
 exact ⟨n,hn,.of h2⟩
end
end Go.Proofs.YtfdolehffjmdmaaGreatDoor
/- Arguments of laws,opened: lists of entries,of ids. -/
namespace Go.Proofs.YtfdolehffjmdmaaGreatDoor
open Go.RowKit Go.ChangeShapes Go.WideShapes Go.ChangeAt
section
variable {H:Type} {enc:TypeId × Value→H} {w:World} {sp:Nat→Bool} {held:Bool}
theorem opEntries:Opens enc Tryz.prog w sp held 22 1 fun ps=>∃ l:List Entry,l.length≤reachBytes∧(∀ e ∈ l,wfE e)∧ps = [.list (l.map cE)] :=
 (opens_slice (by kernel_rfl) (by kernel_rfl) (by omega) opEntry).mono (by
  rintro ps ⟨rows,hm,hr,rfl⟩
  obtain ⟨l,h1,rfl⟩:=rows_map hr
  have hb:1≤Tryz.prog.bytesOf 46:=by decide +kernel
  refine ⟨l,?_,h1,rfl⟩
  have h2:(l.map cE).length * 1≤(l.map cE).length * Tryz.prog.bytesOf 46:=Nat.mul_le_mul_left _ hb
  rw [List.length_map] at h2 hm
  omega)
set_option maxRecDepth 100000 in
theorem argEntries {b0 : Nat} {v : Value} {d : DataW H} {p : List MemPlace} (hv : Value.okWide Tryz.prog w .any b0 22 v) (h : DataW.Trod enc Tryz.prog w 0 sp held 22 v d p) (hw : ∀ k ∈ d.weights Tryz.prog 22, k ≤ reachBytes) :
    ∃ l:List Entry,l.length≤reachBytes∧(∀ e ∈ l,wfE e)∧Arg w (.list (l.map cE)) v:=by
  obtain ⟨a,n,c,rfl⟩:=okWide_slice (e:=46) (by kernel_rfl) hv
  obtain ⟨q,⟨l,h1,h2,hq⟩,h3⟩:=open_cell opEntries (by simp) h hw
  simp at hq; subst hq
  exact ⟨l,h1,h2,.of h3⟩
end
end Go.Proofs.YtfdolehffjmdmaaGreatDoor
/- Arguments of laws,opened: sites. -/
namespace Go.Proofs.YtfdolehffjmdmaaGreatDoor
open Go.RowKit Go.ChangeShapes Go.WideShapes Go.ChangeAt
section
variable {H:Type} {enc:TypeId × Value→H} {w:World} {sp:Nat→Bool} {held:Bool}
theorem undSite:Tryz.prog.underlying 49=some (.struct (Tryz.prog.fieldsOf 49)):=by kernel_rfl
theorem opSite:Opens enc Tryz.prog w sp held 49 3 fun ps=>∃ (r:Int) (lg ws:List Entry),(I64 r∧lg.length≤reachBytes∧ws.length≤reachBytes∧(∀ e ∈ lg,wfE e)∧∀ e ∈ ws,wfE e)∧ps=cSi r lg ws :=
 (opens_struct [(3,1,_),(22,1,_),(22,1,_)] undSite (by kernel_rfl) (by kernel_rfl) rfl ⟨opInt,opEntries,opEntries,trivial⟩).mono (by
  rintro ps ⟨a,b,rfl,-,⟨x,hx,rfl⟩,c,d,rfl,-,⟨y,hy,hy2,rfl⟩,k,q,rfl,-,⟨l,hl,hl2,rfl⟩,rfl⟩
  exact ⟨x,y,l,⟨hx,hy,hl,hy2,hl2⟩,rfl⟩)
end
end Go.Proofs.YtfdolehffjmdmaaGreatDoor
/- Arguments of laws,opened: worlds,acts. -/
namespace Go.Proofs.YtfdolehffjmdmaaGreatDoor
open Go.RowKit Go.ChangeShapes Go.WideShapes Go.ChangeAt
section
variable {H:Type} {enc:TypeId × Value→H} {w:World} {sp:Nat→Bool} {held:Bool}
def goodSi (s:Si):Prop:=s.2.1.length≤reachBytes∧s.2.2.length≤reachBytes
theorem opSites:Opens enc Tryz.prog w sp held 54 1 fun ps=>∃ ss:List Si,ss.length≤reachBytes∧(∀ s ∈ ss,goodSi s)∧ps = [.list (ss.map cSi3)] :=
 (opens_slice (by kernel_rfl) (by kernel_rfl) (by omega) opSite).mono (by
  rintro ps ⟨rows,hm,hr,rfl⟩
  obtain ⟨l,h1,rfl⟩:=rows_map (f:=cSi3) (Q:=goodSi) (n:=3) (fun row h=>by
   obtain ⟨a,r,lg,ws,⟨-,b,c,-,-⟩,d⟩:=hr row h
   exact ⟨a,(r,lg,ws),⟨b,c⟩,d⟩)
  have hb:1≤Tryz.prog.bytesOf 49:=by decide +kernel
  refine ⟨l,?_,h1,rfl⟩
  have h2:(l.map cSi3).length * 1≤(l.map cSi3).length * Tryz.prog.bytesOf 49:=Nat.mul_le_mul_left _ hb
  rw [List.length_map] at h2 hm
  omega)
theorem opWays:Opens enc Tryz.prog w sp held 55 1 fun ps=>∃ ys:List (List Entry),ys.length≤reachBytes∧(∀ l ∈ ys,l.length≤reachBytes)∧ps = [.list (cYs ys)] :=
 (opens_slice (by kernel_rfl) (by kernel_rfl) (by omega) opEntries).mono (by
  rintro ps ⟨rows,hm,hr,rfl⟩
  obtain ⟨l,h1,rfl⟩:=rows_map (f:=fun l:List Entry => [PV.list (l.map cE)]) (Q:=fun l=>l.length≤reachBytes) (n:=1) (fun row h=>by
   obtain ⟨a,l,b,-,d⟩:=hr row h
   exact ⟨a,l,b,d⟩)
  have hb:1≤Tryz.prog.bytesOf 22:=by decide +kernel
  refine ⟨l,?_,h1,rfl⟩
  have h2:(l.map fun l:List Entry => [PV.list (l.map cE)]).length * 1≤(l.map fun l:List Entry => [PV.list (l.map cE)]).length * Tryz.prog.bytesOf 22:=Nat.mul_le_mul_left _ hb
  rw [List.length_map] at h2 hm
  omega)
theorem undWorld:Tryz.prog.underlying 57=some (.struct (Tryz.prog.fieldsOf 57)):=by kernel_rfl
theorem opWorld:Opens enc Tryz.prog w sp held 57 2 fun ps=>∃ (ss:List Si) (ys:List (List Entry)),(ss.length≤reachBytes∧ys.length≤reachBytes∧(∀ s ∈ ss,goodSi s)∧∀ l ∈ ys,l.length≤reachBytes)∧ps=cWd ss ys :=
 (opens_struct [(54,1,_),(55,1,_)] undWorld (by kernel_rfl) (by kernel_rfl) rfl ⟨opSites,opWays,trivial⟩).mono (by
  rintro ps ⟨a,b,rfl,-,⟨ss,h1,h2,rfl⟩,c,d,rfl,-,⟨ys,h3,h4,rfl⟩,rfl⟩
  exact ⟨ss,ys,⟨h1,h3,h2,h4⟩,rfl⟩)
set_option maxRecDepth 100000 in
theorem argWorld {b0 : Nat} {v : Value} {d : DataW H} {p : List MemPlace} (hv : Value.okWide Tryz.prog w .any b0 57 v) (h : DataW.Trod enc Tryz.prog w 0 sp held 57 v d p) (hw : ∀ k ∈ d.weights Tryz.prog 57, k ≤ reachBytes) :
    ∃ (ss:List Si) (ys:List (List Entry)),(ss.length≤1000000000000000∧ys.length≤1000000000000000∧okSs ss∧okYs ys)∧Arg w (.agg (cWd ss ys)) v:=by
  obtain ⟨cs,rfl,-⟩:=okWide_struct undWorld hv
  obtain ⟨ps,⟨ss,ys,⟨a,b,c,d⟩,rfl⟩,h4⟩:=open_agg opWorld ⟨_,rfl⟩ h hw (Stab (lawCx w) (lawCx w).C0 [] w) (fun _ _ h=>lawStab h) _
  unfold goodSi at c
  simp only [reachBytes] at a b c d
  exact ⟨ss,ys,⟨by omega,by omega,fun s hs=>by have:=c s hs; omega,fun l hl=>by have:=d l hl; omega⟩,h4⟩
theorem undAct:Tryz.prog.underlying 70=some (.struct (Tryz.prog.fieldsOf 70)):=by kernel_rfl
theorem opAct:Opens enc Tryz.prog w sp held 70 5 fun ps=>∃ (k i n c:Int) (t:ByteArray),True∧ps = [.int .i64 k,.int .i64 i,.int .i64 n,.int .i64 c,.str t] :=
 (opens_struct [(3,1,_),(3,1,_),(3,1,_),(3,1,_),(9,1,_)] undAct (by kernel_rfl) (by kernel_rfl) rfl ⟨opInt,opInt,opInt,opInt,opStr,trivial⟩).mono (by
  rintro ps ⟨a,b,rfl,-,⟨x,hx,rfl⟩,c,d,rfl,-,⟨y,hy,rfl⟩,k,q,rfl,-,⟨l,hl,rfl⟩,k2,q2,rfl,-,⟨l2,hl2,rfl⟩,k3,q3,rfl,-,⟨t,ht,rfl⟩,rfl⟩
  exact ⟨x,y,l,l2,t,trivial,rfl⟩)
end
end Go.Proofs.YtfdolehffjmdmaaGreatDoor
/- Arguments of laws,opened: scripts. -/
namespace Go.Proofs.YtfdolehffjmdmaaGreatDoor
open Go.RowKit Go.ChangeShapes Go.WideShapes Go.ChangeAt
section
variable {H:Type} {enc:TypeId × Value→H} {w:World} {sp:Nat→Bool} {held:Bool}
theorem opActs:Opens enc Tryz.prog w sp held 53 1 fun ps=>∃ l:List Ac,l.length≤reachBytes∧ps = [.list (l.map cAc)] :=
 (opens_slice (by kernel_rfl) (by kernel_rfl) (by omega) opAct).mono (by
  rintro ps ⟨rows,hm,hr,rfl⟩
  obtain ⟨l,h1,rfl⟩:=rows_map (f:=cAc) (Q:=fun _=>True) (n:=5) (fun row h=>by
   obtain ⟨a,k,i,n,c,t,-,d⟩:=hr row h
   exact ⟨a,(k,i,n,c,t),trivial,d⟩)
  have hb:1≤Tryz.prog.bytesOf 70:=by decide +kernel
  refine ⟨l,?_,rfl⟩
  have h2:(l.map cAc).length * 1≤(l.map cAc).length * Tryz.prog.bytesOf 70:=Nat.mul_le_mul_left _ hb
  rw [List.length_map] at h2 hm
  omega)
set_option maxRecDepth 100000 in
theorem argActs {b0 : Nat} {v : Value} {d : DataW H} {p : List MemPlace} (hv : Value.okWide Tryz.prog w .any b0 53 v) (h : DataW.Trod enc Tryz.prog w 0 sp held 53 v d p) (hw : ∀ k ∈ d.weights Tryz.prog 53, k ≤ reachBytes) :
    ∃ l:List Ac,l.length≤reachBytes∧Arg w (.list (l.map cAc)) v:=by
  obtain ⟨a,n,c,rfl⟩:=okWide_slice (e:=70) (by kernel_rfl) hv
  obtain ⟨q,⟨l,h1,hq⟩,h3⟩:=open_cell opActs (by simp) h hw
  simp at hq; subst hq
  exact ⟨l,h1,.of h3⟩
end
end Go.Proofs.YtfdolehffjmdmaaGreatDoor
/- Rows that list variables: a start that fits,and the way from a contract to the row,with a condition of the specification's own. -/
namespace Go.Proofs.YtfdolehffjmdmaaGreatDoor
open Go.RowKit Go.ChangeShapes Go.WideShapes Go.ChangeAt
section
variable {H:Type} {enc:TypeId × Value→H}
end
end Go.Proofs.YtfdolehffjmdmaaGreatDoor
