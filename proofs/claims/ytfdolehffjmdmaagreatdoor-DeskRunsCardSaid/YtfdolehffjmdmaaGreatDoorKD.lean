/- Joined texts of this claim: D2 D3 Sh S1 G1 M3 D5 D4 D6 D7 D8 D9 D10 G2 D11 G3 M4 D12 D13 D14 D15 T1 T2 T3 T4 T5 T6 T7 E7 L7 L8 L10 T8 T9 T10 T11 V1. -/
import Derived.Test.YtfdolehffjmdmaaGreatDoorKC
import Derived.Shelf.SlSortCmp.WholeK
import Derived.Shelf.SlLaysF0
import Derived.Test.YtfdolehffjmdmaaGreatDoorProg
import Derived.KernelRfl
import Derived.Shelf.SlSortCmp.Insertion
import Derived.Shelf.SlSortCmp.NoneTotal
import Derived.Test.YtfdolehffjmdmaaGreatDoorKB
set_option linter.unusedSimpArgs false
set_option linter.unusedVariables false
set_option linter.unusedSectionVars false
/- Logs: finding,counting,being ready,being right: contracts. -/
namespace Go.Proofs.YtfdolehffjmdmaaGreatDoor
set_option linter.unusedSimpArgs false
set_option linter.unusedVariables false
open Go.RowKit
def findE (l:List Entry) (x:Id):Int:=idxF (fun e=>decide (e.id=x)) l 0
theorem cE_row (l:List Entry):∀ row ∈ l.map cE,row.length=5:=by simp [cE]
theorem closed1 (cells : List PV) (h : cells.map (renCell false (pos [0]) (frzAt false [.box cells])) = cells) (h2 : cells.map (renCell false (pos [0]) (frzAt true [.box cells])) = cells) (h3 : cells.map (renCell false (backF 1 [0]) noFz) = cells) :
    ClosedH [.box cells] [.ptr 0 0]:=by
  refine ⟨?_,?_,?_,?_,?_⟩
  · simp [renLeaf,pos,List.range_succ]
  · simp [ren,renCell,renLeaf,pos,List.range_succ]
  · simp only [List.length_cons,List.length_nil,List.range_succ,List.range_zero,List.nil_append,subHeap,List.map_cons,List.map_nil,List.getElem?_cons_zero,Option.getD_some,renObj,h]
  · simp only [List.length_cons,List.length_nil,List.range_succ,List.range_zero,List.nil_append,merge,List.map_cons,List.map_nil,mergeObj,callId,Nat.zero_add,Nat.sub_self,Nat.add_zero]
    simp [pos,renObj,h3]
  · simp only [List.length_cons,List.length_nil,List.range_succ,List.range_zero,List.nil_append,subHeap,List.map_cons,List.map_nil,List.getElem?_cons_zero,Option.getD_some,renObj,h2]
theorem find1_meets (x:Id) (e:Entry):Meets Tryz.prog 106 [.agg (cE e),.ptr 0 0] [.box (cId x)] (.bool (decide (e.id=x))) [.box (cId x)]:=by
 refine Meets.of_walk Tryz.func106 Tryz.ntmps106 low106 res106 (by simp) fun xx hx=>?_
 simp only [go_sem,L106,R106,cE,cId,beqId]
 refine ret_keep [] (by simp) (by simp) (by simp [hx]) ?_ ?_
 ·
  simp [go_sem,L106,R106,hx]
 ·
  simp [subHeap,renObj,hx,go_sem]
theorem closedId (x:Id):ClosedH [.box (cId x)] [.ptr 0 0]:=closed1 _ (by simp [cId,renCell,renLeaf]) (by simp [cId,renCell,renLeaf]) (by simp [cId,renCell,renLeaf])
theorem find_meets (l:List Entry) (x:Id) (hl:l.length≤9223372036854775806):Meets Tryz.prog 60 [.list (l.map cE),.agg (cId x)] [] (.int .i64 (findE l x)) []:=by
 refine Meets.of_walk Tryz.func60 Tryz.ntmps60 low60 res60 (by simp) fun xx hx=>?_
 simp only [go_sem,L60,R60,cId]
 refine ops_call (.heapE [0] (r' := .int .i64 (findE l x)) (H' := [.box (cId x)]) (indexE_meets l 106 [.ptr 0 0] [.box (cId x)] (fun e=>decide (e.id=x)) (by kernel_rfl) hl (closedId x) (fun e _=>find1_meets x e)) (by simp) (by simp) (by simp [go_sem,pos]) (by simp [subHeap,renObj,go_sem,cId]) rfl (by simp [merge,mergeObj,callId,renObj,pos,go_sem,List.range_succ,cId])) ?_
 simp only [go_sem]
 refine ret_pure hx ?_
 simp [go_sem,L60,R60]
def cntR (l:List Entry) (r:Int):Nat:=l.countP fun e=>decide (e.id.r=r)
theorem cntR_take (l:List Entry) (k:Nat) (r:Int) (h:k < l.length):cntR (l.take (k + 1)) r=cntR (l.take k) r + if (nth l k).id.r=r then 1 else 0:=by
 rw [List.take_succ_eq_append_getElem h,nth_eq _ _ h]
 simp only [cntR,List.countP_append,List.countP_cons,List.countP_nil,decide_eq_true_eq]
 omega
theorem cntR_le (l:List Entry) (r:Int):cntR l r≤l.length:=List.countP_le_length
def okReg (l:List Entry):Prop:=∀ e ∈ l,e.id.r=0∨e.id.r=1
theorem many_meets (l:List Entry) (h:okReg l) (hl:l.length≤1000000000000000):Meets Tryz.prog 61 [.list (l.map cE)] [] (.agg [.int .i64 (cntR l 0),.int .i64 (cntR l 1)]) []:=by
 refine Meets.of_walk Tryz.func61 Tryz.ntmps61 low61 res61 (by simp) fun x hx=>?_
 simp only [go_sem,L61,R61]
 refine loop_inv [2,3,6,7,8] 2 (fun n st=>∃ k:Nat,k + n=l.length ∧
  st=⟨mkE .top [(2,.ptr 0 0),(3,.ptr 1 0),(6,.list (l.map cE)),(7,.int .i64 l.length),(8,.int .i64 k)],[.box [.int .i64 0,.int .i64 0],.box [.int .i64 (cntR (l.take k) 0),.int .i64 (cntR (l.take k) 1)]]⟩) l.length (by simp [hx]) (by simp) ?_ ?_
 ·
  refine ⟨0,by omega,?_⟩
  simp [trim_mk,go_sem,subHeap,renObj,pos,List.range_succ,cntR]
 ·
  rintro n st ⟨k,hk,rfl⟩
  by_cases hlt:k < l.length
  ·
   have hg:l[k]? = some (nth l k):=nth_get? _ _ hlt
   have wk:=i64_up (k:=k) (by omega)
   have hle:∀ r,cntR (l.take k) r≤1000000000000000:=fun r=>by have:=cntR_le (l.take k) r; rw [List.length_take] at this; omega
   have w0:=i64_up (k:=cntR (l.take k) 0) (by have:=hle 0; omega)
   have w1:=i64_up (k:=cntR (l.take k) 1) (by have:=hle 1; omega)
   have c0:=cntR_take l k 0 hlt
   have c1:=cntR_take l k 1 hlt
   rcases h (nth l k) (by rw [nth_eq _ _ hlt]; exact List.getElem_mem hlt) with hr | hr
   ·
    rw [hr] at c0 c1
    simp only [go_sem,hlt,hg,cE,hr,w0,w1,wk,Int.reduceLE,Int.reduceLT,Int.reduceToNat,Int.cast_ofNat_Int,Int.ofNat_zero,Int.toNat_zero,Int.le_refl]
    refine ⟨by simp,n - 1,by omega,k + 1,by omega,?_⟩
    simp [trim_mk,go_sem,subHeap,renObj,pos,List.range_succ,c0,c1]
   ·
    rw [hr] at c0 c1
    simp only [go_sem,hlt,hg,cE,hr,w0,w1,wk,Int.reduceLE,Int.reduceLT,Int.reduceToNat,Int.cast_ofNat_Int,Int.ofNat_zero,Int.toNat_zero,Int.le_refl]
    refine ⟨by simp,n - 1,by omega,k + 1,by omega,?_⟩
    simp [trim_mk,go_sem,subHeap,renObj,pos,List.range_succ,c0,c1]
  ·
   have:l.take k=l:=List.take_of_length_le (by omega)
   simp only [go_sem,hlt]
   refine ret_pure hx ?_
   simp [go_sem,L61,R61,this]
end Go.Proofs.YtfdolehffjmdmaaGreatDoor
/- Logs: being ready,being right: contracts. -/
namespace Go.Proofs.YtfdolehffjmdmaaGreatDoor
set_option linter.unusedSimpArgs false
set_option linter.unusedVariables false
open Go.RowKit
def readyB (l:List Entry) (e:Entry):Bool:=decide ((cntR l e.id.r:Int) + 1=e.id.n) && !(e.ls.any fun x=>decide (findE l x < 0))
theorem ready1_meets (l:List Entry) (x:Id) (hl:l.length≤9223372036854775806):Meets Tryz.prog 108 [.agg (cId x),.ptr 0 0] [.box [.list (l.map cE)]] (.bool (decide (findE l x < 0))) [.box [.list (l.map cE)]]:=by
 refine Meets.of_walk Tryz.func108 Tryz.ntmps108 low108 res108 (by simp) fun xx hx=>?_
 simp only [go_sem,L108,R108,cId]
 refine ops_call (.pureE (find_meets l x hl) (by simp [go_sem,cId])) ?_
 simp only [go_sem]
 refine ret_keep [] (by simp) (by simp) (by simp [hx]) ?_ ?_
 ·
  simp [go_sem,L108,R108,hx]
 ·
  simp [subHeap,renObj,hx,go_sem]
theorem closedL (l:List Entry):ClosedH [.box [.list (l.map cE)]] [.ptr 0 0]:=closed1 _ (by simp [renCell,renLeaf]) (by simp [renCell,renLeaf]) (by simp [renCell,renLeaf])
theorem ready_meets (l : List Entry) (e : Entry) (h : okReg l) (hl : l.length ≤ 1000000000000000) (he : e.id.r = 0 ∨ e.id.r = 1) (hls : e.ls.length ≤ 9223372036854775806) :
    Meets Tryz.prog 62 [.list (l.map cE),.agg (cE e)] [] (.bool (readyB l e)) []:=by
  refine Meets.of_walk Tryz.func62 Tryz.ntmps62 low62 res62 (by simp) fun x hx=>?_
  have hw:IntKind.i64.wrap ((cntR l e.id.r:Int) + 1)=(cntR l e.id.r:Int) + 1:=by have:=cntR_le l e.id.r; rw [IntWalk.i64_in _ (by omega)]
  simp only [go_sem,L62,R62,cE]
  refine ops_call (.pure (many_meets l h hl)) ?_
  have hany:=contFI_meets e.ls 108 [.ptr 0 0] [.box [.list (l.map cE)]] (fun x=>decide (findE l x < 0)) (by kernel_rfl) hls (closedL l) (fun y _=>ready1_meets l y (by omega))
  rcases he with hr | hr
  all_goals
    rw [hr] at hw
    by_cases hc:(cntR l e.id.r:Int) + 1=e.id.n
    · have hc':=hc
      rw [hr] at hc'
      have dc:=decide_eq_true hc'
      simp only [go_sem,hr,hw,dc,Int.reduceLE,Int.reduceLT,Int.reduceToNat,Int.cast_ofNat_Int,Int.ofNat_zero,Int.toNat_zero,Int.le_refl]
      refine ops_call (.heapE [0] (r' := .bool (e.ls.any fun x=>decide (findE l x < 0))) (H' := [.box [.list (l.map cE)],.box (cE e)]) hany (by simp) (by simp) (by simp [go_sem,pos]) (by simp [subHeap,renObj,go_sem]) rfl (by simp [merge,mergeObj,callId,renObj,pos,go_sem,List.range_succ,cE,hr])) ?_
      simp only [go_sem]
      refine ret_pure hx ?_
      simp [go_sem,L62,R62,readyB,hc]
    · have hc':=hc
      rw [hr] at hc'
      simp only [go_sem,hr,hw,hc',Int.reduceLE,Int.reduceLT,Int.reduceToNat,Int.cast_ofNat_Int,Int.ofNat_zero,Int.toNat_zero,Int.le_refl]
      refine ret_pure hx ?_
      simp [go_sem,L62,R62,readyB,hc]
def logErr (l:List Entry) (k:Nat):Int :=
 if checkEntry (nth l k)≠0 then checkEntry (nth l k) else if 0≤findE (l.take k) (nth l k).id then 6
 else if (cntR (l.take k) (nth l k).id.r:Int) + 1≠(nth l k).id.n then 4 else if readyB (l.take k) (nth l k)=false then 5 else 0
def checkLog (l:List Entry):Int:=if 40 < l.length then 2 else firstNZ (logErr l) l.length
theorem reg_of_check {e:Entry} (h:checkEntry e=0):e.id.r=0∨e.id.r=1:=by
 have:=(check_ok_bounds h).1
 simp only [okId,Bool.and_eq_true,wthn_iff] at this
 omega
theorem okReg_take {l:List Entry} {k:Nat} (h:firstNZ (logErr l) k=0) (hk:k≤l.length):okReg (l.take k):=by
 intro e he
 obtain ⟨j,hj,rfl⟩:=List.getElem_of_mem he
 rw [List.length_take] at hj
 have h0:=firstNZ_zero.1 h j (by omega)
 have hc:checkEntry (nth l j)=0:=by
  unfold logErr at h0
  split at h0
  ·
   exact h0
  ·
   rename_i h; simpa using h
 rw [List.getElem_take,← nth_eq l j (by omega)]
 exact reg_of_check hc
theorem dagCheck_meets (l:List Entry) (hm:l.length≤9223372036854775806):Meets Tryz.prog 21 [.list (l.map cE)] [] (.int .i64 (checkLog l)) []:=by
 refine Meets.of_walk Tryz.func21 Tryz.ntmps21 low21 res21 (by simp) fun x hx=>?_
 by_cases h40:40 < l.length
 ·
  have d40:decide ((40:Int) < (l.length:Nat))=true:=by simp; omega
  simp only [go_sem,L21,R21,d40]
  refine ret_pure hx ?_
  simp [go_sem,L21,R21,checkLog,h40]
 have d40:decide ((40:Int) < (l.length:Nat))=false:=by simp; omega
 have hcl:checkLog l=firstNZ (logErr l) l.length:=by simp [checkLog,h40]
 simp only [go_sem,L21,R21,d40,hcl]
 refine loop_inv [0,9,10,11] 0 (fun n st=>∃ k:Nat,k + n=l.length∧firstNZ (logErr l) k=0 ∧
  st=⟨mkE .top [(0,.list (l.map cE)),(9,.list (l.map cE)),(10,.int .i64 l.length),(11,.int .i64 k)],[]⟩) l.length (by simp [hx]) (by simp) ?_ ?_
 ·
  refine ⟨0,by omega,rfl,?_⟩
  simp [trim_mk,go_sem,subHeap,renObj,pos]
 ·
  rintro n st ⟨k,hk,hz,rfl⟩
  by_cases hlt:k < l.length
  ·
   have hg:l[k]? = some (nth l k):=nth_get? _ _ hlt
   have wk:=i64_up (k:=k) (by omega)
   have hle:k≤l.length:=by omega
   have hrow:(∀ row ∈ List.map cE l,row.length=5)=True:=eq_true (cE_row l)
   have htk:List.take k (List.map cE l)=List.map cE (List.take k l):=List.map_take.symm
   have hlk:(l.take k).length≤40:=by rw [List.length_take]; omega
   have hreg:=okReg_take hz hle
   have fin:∀ r:Int,logErr l k=r→r≠0→firstNZ (logErr l) l.length=r:=fun r h1 h2=>by rw [firstNZ_hit hz (by rw [h1]; exact h2) hlt,h1]
   simp only [go_sem,hlt,hg,cE]
   refine ops_call (.pureE (check_meets (nth l k)) (by simp [go_sem,cE])) ?_
   by_cases h1:checkEntry (nth l k)=0
   ·
    have hr:=reg_of_check h1
    simp only [go_sem,h1,hle,hrow,htk,Int.le_refl,Int.sub_zero,Int.toNat_zero,Int.natCast_nonneg,cE]
    refine ops_call (.pureE (find_meets (l.take k) (nth l k).id (by omega)) (by simp [go_sem,cId])) ?_
    by_cases h2:0≤findE (l.take k) (nth l k).id
    ·
     simp only [go_sem,h2]
     refine ret_pure hx ?_
     have:logErr l k=6:=by simp [logErr,h1,h2]
     simp [go_sem,L21,R21,fin _ this (by decide)]
    simp only [go_sem,h2,hle,hrow,htk,Int.le_refl,Int.sub_zero,Int.toNat_zero,Int.natCast_nonneg,cE]
    refine ops_call (.pureE (many_meets (l.take k) hreg (by omega)) (by simp [go_sem])) ?_
    have hw:∀ r,IntKind.i64.wrap ((cntR (l.take k) r:Int) + 1)=(cntR (l.take k) r:Int) + 1:=fun r=>by have:=cntR_le (l.take k) r; rw [IntWalk.i64_in _ (by omega)]
    by_cases h3:(cntR (l.take k) (nth l k).id.r:Int) + 1=(nth l k).id.n
    ·
     have h3e:logErr l k=if readyB (l.take k) (nth l k)=false then 5 else 0:=by simp [logErr,h1,h2,h3]
     rcases hr with hr | hr
     all_goals
      have h3':=h3
      rw [hr] at h3'
      have dc:=decide_eq_true h3'
      simp only [go_sem,hr,hw,dc,hle,hrow,htk,Int.sub_zero,Int.natCast_nonneg,cE,Int.reduceLE,Int.reduceLT,Int.reduceToNat,Int.cast_ofNat_Int,Int.ofNat_zero,Int.toNat_zero,Int.le_refl]
      refine ops_call (.pureE (ready_meets (l.take k) (nth l k) hreg (by omega) (by omega) (by have:=(check_ok_bounds h1).2.2.2.1; omega)) (by simp [go_sem,cE,hr])) ?_
      cases h4:readyB (l.take k) (nth l k)
      ·
       simp only [go_sem]
       refine ret_pure hx ?_
       have:logErr l k=5:=by rw [h3e,if_pos h4]
       simp [go_sem,L21,R21,fin _ this (by decide)]
      ·
       simp only [go_sem,wk]
       refine ⟨by simp,n - 1,by omega,k + 1,by omega,firstNZ_succ hz (by rw [h3e,if_neg (by simp [h4])]),?_⟩
       simp [trim_mk,go_sem,subHeap,renObj,pos]
    ·
     rcases hr with hr | hr
     all_goals
      have h3':=h3
      rw [hr] at h3'
      have dc:=decide_eq_false h3'
      simp only [go_sem,hr,hw,dc,Int.reduceLE,Int.reduceLT,Int.reduceToNat,Int.cast_ofNat_Int,Int.ofNat_zero,Int.toNat_zero,Int.le_refl]
      refine ret_pure hx ?_
      have:logErr l k=4:=by simp [logErr,h1,h2,h3]
      simp [go_sem,L21,R21,fin _ this (by decide)]
   ·
    simp only [go_sem,h1]
    refine ret_pure hx ?_
    have:logErr l k=checkEntry (nth l k):=by simp [logErr,h1]
    simp [go_sem,L21,R21,fin _ this h1]
  ·
   have hke:k=l.length:=by omega
   subst hke
   simp only [go_sem,Nat.lt_irrefl,hz]
   refine ret_pure hx ?_
   simp [go_sem,L21,R21,hz]
end Go.Proofs.YtfdolehffjmdmaaGreatDoor
/- Library functions of this seat,told apart by number (what the guide's shelf says of them is used by name). -/
namespace Go.Proofs.YtfdolehffjmdmaaGreatDoor
open Go.Shelf Go.Proofs
def sortIdL_ren:Go.Shelf.Ren:=⟨fun | 6=>127 | 15=>133 | 14=>156 | 28=>166 | 29=>167 | 20=>178 | 21=>179 | 22=>180 | 23=>181 | 24=>182 | 25=>183 | 26=>184 | 27=>185 | 46=>199 | 47=>187 | 48=>188 | 49=>200 | 50=>201 | 57=>206 | n=>n,fun | 22=>44 | 24=>43 | 25=>145 | 3=>3 | 39=>171 | 0=>0 | 53=>206 | 55=>208 | 4=>4 | 46=>200 | 45=>199 | 50=>177 | 5=>5 | 9=>9 | 66=>220 | 70=>224 | 76=>232 | 77=>233 | n=>n,fun n=>n⟩
theorem sortIdL:SlLaysF0.n6 Tryz.prog sortIdL_ren := {
 mixed:=by kernel_rfl,
 f6:=⟨Tryz.f127.name,by decide,Tryz.func127.trans (congrArg some (by kernel_rfl))⟩,
 f14:=⟨Tryz.f156.name,by decide,Tryz.func156.trans (congrArg some (by kernel_rfl))⟩,
 f15:=Tryz.func133.trans (congrArg some (by kernel_rfl)),
 f20:=⟨Tryz.f178.name,by decide,Tryz.func178.trans (congrArg some (by kernel_rfl))⟩,
 f21:=⟨Tryz.f179.name,by decide,Tryz.func179.trans (congrArg some (by kernel_rfl))⟩,
 f22:=⟨Tryz.f180.name,by decide,Tryz.func180.trans (congrArg some (by kernel_rfl))⟩,
 f23:=⟨Tryz.f181.name,by decide,Tryz.func181.trans (congrArg some (by kernel_rfl))⟩,
 f24:=⟨Tryz.f182.name,by decide,Tryz.func182.trans (congrArg some (by kernel_rfl))⟩,
 f25:=⟨Tryz.f183.name,by decide,Tryz.func183.trans (congrArg some (by kernel_rfl))⟩,
 f26:=⟨Tryz.f184.name,by decide,Tryz.func184.trans (congrArg some (by kernel_rfl))⟩,
 f27:=⟨Tryz.f185.name,by decide,Tryz.func185.trans (congrArg some (by kernel_rfl))⟩,
 f28:=Tryz.func166.trans (congrArg some (by kernel_rfl)),
 f29:=Tryz.func167.trans (congrArg some (by kernel_rfl)),
 f46:=⟨Tryz.f199.name,by decide,Tryz.func199.trans (congrArg some (by kernel_rfl))⟩,
 f47:=Tryz.func187.trans (congrArg some (by kernel_rfl)),
 f48:=Tryz.func188.trans (congrArg some (by kernel_rfl)),
 f49:=⟨Tryz.f200.name,by decide,Tryz.func200.trans (congrArg some (by kernel_rfl))⟩,
 f50:=⟨Tryz.f201.name,by decide,Tryz.func201.trans (congrArg some (by kernel_rfl))⟩,
 f57:=⟨Tryz.f206.name,by decide,Tryz.func206.trans (congrArg some (by kernel_rfl))⟩,
 t0:=Tryz.underlying0,
 a0:=Tryz.isAgg0,
 z0:=Tryz.sizeOf0,
 v0:=Tryz.zeroValue0,
 t3:=Tryz.underlying3,
 a3:=Tryz.isAgg3,
 z3:=Tryz.sizeOf3,
 v3:=Tryz.zeroValue3,
 t4:=Tryz.underlying4,
 a4:=Tryz.isAgg4,
 z4:=Tryz.sizeOf4,
 v4:=Tryz.zeroValue4,
 t5:=Tryz.underlying5,
 a5:=Tryz.isAgg5,
 z5:=Tryz.sizeOf5,
 v5:=Tryz.zeroValue5,
 t9:=Tryz.underlying9,
 a9:=Tryz.isAgg9,
 z9:=Tryz.sizeOf9,
 v9:=Tryz.zeroValue9,
 t22:=Tryz.underlying44,
 a22:=Tryz.isAgg44,
 z22:=Tryz.sizeOf44,
 v22:=Tryz.zeroValue44,
 t25:=Tryz.underlying145,
 a25:=Tryz.isAgg145,
 z25:=Tryz.sizeOf145,
 v25:=Tryz.zeroValue145,
 t39:=Tryz.underlying171,
 a39:=Tryz.isAgg171,
 z39:=Tryz.sizeOf171,
 v39:=Tryz.zeroValue171,
 t45:=Tryz.underlying199,
 a45:=Tryz.isAgg199,
 z45:=Tryz.sizeOf199,
 v45:=Tryz.zeroValue199,
 t46:=Tryz.underlying200,
 a46:=Tryz.isAgg200,
 z46:=Tryz.sizeOf200,
 v46:=Tryz.zeroValue200,
 t50:=Tryz.underlying177,
 a50:=Tryz.isAgg177,
 z50:=Tryz.sizeOf177,
 v50:=Tryz.zeroValue177,
 t53:=Tryz.underlying206,
 a53:=Tryz.isAgg206,
 z53:=Tryz.sizeOf206,
 v53:=Tryz.zeroValue206,
 t55:=Tryz.underlying208,
 a55:=Tryz.isAgg208,
 z55:=Tryz.sizeOf208,
 v55:=Tryz.zeroValue208,
 t66:=Tryz.underlying220,
 a66:=Tryz.isAgg220,
 z66:=Tryz.sizeOf220,
 v66:=Tryz.zeroValue220,
 t70:=Tryz.underlying224,
 a70:=Tryz.isAgg224,
 z70:=Tryz.sizeOf224,
 v70:=Tryz.zeroValue224,
 t76:=Tryz.underlying232,
 a76:=Tryz.isAgg232,
 z76:=Tryz.sizeOf232,
 v76:=Tryz.zeroValue232,
 t77:=Tryz.underlying233,
 a77:=Tryz.isAgg233,
 z77:=Tryz.sizeOf233,
 v77:=Tryz.zeroValue233 }
end Go.Proofs.YtfdolehffjmdmaaGreatDoor
/- slices.SortFunc at ids by entry.Order: an array of ids is put in order. -/
namespace Go.Proofs.YtfdolehffjmdmaaGreatDoor
open Go.RowKit
theorem cmpS_calls (a b:Int) (w:World):Calls Tryz.prog 140 #[.int .i64 a,.int .i64 b] w fun e w'=>e = .returned (.int .i64 (cmpI a b))∧w=w':=by
 by_cases h1:a < b
 ·
  go_enter Tryz.func140,Tryz.ntmps140
  go_wp2
  go_ret
  exact ⟨by simp [cmpI,h1],rfl⟩
 ·
  by_cases h2:b < a
  ·
   go_enter Tryz.func140,Tryz.ntmps140
   go_wp2
   go_ret
   exact ⟨by simp [cmpI,h1,h2],rfl⟩
  ·
   go_enter Tryz.func140,Tryz.ntmps140
   go_wp2
   go_ret
   exact ⟨ret_int (by unfold cmpI; rw [if_neg (by omega),if_neg (by omega)]),rfl⟩
theorem orderS_calls (a b:Id) (w:World):Calls Tryz.prog 104 #[.agg #[.int .i64 a.r,.int .i64 a.n],.agg #[.int .i64 b.r,.int .i64 b.n]] w fun e w'=>e = .returned (.int .i64 (ordI a b))∧∃ q os',w'=Go.Sort.grow (w.drewN q) os':=by
 go_enter Tryz.func104,Tryz.ntmps104
 go_wp2_with (go_at_call 140; refine (cmpS_calls _ _ _).mono ?_; rintro e w' ⟨rfl,rfl⟩)
 ·
  go_ret
  have h:(cmpI a.r b.r != 0)=true:=by assumption
  exact ⟨ret_int (by rw [ordI,if_neg (by simpa using h)]),0,_,by rw [Go.Sort.alloc_eq_grow,Go.Sort.alloc_eq_grow,Go.Sort.grow_grow]; rfl⟩
 ·
  go_ret
  have h:(cmpI a.r b.r != 0)=false:=by assumption
  exact ⟨ret_int (by rw [ordI,if_pos (by simpa using h)]),0,_,by rw [Go.Sort.alloc_eq_grow,Go.Sort.alloc_eq_grow,Go.Sort.grow_grow]; rfl⟩
theorem cmpLaysI (blk off size:Nat) (w:World):CmpLays Tryz.prog 104 #[] eId 2 ordI blk off size w:=fun _ _ _ _ a b=>orderS_calls a b _
theorem swoI:Go.Sort.SWO (ltOf ordI) where
 irrefl:=fun x=>by simp [ltOf,ordI_lt,lessB]
 trans:=fun x y z h1 h2=>by
  simp only [ltOf,decide_eq_true_eq,ordI_lt,lessB] at h1 h2 ⊢
  omega
 ntrans:=fun x y z h1 h2=>by
  simp only [ltOf,decide_eq_false_iff_not,ordI_lt,lessB,decide_eq_true_eq] at h1 h2 ⊢
  omega
theorem ordI_part (x y:Id) (h1:ltOf ordI x y=false) (h2:ltOf ordI y x=false):x=y:=by
 simp only [ltOf,decide_eq_false_iff_not,ordI_lt,lessB,decide_eq_true_eq] at h1 h2
 cases x; cases y
 simp at h1 h2 ⊢
 omega
def sortI (l:List Id):List Id:=l.mergeSort fun x y => !(ltOf ordI) y x
theorem sortIds_meets (l : List Id) (v T : Nat) (hl : l.length < 4611686018427387904) :
    Meets Tryz.prog 127 [.arr 0 v,.clo 104 []] [.arr v true false T 2 (l.map cId)] (.tup []) [.arr v true false T 2 ((sortI l).map cId)]:=by
  intro x vs hx h0 hp
  obtain ⟨a,b,rfl,h1,h2⟩:=two_args hp.1
  have ha:=hp.2 0 _ _ rfl h1
  have hb:=hp.2 1 _ _ rfl h2
  obtain ⟨ws,rfl,hw,-⟩:=hb.clo_inv
  obtain rfl:ws = []:=List.length_eq_zero_iff.1 hw
  obtain ⟨e1,e2,e3⟩:=h0.row (id:=0) rfl ha
  rcases e3 with ⟨rfl,hnil⟩ | ⟨g,cap,cur,rfl,hc,hcap,hm,hz,hrow⟩
  · have:l = []:=by simpa using hnil
    subst this
    refine (AnyF.slices_SortFunc_none sortIdL none 0 (.func (.func 104) #[] #[]) x.w0).mono ?_
    rintro e w' ⟨rfl,rfl⟩
    exact ⟨_,x.C0,rfl,by simpa [sortI] using h0,.tup [] [] rfl (fun j p u h=>by simp at h)⟩
  · have eg:∀ args w,(callFunc 104 args).run Tryz.prog w = .ok (.enter 104 args) w:=enters_of Tryz.func104 (by kernel_rfl) rfl
    have hH:=flat_id.holds l hc hrow
    have hlt:g < x.w0.heap.size:=(Array.getElem?_eq_some_iff.1 hc).1
    have key:=AnyQ.slices_SortFunc_total sortIdL 2 (fun _=>by kernel_rfl) (fun _=>by kernel_rfl) eId flat_id.len flat_id.one ordI swoI 104 #[] g 0 cap l.toArray x.w0 eg (cmpLaysI g 0 _ x.w0) hH hlt (by simpa using hl) ordI_part
    rw [List.length_map] at *
    refine key.mono ?_
    rintro e w' ⟨rfl,n,os,rfl⟩
    obtain ⟨cur',c1,c2,c3,c4⟩:=row_world eId 2 x.w0 g n (l.toArray.toList.mergeSort fun x y => !(ltOf ordI) y x).toArray os hc
    have hsl:(sortI l).length=l.length:=(List.mergeSort_perm l _).length_eq
    have hown:(x.C0.sv 0).ownBlock=some g:=by rw [← e1]; rfl
    obtain ⟨C',k1,k2,k3⟩:=h0.rerow (id:=0) (v':=v) (g':=g) (cap':=cap) (rows':=(sortI l).map cId) (cur':=cur') rfl (by
      refine ⟨c4.size,c4.os,c4.tape,c4.output,fun b hb hne=>c4.blk b hb fun e=>hne (by rw [hown,e])⟩) (.inl hown) (.inl ⟨rfl,by rw [← e1,List.length_map,hsl]⟩) c1 (by rw [List.length_map,hsl]; exact hcap) hm (by rw [c2,hz])
      (fun row hr=>by obtain ⟨y,-,rfl⟩:=List.mem_map.1 hr; rfl) (flat_id.rep c3 (l:=sortI l) (sortI l).length (fun i hi=>by
        rw [List.getElem?_eq_getElem hi]
        simp [sortI] at hi ⊢
        simp [hi]) rfl (by simp [sortI]))
    exact ⟨_,C',rfl,k1,.tup [] [] rfl (fun j p u h=>by simp at h)⟩
end Go.Proofs.YtfdolehffjmdmaaGreatDoor
/- Plain laws of logs: ids in order,what a right log has,pasts. No program in sight. -/
namespace Go.Proofs.YtfdolehffjmdmaaGreatDoor
/-! ids in order -/
def Asc (l:List Id):Prop:=l.Pairwise fun a b=>lessB a b=true
theorem lessB_trans {a b c:Id} (h1:lessB a b=true) (h2:lessB b c=true):lessB a c=true:=by
 simp only [lessB,decide_eq_true_eq] at *; omega
theorem lessB_irrefl (a:Id):lessB a a=false:=by simp [lessB]
theorem lessB_conn {a b:Id} (h1:lessB a b=false) (h2:lessB b a=false):a=b:=by
 cases a; cases b
 simp only [lessB,decide_eq_false_iff_not] at h1 h2
 simp
 omega
theorem asc_ext:∀ {l m:List Id},Asc l→Asc m→(∀ x,x ∈ l↔x ∈ m)→l=m
 | [],[],_,_,_=>rfl
 | [],y :: m,_,_,h=>by have:=(h y).2 (by simp); simp at this
 | x :: l,[],_,_,h=>by have:=(h x).1 (by simp); simp at this
 | x :: l,y :: m,h1,h2,h=>by
  have h1':=List.pairwise_cons.1 h1
  have h2':=List.pairwise_cons.1 h2
  have hxy:x=y:=by
   rcases List.mem_cons.1 ((h x).1 (by simp)) with e | e
   ·
    exact e
   rcases List.mem_cons.1 ((h y).2 (by simp)) with e' | e'
   ·
    exact e'.symm
   have:=lessB_trans (h1'.1 y e') (h2'.1 x e)
   rw [lessB_irrefl] at this; cases this
  subst hxy
  rw [asc_ext h1'.2 h2'.2 fun z=>?_]
  constructor
  ·
   intro hz
   rcases List.mem_cons.1 ((h z).1 (by simp [hz])) with e | e
   ·
    subst e; have:=h1'.1 z hz; rw [lessB_irrefl] at this; cases this
   ·
    exact e
  ·
   intro hz
   rcases List.mem_cons.1 ((h z).2 (by simp [hz])) with e | e
   ·
    subst e; have:=h2'.1 z hz; rw [lessB_irrefl] at this; cases this
   ·
    exact e
theorem rise_len:∀ (l:List Int) (a b:Int),l.Pairwise (· < ·)→(∀ x ∈ l,a≤x∧x < b)→a≤b→(l.length:Int)≤b - a
 | [],a,b,_,_,h=>by simp; omega
 | x :: l,a,b,hp,hm,h=>by
  have hp':=List.pairwise_cons.1 hp
  have hx:=hm x (by simp)
  have:=rise_len l (x + 1) b hp'.2 (fun y hy=>⟨hp'.1 y hy,(hm y (by simp [hy])).2⟩) (by omega)
  simp only [List.length_cons]; omega
theorem asc_len {l:List Id} (h:Asc l) (hk:∀ x ∈ l,okId x=true):l.length≤40:=by
 have hb:∀ x ∈ l,0≤x.r∧x.r≤1∧1≤x.n∧x.n≤20:=fun x hx=>by
  have:=hk x hx
  simp only [okId,Bool.and_eq_true,wthn_iff] at this
  omega
 have:=rise_len (l.map fun x=>x.r * 20 + x.n) 1 41 (List.pairwise_map.2 (List.Pairwise.imp_of_mem (fun {a b} ha hb' hab=>by
  have h1:=hb a ha
  have h2:=hb b hb'
  simp only [lessB,decide_eq_true_eq] at hab
  omega) h)) (fun y hy=>by
   obtain ⟨x,hx,rfl⟩:=List.mem_map.1 hy
   have:=hb x hx
   omega) (by omega)
 rw [List.length_map] at this
 omega
theorem sortI_mem {l:List Id} {x:Id}:x ∈ sortI l↔x ∈ l:=(List.mergeSort_perm l _).mem_iff
theorem sortI_length (l:List Id):(sortI l).length=l.length:=(List.mergeSort_perm l _).length_eq
theorem sortI_sorted (l:List Id):(sortI l).Pairwise fun a b=>lessB b a=false:=by
 have:=List.pairwise_mergeSort (le:=fun x y:Id => !(ltOf ordI) y x) (fun a b c h1 h2=>by
  simp only [ltOf,ordI_lt,Bool.not_eq_true',decide_eq_false_iff_not,Bool.not_eq_true] at *
  simp only [lessB,decide_eq_false_iff_not] at *; omega) (fun a b=>by
  simp only [ltOf,ordI_lt,Bool.or_eq_true,Bool.not_eq_true',decide_eq_false_iff_not,lessB,decide_eq_true_eq]; omega) l
 exact this.imp fun {a b} h=>by simpa [ltOf,ordI_lt] using h
theorem compI_mem {l:List Id} {x:Id}:x ∈ compI l↔x ∈ l:=by
 unfold compI Lib.compact Lib.compactUpTo
 rw [List.mem_map]
 constructor
 ·
  rintro ⟨j,hj,rfl⟩
  have:j < l.length:=by simpa using (List.mem_filter.1 hj).1
  simp [this]
 ·
  intro hx
  obtain ⟨j,hj,rfl⟩:=List.getElem_of_mem hx
  induction j using Nat.strongRecOn with
  | _ j ih =>
   by_cases hk:Lib.keeps l.toArray j=true
   ·
    exact ⟨j,List.mem_filter.2 ⟨List.mem_range.2 hj,hk⟩,by simp [hj]⟩
   ·
    simp only [Lib.keeps,decide_eq_true_eq,not_or,Decidable.not_not] at hk
    obtain ⟨h0,h1⟩:=hk
    have hj':j - 1 < l.length:=by omega
    obtain ⟨i,h2,h3⟩:=ih (j - 1) (by omega) hj' (List.getElem_mem hj')
    refine ⟨i,h2,?_⟩
    rw [h3]
    have:=h1
    simp only [hj,hj',List.getElem!_toArray,getElem!_pos] at this
    exact this.symm
theorem compI_asc {l:List Id} (h:l.Pairwise fun a b=>lessB b a=false):Asc (compI l):=by
 unfold compI Lib.compact Lib.compactUpTo Asc
 rw [List.pairwise_map]
 refine List.Pairwise.imp_of_mem (R:=(· < ·)) (fun {i j} hi hj hij=>?_) (List.Pairwise.filter _ List.pairwise_lt_range)
 obtain ⟨h1,-⟩:=List.mem_filter.1 hi
 obtain ⟨h2,h3⟩:=List.mem_filter.1 hj
 have hjl:j < l.length:=List.mem_range.1 h2
 simp only [Lib.keeps,decide_eq_true_eq] at h3
 have h3':=h3.resolve_left (by omega)
 have hj1:j - 1 < l.length:=by omega
 have hil:i < l.length:=by omega
 simp only [List.getElem!_toArray,getElem!_pos,hjl,hj1] at h3'
 simp only [List.getElem!_toArray,getElem!_pos,hjl,hil]
 have a1:lessB l[j] l[j - 1]=false:=List.pairwise_iff_getElem.1 h (j - 1) j hj1 hjl (by omega)
 have a2:lessB l[j - 1] l[j]=true:=by
  cases e:lessB l[j - 1] l[j]
  ·
   exact (h3' (lessB_conn a1 e)).elim
  ·
   rfl
 by_cases e:i=j - 1
 ·
  subst e; exact a2
 ·
  have a3:lessB l[j - 1] l[i]=false:=List.pairwise_iff_getElem.1 h i (j - 1) hil hj1 (by omega)
  simp only [lessB,decide_eq_false_iff_not,decide_eq_true_eq] at *
  omega
def setI (l:List Id):List Id:=compI (sortI l)
theorem setI_mem {l:List Id} {x:Id}:x ∈ setI l↔x ∈ l:=compI_mem.trans sortI_mem
theorem setI_asc (l:List Id):Asc (setI l):=compI_asc (sortI_sorted l)
theorem sortI_asc {l:List Id} (h:l.Nodup):Asc (sortI l):=by
 have h1:(sortI l).Nodup:=(List.mergeSort_perm l _).nodup_iff.2 h
 exact (List.Pairwise.and (sortI_sorted l) h1).imp fun {a b} ⟨h1,h2⟩=>by
  cases e:lessB a b
  ·
   exact (h2 (lessB_conn e h1)).elim
  ·
   rfl
/-! finding -/
theorem idxF_take {α:Type} (p:α→Bool):∀ (l:List α) (k i:Nat),0≤idxF p (l.take k) i→idxF p l i=idxF p (l.take k) i∧idxF p l i < i + k
 | [],k,i,h=>by simp [idxF] at h
 | x :: l,0,i,h=>by simp [idxF] at h
 | x :: l,k + 1,i,h=>by
  simp only [List.take_succ_cons,idxF] at h ⊢
  split
  ·
   exact ⟨rfl,by omega⟩
  ·
   rename_i hx
   rw [if_neg hx] at h
   have:=idxF_take p l k (i + 1) h
   exact ⟨this.1,by omega⟩
theorem idxF_spec {α:Type} [Inhabited α] (p:α→Bool):∀ (l:List α) (i:Nat),0≤idxF p l i→∃ k:Nat,idxF p l i=i + k∧k < l.length∧p (nth l k)=true
 | [],i,h=>by simp [idxF] at h
 | x :: l,i,h=>by
  simp only [idxF] at h ⊢
  split
  ·
   rename_i hx
   exact ⟨0,by simp,by simp,by simpa [nth] using hx⟩
  ·
   rename_i hx
   rw [if_neg hx] at h
   obtain ⟨k,h1,h2,h3⟩:=idxF_spec p l (i + 1) h
   exact ⟨k + 1,by omega,by simp; omega,by simpa [nth] using h3⟩
theorem findE_take {l:List Entry} {k:Nat} {x:Id} (h:0≤findE (l.take k) x):findE l x=findE (l.take k) x∧findE l x < k:=by
 have:=idxF_take (fun e:Entry=>decide (e.id=x)) l k 0 h
 exact ⟨this.1,by have:=this.2; unfold findE; omega⟩
theorem findE_spec {l:List Entry} {x:Id} (h:0≤findE l x):∃ k:Nat,findE l x=k∧k < l.length∧(nth l k).id=x:=by
 obtain ⟨k,h1,h2,h3⟩:=idxF_spec _ l 0 h
 exact ⟨k,by rw [findE,h1]; simp,h2,by simpa using h3⟩
theorem findE_neg {l:List Entry} {x:Id}:findE l x < 0↔∀ e ∈ l,e.id≠x:=by
 rcases idxF_ge (fun e:Entry=>decide (e.id=x)) l 0 with ⟨h1,h2⟩ | ⟨h1,h2⟩
 ·
  rw [findE,h1]
  rw [List.any_eq_false] at h2
  exact ⟨fun _ e he=>by simpa using h2 e he,fun _=>by omega⟩
 ·
  rw [List.any_eq_true] at h2
  obtain ⟨e,he,hx⟩:=h2
  exact ⟨fun h=>by rw [findE] at h; omega,fun h=>(h e he (by simpa using hx)).elim⟩
/-! right logs -/
structure LogOk (l:List Entry):Prop where
 len:l.length≤40
 chk:∀ k,k < l.length→checkEntry (nth l k)=0
 new:∀ k,k < l.length→findE (l.take k) (nth l k).id < 0
 num:∀ k,k < l.length→(cntR (l.take k) (nth l k).id.r:Int) + 1=(nth l k).id.n
 lnk:∀ k,k < l.length→∀ x ∈ (nth l k).ls,0≤findE (l.take k) x
theorem log_ok {l:List Entry}:checkLog l=0↔LogOk l:=by
 have key:∀ k,logErr l k=0↔checkEntry (nth l k)=0∧findE (l.take k) (nth l k).id < 0∧(cntR (l.take k) (nth l k).id.r:Int) + 1=(nth l k).id.n∧∀ x ∈ (nth l k).ls,0≤findE (l.take k) x:=by
  intro k
  unfold logErr
  split
  ·
   rename_i h; exact ⟨fun e=>(h e).elim,fun e=>(h e.1).elim⟩
  ·
   rename_i h0
   have h0':checkEntry (nth l k)=0:=by simpa using h0
   split
   ·
    rename_i h; exact ⟨fun e=>(by cases e),fun e=>by omega⟩
   ·
    rename_i h1
    split
    ·
     rename_i h; exact ⟨fun e=>(by cases e),fun e=>(h e.2.2.1).elim⟩
    ·
     rename_i h2
     have h2':(cntR (l.take k) (nth l k).id.r:Int) + 1=(nth l k).id.n:=by simpa using h2
     have hr:readyB (l.take k) (nth l k)=true↔∀ x ∈ (nth l k).ls,0≤findE (l.take k) x:=by
      simp only [readyB,h2',decide_true,Bool.true_and,Bool.not_eq_true',List.any_eq_false,decide_eq_true_eq]
      exact ⟨fun h x hx=>by have:=h x hx; omega,fun h x hx=>by have:=h x hx; omega⟩
     rw [← hr]
     split
     ·
      rename_i h; exact ⟨fun e=>(by cases e),fun e=>by rw [h] at e; simp at e⟩
     ·
      rename_i h; exact ⟨fun _=>⟨h0',by omega,h2',by simpa using h⟩,fun _=>rfl⟩
 unfold checkLog
 split
 ·
  rename_i h; exact ⟨fun e=>(by cases e),fun e=>by have:=e.len; omega⟩
 ·
  rename_i h
  rw [firstNZ_zero]
  exact ⟨fun e=>⟨by omega,fun k hk=>((key k).1 (e k hk)).1,fun k hk=>((key k).1 (e k hk)).2.1,fun k hk=>((key k).1 (e k hk)).2.2.1,fun k hk=>((key k).1 (e k hk)).2.2.2⟩,
   fun e k hk=>(key k).2 ⟨e.chk k hk,e.new k hk,e.num k hk,e.lnk k hk⟩⟩
theorem LogOk.id_ok {l:List Entry} (h:LogOk l) {k:Nat} (hk:k < l.length):okId (nth l k).id=true:=(check_ok_bounds (h.chk k hk)).1
theorem LogOk.links {l:List Entry} (h:LogOk l) {k:Nat} (hk:k < l.length):(nth l k).ls.length≤6:=(check_ok_bounds (h.chk k hk)).2.2.2.1
theorem LogOk.link_lt {l:List Entry} (h:LogOk l) {k:Nat} (hk:k < l.length) {x:Id} (hx:x ∈ (nth l k).ls):0≤findE l x∧findE l x < k:=by
 have h1:=h.lnk k hk x hx
 have h2:=findE_take h1
 exact ⟨by omega,h2.2⟩
theorem LogOk.inj {l:List Entry} (h:LogOk l) {i k:Nat} (hi:i < l.length) (hk:k < l.length) (e:(nth l i).id=(nth l k).id):i=k:=by
 have aux:∀ i k,i < k→k < l.length→(nth l i).id=(nth l k).id→False:=fun i k hik hk e=>by
  have:=findE_neg.1 (h.new k hk) (nth l i) (by rw [List.mem_take_iff_getElem]; exact ⟨i,by omega,by rw [nth_eq _ _ (by omega)]⟩)
  exact this e
 rcases Nat.lt_trichotomy i k with h1 | h1 | h1
 ·
  exact (aux i k h1 hk e).elim
 ·
  exact h1
 ·
  exact (aux k i h1 hi e.symm).elim
theorem LogOk.find {l:List Entry} (h:LogOk l) {k:Nat} (hk:k < l.length):findE l (nth l k).id=k:=by
 have h0:¬ findE l (nth l k).id < 0:=fun hn=>findE_neg.1 hn (nth l k) (by rw [nth_eq _ _ hk]; exact List.getElem_mem hk) rfl
 obtain ⟨j,h1,h2,h3⟩:=findE_spec (by omega:0≤findE l (nth l k).id)
 rw [h1,h.inj h2 hk h3]
theorem LogOk.reg {l:List Entry} (h:LogOk l):okReg l:=by
 intro e he
 obtain ⟨k,hk,rfl⟩:=List.getElem_of_mem he
 rw [← nth_eq l k hk]
 exact reg_of_check (h.chk k hk)
/-! pasts -/
def pastAt (ps:List (List Id)) (l:List Entry) (x:Id):List Id:=nth ps (findE l x).toNat
def allOf (ps:List (List Id)) (l:List Entry) (ls:List Id):List Id:=ls.flatMap fun x=>x :: pastAt ps l x
def pastsTo (l:List Entry):Nat→List (List Id)
 | 0 => []
 | k + 1=>pastsTo l k ++ [setI (allOf (pastsTo l k) l (nth l k).ls)]
def pasts (l:List Entry):List (List Id):=pastsTo l l.length
def pastOf (l:List Entry) (k:Nat):List Id:=nth (pasts l) k
@[simp] theorem pastsTo_length (l:List Entry):∀ k,(pastsTo l k).length=k
 | 0=>rfl
 | k + 1=>by simp [pastsTo,pastsTo_length l k]
theorem pastsTo_nth (l:List Entry) {i k:Nat} (h:i < k):nth (pastsTo l k) i=nth (pastsTo l (i + 1)) i:=by
 induction k with
 | zero=>omega
 | succ k ih =>
  by_cases e:i=k
  ·
   rw [e]
  ·
   rw [← ih (by omega),nth_eq _ _ (by simp; omega),nth_eq _ _ (by simp; omega)]
   simp only [pastsTo]
   rw [List.getElem_append_left]
theorem nth_last (l:List Entry) (k:Nat):nth (pastsTo l (k + 1)) k=setI (allOf (pastsTo l k) l (nth l k).ls):=by
 rw [nth_eq _ _ (by simp)]
 simp only [pastsTo]
 rw [List.getElem_append_right (by simp)]
 simp
theorem allOf_to {l:List Entry} (h:LogOk l) {k m:Nat} (hk:k < l.length) (hm:k≤m):allOf (pastsTo l m) l (nth l k).ls=allOf (pastsTo l k) l (nth l k).ls:=by
 unfold allOf
 have:∀ x ∈ (nth l k).ls,pastAt (pastsTo l m) l x=pastAt (pastsTo l k) l x:=fun x hx=>by
  have:=h.link_lt hk hx
  unfold pastAt
  rw [pastsTo_nth l (by omega:(findE l x).toNat < m),pastsTo_nth l (by omega:(findE l x).toNat < k)]
 rw [List.flatMap_def,List.flatMap_def]
 congr 1
 exact List.map_congr_left fun x hx=>by rw [this x hx]
theorem pastOf_eq {l:List Entry} (h:LogOk l) {k:Nat} (hk:k < l.length):pastOf l k=setI (allOf (pasts l) l (nth l k).ls):=by
 unfold pastOf pasts
 rw [pastsTo_nth l hk,nth_last,allOf_to h hk (Nat.le_of_lt hk)]
theorem pastOf_asc {l:List Entry} (h:LogOk l) {k:Nat} (hk:k < l.length):Asc (pastOf l k):=by
 rw [pastOf_eq h hk]; exact setI_asc _
theorem mem_pastOf {l:List Entry} (h:LogOk l) {k:Nat} (hk:k < l.length) {y:Id}:y ∈ pastOf l k↔∃ x ∈ (nth l k).ls,y=x∨y ∈ pastOf l (findE l x).toNat:=by
 rw [pastOf_eq h hk,setI_mem,allOf,List.mem_flatMap]
 simp only [List.mem_cons]
 rfl
theorem pastOf_lt {l:List Entry} (h:LogOk l):∀ (k:Nat),k < l.length→∀ y ∈ pastOf l k,∃ j,j < k∧(nth l j).id=y:=by
 intro k
 induction k using Nat.strongRecOn with
 | _ k ih =>
  intro hk y hy
  obtain ⟨x,hx,he⟩:=(mem_pastOf h hk).1 hy
  obtain ⟨h1,h2⟩:=h.link_lt hk hx
  obtain ⟨j,h3,h4,h5⟩:=findE_spec h1
  rcases he with rfl | he
  ·
   exact ⟨j,by omega,h5⟩
  ·
   obtain ⟨i,h6,h7⟩:=ih (findE l x).toNat (by omega) (by omega) y he
   exact ⟨i,by omega,h7⟩
theorem pastOf_ok {l:List Entry} (h:LogOk l) {k:Nat} (hk:k < l.length):∀ y ∈ pastOf l k,okId y=true:=by
 intro y hy
 obtain ⟨j,h1,rfl⟩:=pastOf_lt h k hk y hy
 exact h.id_ok (by omega)
theorem pastOf_len {l:List Entry} (h:LogOk l) {k:Nat} (hk:k < l.length):(pastOf l k).length≤40:=asc_len (pastOf_asc h hk) (pastOf_ok h hk)
end Go.Proofs.YtfdolehffjmdmaaGreatDoor
/- A struct that nobody writes any more: its pointer shows its cells,and its object is let go. -/
namespace Go.Proofs.YtfdolehffjmdmaaGreatDoor
open Go.RowKit
theorem weak_rptr {x : Cx} {nt : Nat} {st : St} (t id : Nat) {cells : List PV} {H' : List AObj} {cells' : List PV} (h : st.env t = .ptr id 0) (hid : st.heap[id]? = some (.box cells)) (hc : cells.map (frz st.heap) = cells') (hp : cells'.all PV.isPure = true) (hH : st.heap.set id .gone = H') :
    Weak x nt st (st.put (some t) (.rptr cells') H'):=by
  subst hc; subst hH
  intro a w ⟨⟨C,hr,he⟩,hdf,hs⟩
  have hlt:id < st.heap.length:=(List.getElem?_eq_some_iff.1 hid).1
  obtain ⟨cs,T,g1,g2,g3⟩:=hr.obj id _ hid
  have hb:C.blk id < w.heap.size:=(Array.getElem?_eq_some_iff.1 g1).1
  have hmp:∀ p v,RepP (Stab x C st.heap w) w p v→RepP (Stab x C (st.heap.set id .gone) w) w p v:=by
    intro p v h
    refine h.mono (fun b o h=>⟨h.1,h.2.1,fun i ob1 hi=>?_⟩) fun b o h=>rfl
    by_cases e:i=id
    · subst e; rw [List.getElem?_set_self hlt] at hi; cases hi; trivial
    · rw [List.getElem?_set_ne (Ne.symm e)] at hi; exact h.2.2 i ob1 hi
  obtain ⟨k1,k2⟩:=hr.change (C':=C) hid (ob' := .gone) (step_refl w) rfl (fun _=>rfl) (fun _ _=>⟨rfl,rfl⟩) (.inl ⟨rfl,rfl⟩)
    (fun b o hb hf=>trivial) (fun b o hb hf=>rfl) (fun b hb=>hb.elim) (fun _ _=>trivial)
  have hfz:=frz_cells (vs:=cells) (us:=cs.toList) hr (fun j q u hq hu=>g3 j q u hq (by rw [← Array.getElem?_toList]; exact hu)) hp
  refine ⟨⟨C,k1,fun u=>?_⟩,hdf,hs⟩
  simp only [St.put,Option.some.injEq]
  by_cases e:t=u
  · subst e
    rw [if_pos rfl]
    have:=he t
    rw [h] at this
    rw [this.ptr_inv.1]
    refine .rptr _ (C.blk id) 0 (fun j=>cs[j]!) (fun j p hj=>?_) fun j p hj=>?_
    all_goals
      have hjl:j < cs.size:=by
        have:=(List.getElem?_eq_some_iff.1 hj).1
        rw [List.length_map] at this; omega
    · refine ⟨⟨?_,hb,fun i ob1 hi=>?_⟩,?_⟩
      · rcases hr.mine id _ _ hid rfl with h | h
        · exact .inr (.inl h)
        · exact .inr (.inr h)
      · by_cases e:i=id
        · subst e; rw [List.getElem?_set_self hlt] at hi; cases hi; trivial
        · rw [List.getElem?_set_ne (Ne.symm e)] at hi
          exact AObj.free_of_not (fun hb=>e (hr.apart i id ob1 _ _ hi hid hb rfl)) _
      · simp [World.cell?,g1,hjl]
    · exact hmp _ _ (hfz j p _ hj (by simp [hjl])).2
  · rw [if_neg e]; exact k2 _ _ (he u)
end Go.Proofs.YtfdolehffjmdmaaGreatDoor
/- Pasts: contracts. -/
namespace Go.Proofs.YtfdolehffjmdmaaGreatDoor
set_option linter.unusedSimpArgs false
set_option linter.unusedVariables false
open Go.RowKit
def ofRows (ps:List (List Id)):List (List PV):=ps.map fun p => [.list (p.map cId)]
def pvPasts (l:List Entry) (ps:List (List Id)):PV := .rptr [.list (l.map cE),.list (ofRows ps)]
theorem of_meets (l : List Entry) (ps : List (List Id)) (x : Id) (hl : l.length ≤ 9223372036854775806) (h0 : 0 ≤ findE l x) (h1 : findE l x < ps.length) :
    Meets Tryz.prog 101 [pvPasts l ps,.agg (cId x)] [] (.list ((pastAt ps l x).map cId)) []:=by
  have hg:ps[(findE l x).toNat]? = some (pastAt ps l x):=nth_get? _ _ (by omega)
  refine Meets.of_walk Tryz.func101 Tryz.ntmps101 low101 res101 (by simp) fun xx hx=>?_
  simp only [go_sem,L101,R101,cId,pvPasts,ofRows]
  refine ops_call (.pureE (find_meets l x hl) (by simp [go_sem,cId])) ?_
  simp only [go_sem,h0,h1,hg]
  refine ret_pure hx ?_
  simp [go_sem,L101,R101]
theorem ofA_meets (l : List Entry) (ps : List (List Id)) (x : Id) (v T : Nat) (hl : l.length ≤ 9223372036854775806) (h0 : 0 ≤ findE l x) (h1 : findE l x < ps.length) :
    Meets Tryz.prog 101 [.ptr 0 0,.agg (cId x)] [.box [.list (l.map cE),.arr 1 v],.arr v false false T 1 (ofRows ps)] (.list ((pastAt ps l x).map cId)) [.box [.list (l.map cE),.arr 1 v],.arr v false false T 1 (ofRows ps)]:=by
  have hg:ps[(findE l x).toNat]? = some (pastAt ps l x):=nth_get? _ _ (by omega)
  refine Meets.of_walk Tryz.func101 Tryz.ntmps101 low101 res101 (by simp) fun xx hx=>?_
  simp only [go_sem,L101,R101,cId,ofRows]
  refine ops_call (.pureE (find_meets l x hl) (by simp [go_sem,cId])) ?_
  simp only [go_sem,h0,h1,hg]
  refine ret_keep [] (by simp) (by simp) (by simp [hx]) ?_ ?_
  · simp [go_sem,L101,R101,hx,pos,List.range_succ]
  · simp [subHeap,renObj,hx,go_sem,pos,List.range_succ]
theorem allOf_take {ps:List (List Id)} {l:List Entry} {ls:List Id} {j:Nat} (h:j < ls.length):allOf ps l (ls.take (j + 1))=allOf ps l (ls.take j) ++ [nth ls j] ++ pastAt ps l (nth ls j):=by
 unfold allOf
 rw [List.take_succ_eq_append_getElem h,nth_eq _ _ h,List.flatMap_append]
 simp only [List.flatMap_cons,List.flatMap_nil,List.append_nil,List.append_assoc,List.cons_append,List.nil_append]
theorem pastAt_to {l:List Entry} {k:Nat} {x:Id} (hk:k≤l.length) (h0:0≤findE l x) (h1:findE l x < k):pastAt (pastsTo l k) l x=pastOf l (findE l x).toNat:=by
 unfold pastAt pastOf pasts
 rw [pastsTo_nth l (by omega:(findE l x).toNat < k),pastsTo_nth l (by omega:(findE l x).toNat < l.length)]
theorem allOf_len {l:List Entry} (h:LogOk l) {k:Nat} (hk:k < l.length):∀ j,j≤(nth l k).ls.length→(allOf (pastsTo l k) l ((nth l k).ls.take j)).length≤41 * j
 | 0,_=>by simp [allOf]
 | j + 1,hj=>by
  have hlj:j < (nth l k).ls.length:=by omega
  obtain ⟨f1,f2⟩:=h.link_lt hk (x:=nth (nth l k).ls j) (by rw [nth_eq _ _ hlj]; exact List.getElem_mem hlj)
  have:=allOf_len h hk j (by omega)
  have h2:=pastOf_len h (k:=(findE l (nth (nth l k).ls j)).toNat) (by omega)
  rw [allOf_take hlj,pastAt_to (by omega) f1 f2]
  simp only [List.length_append,List.length_cons,List.length_nil]
  omega
set_option maxHeartbeats 1000000 in
theorem before_meets (l:List Entry) (h:LogOk l):Meets Tryz.prog 84 [.list (l.map cE)] [] (pvPasts l (pasts l)) []:=by
 have hm:=h.len
 refine Meets.of_walk Tryz.func84 Tryz.ntmps84 low84 res84 (by simp) fun x hx=>?_
 simp only [go_sem,L84,R84]
 refine W_weak (weak_ownc 0 1 0 44 1 false false rfl rfl (by omega)) ?_
 refine loop_inv [3,12,13,14] 2 (fun n st=>∃ k:Nat,k + n=l.length ∧
  st=⟨mkE .top [(3,.ptr 0 0),(12,.list (l.map cE)),(13,.int .i64 l.length),(14,.int .i64 k)],[.box [.list (l.map cE),.arr 1 k],.arr k false false 44 1 (ofRows (pastsTo l k))]⟩) l.length (by simp [hx]) (by simp) ?_ ?_
 ·
  refine ⟨0,by omega,?_⟩
  simp [trim_mk,go_sem,subHeap,renObj,pos,List.range_succ,pastsTo,ofRows]
 ·
  rintro n st ⟨k,hk,rfl⟩
  by_cases hlt:k < l.length
  ·
   have hg:l[k]? = some (nth l k):=nth_get? _ _ hlt
   have wk:=i64_up (k:=k) (by omega)
   have hls:=h.links hlt
   simp only [go_sem,hlt,hg,cE]
   refine W_weak (weak_own 6 0 43 2 true false rfl (by omega)) ?_
   refine loop_inv [3,6,12,13,14,19,20,21] 4 (fun n st=>∃ j:Nat,j + n=(nth l k).ls.length ∧
    st=⟨mkE .top [(3,.ptr 0 0),(6,.arr 3 (2 * j)),(12,.list (l.map cE)),(13,.int .i64 l.length),(14,.int .i64 k),(19,.list ((nth l k).ls.map cId)),(20,.int .i64 (nth l k).ls.length),(21,.int .i64 j)],
     [.box [.list (l.map cE),.arr 1 k],.arr k false false 44 1 (ofRows (pastsTo l k)),.box (cE (nth l k)),.arr (2 * j) true false 43 2 ((allOf (pastsTo l k) l ((nth l k).ls.take j)).map cId)]⟩) (nth l k).ls.length (by simp [hx]) (by simp [St.put]) ?_ ?_
   ·
    refine ⟨0,by omega,?_⟩
    simp [trim_mk,go_sem,subHeap,renObj,pos,List.range_succ,cE,allOf]
   ·
    rintro n2 st ⟨j,hj,rfl⟩
    by_cases hlj:j < (nth l k).ls.length
    ·
     have hgj:(nth l k).ls[j]? = some (nth (nth l k).ls j):=nth_get? _ _ hlj
     have wj:=i64_up (k:=j) (by omega)
     have hmem:nth (nth l k).ls j ∈ (nth l k).ls:=by rw [nth_eq _ _ hlj]; exact List.getElem_mem hlj
     obtain ⟨f1,f2⟩:=h.link_lt hlt hmem
     simp only [go_sem,hlj,hgj,cId]
     have b1:=allOf_len h hlt j (by omega)
     have b2:=pastOf_len h (k:=(findE l (nth (nth l k).ls j)).toNat) (by omega)
     rw [← pastAt_to (k:=k) (by omega) f1 f2] at b2
     rw [app_arr rfl rfl (by simp) (by simp; omega)]
     simp only [go_sem]
     refine ops_call (.heapE [0,1] (r' := .list ((pastAt (pastsTo l k) l (nth (nth l k).ls j)).map cId)) (H' := [.box [.list (l.map cE),.arr 1 k],.arr k false false 44 1 (ofRows (pastsTo l k)),.box (cE (nth l k)),.arr (2 * j + 1) true false 43 2 ((allOf (pastsTo l k) l ((nth l k).ls.take j)).map cId ++ [cId (nth (nth l k).ls j)]),.box (cId (nth (nth l k).ls j))]) (ofA_meets l (pastsTo l k) (nth (nth l k).ls j) k 44 (by omega) f1 (by simp; omega))
      (by simp) (by simp) (by simp [go_sem,pos,cId]) (by simp [subHeap,renObj,go_sem,pos]) rfl (by simp [merge,mergeObj,callId,renObj,pos,go_sem,List.range_succ,backF,backId,cE,cId])) ?_
     simp only [go_sem]
     rw [app_arr rfl rfl (by simp [cId]) (by simp; omega)]
     simp only [go_sem,wj]
     refine ⟨rfl,?_⟩
     refine ⟨by simp,n2 - 1,by omega,j + 1,by omega,?_⟩
     simp [trim_mk,go_sem,subHeap,renObj,pos,List.range_succ,cE,allOf_take hlj,show 2 * (j + 1)=2 * j + 1 + 1 by omega]
    ·
     have htl:(nth l k).ls.take j=(nth l k).ls:=List.take_of_length_le (by omega)
     have b1:=allOf_len h hlt j (by omega)
     rw [htl] at b1
     simp only [go_sem,hlj,htl]
     have hso:=sortIds_meets (allOf (pastsTo l k) l (nth l k).ls) (2 * j) 43 (by omega)
     refine ops_call (.heapE [3] (r' := .tup []) (H' := [.box [.list (l.map cE),.arr 1 k],.arr k false false 44 1 (ofRows (pastsTo l k)),.box (cE (nth l k)),.arr (2 * j) true false 43 2 ((sortI (allOf (pastsTo l k) l (nth l k).ls)).map cId)]) hso
      (by simp) (by simp) (by simp [go_sem,pos]) (by simp [subHeap,renObj,go_sem,pos]) rfl (by simp [merge,mergeObj,callId,renObj,pos,go_sem,List.range_succ,backF,backId,cE])) ?_
     simp only [go_sem]
     have hco:=compactIds_meets (sortI (allOf (pastsTo l k) l (nth l k).ls)) (2 * j) 43 (by rw [sortI_length]; omega)
     refine ops_call1 3 hco rfl rfl rfl rfl (by simp [go_sem]) (by simp [go_sem,pos]) rfl ?_
     simp only [go_sem]
     rw [app_arr rfl rfl (by simp) (by simp [ofRows]; omega)]
     simp only [go_sem,wk]
     refine ⟨rfl,rfl,rfl,?_⟩
     refine ⟨by simp,n - 1,by omega,k + 1,by omega,?_⟩
     simp [trim_mk,go_sem,subHeap,renObj,pos,List.range_succ,cE,ofRows,pastsTo,setI]
  ·
   have hke:k=l.length:=by omega
   subst hke
   simp only [go_sem,Nat.lt_irrefl]
   refine ret_weak (weak_rptr (cells' := [.list (l.map cE),.list (ofRows (pastsTo l l.length))]) 2 0 rfl rfl (by simp [frz]) rfl rfl) ?_
   refine ret_pure hx ?_
   simp [go_sem,L84,R84,pvPasts,pasts]
end Go.Proofs.YtfdolehffjmdmaaGreatDoor
/- Logs,in the law text's words: counting,finding,being right; colors; ids among others: contracts. -/
namespace Go.Proofs.YtfdolehffjmdmaaGreatDoor
set_option linter.unusedSimpArgs false
set_option linter.unusedVariables false
open Go.RowKit
end Go.Proofs.YtfdolehffjmdmaaGreatDoor
/- Pasts,heads,counts: contracts. -/
namespace Go.Proofs.YtfdolehffjmdmaaGreatDoor
set_option linter.unusedSimpArgs false
set_option linter.unusedVariables false
open Go.RowKit
def hasI (l:List Id) (y:Id):Bool:=l.any fun x=>decide (y=x)
theorem hasI_iff {l:List Id} {y:Id}:hasI l y=true↔y ∈ l:=by simp [hasI]
theorem indexI2_meets (l:List Id) (y:Id) (hl:l.length≤9223372036854775806):Meets Tryz.prog 157 [.list (l.map cId),.agg (cId y)] [] (.int .i64 (idxF (fun x=>decide (y=x)) l 0)) []:=by
 refine Meets.of_walk Tryz.func157 Tryz.ntmps157 low157 res157 (by simp) fun x hx=>?_
 simp only [go_sem,L157,R157,cId]
 refine loop_inv [0,3,7,8] 1 (fun n st=>∃ k:Nat,k + n=l.length∧idxF (fun x=>decide (y=x)) (l.drop k) k=idxF (fun x=>decide (y=x)) l 0 ∧
  st=⟨mkE .top [(0,.list (l.map cId)),(3,.ptr 0 0),(7,.int .i64 l.length),(8,.int .i64 k)],[.box (cId y)]⟩) l.length (by simp [hx]) (by simp) ?_ ?_
 ·
  refine ⟨0,by omega,by simp,?_⟩
  simp [trim_mk,go_sem,subHeap,renObj,pos,List.range_succ,cId]
 ·
  rintro n st ⟨k,hk,hi,rfl⟩
  by_cases hlt:k < l.length
  ·
   have hg:l[k]? = some (nth l k):=nth_get? _ _ hlt
   have wk:=i64_up (k:=k) (by omega)
   rw [idxF_drop _ l k hlt] at hi
   by_cases he:y=nth l k
   ·
    simp only [go_sem,hlt,hg,cId,beqId,he]
    refine ret_pure hx ?_
    simp [he] at hi
    simp [go_sem,L157,R157,hi,he]
   ·
    simp only [go_sem,hlt,hg,cId,beqId,he,wk]
    refine ⟨by simp,n - 1,by omega,k + 1,by omega,by simpa [he] using hi,?_⟩
    simp [trim_mk,go_sem,subHeap,renObj,pos,List.range_succ,cId]
  ·
   have:l.drop k = []:=List.drop_eq_nil_of_le (by omega)
   rw [this] at hi
   simp only [go_sem,hlt]
   refine ret_pure hx ?_
   simp [go_sem,L157,R157,← hi,idxF]
theorem containsI_meets (l:List Id) (y:Id) (hl:l.length≤9223372036854775806):Meets Tryz.prog 131 [.list (l.map cId),.agg (cId y)] [] (.bool (hasI l y)) []:=by
 refine Meets.of_walk Tryz.func131 Tryz.ntmps131 low131 res131 (by simp) fun x hx=>?_
 simp only [go_sem,L131,R131,cId]
 refine ops_call (.pureE (indexI2_meets l y hl) (by simp [go_sem,cId])) ?_
 simp only [go_sem]
 refine ret_pure hx ?_
 simp [go_sem,L131,R131,hasI,idxF_any]
theorem ahead_meets (l : List Entry) (ps : List (List Id)) (y z : Id) (hl : l.length ≤ 9223372036854775806) (h0 : 0 ≤ findE l z) (h1 : findE l z < ps.length) (h2 : (pastAt ps l z).length ≤ 9223372036854775806) :
    Meets Tryz.prog 91 [pvPasts l ps,.agg (cId y),.agg (cId z)] [] (.bool (hasI (pastAt ps l z) y)) []:=by
  refine Meets.of_walk Tryz.func91 Tryz.ntmps91 low91 res91 (by simp) fun x hx=>?_
  simp only [go_sem,L91,R91,cId,pvPasts]
  refine ops_call (.pureE (of_meets l ps z hl h0 h1) (by simp [go_sem,cId,pvPasts])) ?_
  simp only [go_sem]
  refine ops_call (.pureE (containsI_meets (pastAt ps l z) y h2) (by simp [go_sem,cId])) ?_
  simp only [go_sem]
  refine ret_pure hx ?_
  simp [go_sem,L91,R91]
def bitB (c:Int) (i:Nat):Bool:=decide (c / 2 ^ i % 2=1)
def meetB (a b:Int):Bool:=(bitB a 0 && bitB b 0) || (bitB a 1 && bitB b 1) || (bitB a 2 && bitB b 2)
theorem and_meet0 {a b:Int} (ha:wthn a 1 7=true) (hb:wthn b 1 7=true):(!decide (IntKind.i64.wrap ((BitVec.ofInt IntKind.i64.bits a &&& BitVec.ofInt IntKind.i64.bits b).toNat:Int)=0))=meetB a b:=by
 have key:∀ a b:Fin 8,(!decide (IntKind.i64.wrap ((BitVec.ofInt IntKind.i64.bits (a.val:Int) &&& BitVec.ofInt IntKind.i64.bits (b.val:Int)).toNat:Int)=0))=meetB (a.val:Int) (b.val:Int):=by decide +kernel
 rw [wthn_iff] at ha hb
 have:=key ⟨a.toNat,by omega⟩ ⟨b.toNat,by omega⟩
 simp only [Int.toNat_of_nonneg (show 0≤a by omega),Int.toNat_of_nonneg (show 0≤b by omega)] at this
 exact this
theorem and_meet {a b:Int} (ha:wthn a 1 7=true) (hb:wthn b 1 7=true):(!decide (IntKind.i64.wrap ((@HAnd.hAnd (BitVec 64) (BitVec 64) (BitVec 64) (@instHAndOfAndOp (BitVec IntKind.i64.bits) _) (BitVec.ofInt 64 a) (BitVec.ofInt 64 b)).toNat:Int)=0))=meetB a b:=and_meet0 ha hb
def withC (l:List Entry) (c:Int):List Entry:=l.filter fun e=>meetB e.c c
theorem withC_take {l:List Entry} {c:Int} {k:Nat} (h:k < l.length):withC (l.take (k + 1)) c=withC (l.take k) c ++ if meetB (nth l k).c c then [nth l k] else []:=by
 unfold withC
 rw [List.take_succ_eq_append_getElem h,List.filter_append,nth_eq _ _ h]
 simp only [List.filter_cons,List.filter_nil]
theorem withC_len (l:List Entry) (c:Int):(withC l c).length≤l.length:=List.length_filter_le _ _
theorem LogOk.col {l:List Entry} (h:LogOk l) {k:Nat} (hk:k < l.length):wthn (nth l k).c 1 7=true:=(check_ok_bounds (h.chk k hk)).2.1
theorem with_meets (l:List Entry) (c:Int) (h:LogOk l) (hc:wthn c 1 7=true):Meets Tryz.prog 129 [.list (l.map cE),.int .i64 c] [] (.list ((withC l c).map cE)) []:=by
 have hm:=h.len
 refine Meets.of_walk Tryz.func129 Tryz.ntmps129 low129 res129 (by simp) fun x hx=>?_
 simp only [go_sem,L129,R129]
 refine W_weak (weak_own 5 0 46 5 false false rfl (by omega)) ?_
 refine loop_inv [1,5,8,9,10] 1 (fun n st=>∃ k v:Nat,k + n=l.length ∧
  st=⟨mkE .top [(1,.int .i64 c),(5,.arr 0 v),(8,.list (l.map cE)),(9,.int .i64 l.length),(10,.int .i64 k)],[.arr v false false 46 5 ((withC (l.take k) c).map cE)]⟩) l.length (by simp [hx]) (by simp [St.put]) ?_ ?_
 ·
  refine ⟨0,0,by omega,?_⟩
  simp [trim_mk,go_sem,subHeap,renObj,pos,List.range_succ,withC]
 ·
  rintro n st ⟨k,v,hk,rfl⟩
  by_cases hlt:k < l.length
  ·
   have hg:l[k]? = some (nth l k):=nth_get? _ _ hlt
   have wk:=i64_up (k:=k) (by omega)
   have hw:=withC_take (c:=c) hlt
   have hle:=withC_len (l.take k) c
   rw [List.length_take] at hle
   have ha:=and_meet (h.col hlt) hc
   cases hb:meetB (nth l k).c c
   ·
    rw [hb] at ha hw
    simp only [go_sem,hlt,hg,cE,ha,wk]
    refine ⟨by simp,n - 1,by omega,k + 1,v,by omega,?_⟩
    simp [trim_mk,go_sem,subHeap,renObj,pos,List.range_succ,hw]
   ·
    rw [hb] at ha hw
    simp only [go_sem,hlt,hg,cE,ha,wk]
    rw [app_arr rfl rfl (by simp) (by simp; omega)]
    simp only [go_sem,wk]
    refine ⟨by simp,n - 1,by omega,k + 1,v + 1,by omega,?_⟩
    simp [trim_mk,go_sem,subHeap,renObj,pos,List.range_succ,hw,cE]
  ·
   have:l.take k=l:=List.take_of_length_le (by omega)
   simp only [go_sem,hlt,this]
   refine ret_pure hx ?_
   simp [go_sem,L129,R129,frzAt,pos]
theorem closed2 (c d : List PV) (h : c.map (renCell false (pos [0, 1]) (frzAt false [.box c, .box d])) = c) (h2 : c.map (renCell false (pos [0, 1]) (frzAt true [.box c, .box d])) = c) (h3 : c.map (renCell false (backF 2 [0, 1]) noFz) = c)
    (g:d.map (renCell false (pos [0,1]) (frzAt false [.box c,.box d]))=d) (g2:d.map (renCell false (pos [0,1]) (frzAt true [.box c,.box d]))=d) (g3:d.map (renCell false (backF 2 [0,1]) noFz)=d) :
    ClosedH [.box c,.box d] [.ptr 0 0,.ptr 1 0]:=by
  refine ⟨?_,?_,?_,?_,?_⟩
  · simp [renLeaf,pos,List.range_succ]
  · simp [ren,renCell,renLeaf,pos,List.range_succ]
  · simp only [List.length_cons,List.length_nil,List.range_succ,List.range_zero,List.nil_append,List.cons_append,subHeap,List.map_cons,List.map_nil,List.getElem?_cons_zero,List.getElem?_cons_succ,Option.getD_some,renObj,h,g]
  · simp only [List.length_cons,List.length_nil,List.range_succ,List.range_zero,List.nil_append,List.cons_append,merge,List.map_cons,List.map_nil,mergeObj,callId,Nat.zero_add,Nat.sub_self,Nat.add_zero]
    simp [pos,renObj,h3,g3]
  · simp only [List.length_cons,List.length_nil,List.range_succ,List.range_zero,List.nil_append,List.cons_append,subHeap,List.map_cons,List.map_nil,List.getElem?_cons_zero,List.getElem?_cons_succ,Option.getD_some,renObj,h2,g2]
theorem closedT (l:List Entry) (ps:List (List Id)) (e:Entry):ClosedH [.box [pvPasts l ps],.box (cE e)] [.ptr 0 0,.ptr 1 0]:=by
 refine closed2 _ _ ?_ ?_ ?_ ?_ ?_ ?_ <;> simp [pvPasts,cE,renCell,renLeaf]
theorem top1_meets (l : List Entry) (ps : List (List Id)) (e f : Entry) (hl : l.length ≤ 9223372036854775806) (h0 : 0 ≤ findE l f.id) (h1 : findE l f.id < ps.length) (h2 : (pastAt ps l f.id).length ≤ 9223372036854775806) :
    Meets Tryz.prog 139 [.agg (cE f),.ptr 0 0,.ptr 1 0] [.box [pvPasts l ps],.box (cE e)] (.bool (hasI (pastAt ps l f.id) e.id)) [.box [pvPasts l ps],.box (cE e)]:=by
  refine Meets.of_walk Tryz.func139 Tryz.ntmps139 low139 res139 (by simp) fun x hx=>?_
  simp only [go_sem,L139,R139,cE]
  refine ops_call (.pureE (ahead_meets l ps e.id f.id hl h0 h1 h2) (by simp [go_sem,cId,pvPasts])) ?_
  simp only [go_sem]
  refine ret_keep [] (by simp) (by simp) (by simp [hx]) ?_ ?_
  · simp [go_sem,L139,R139,hx]
  · simp [subHeap,renObj,hx,go_sem,pos,List.range_succ,cE,pvPasts]
def underB (l:List Entry) (c:Int) (e:Entry):Bool:=(withC l c).any fun f=>hasI (pastAt (pasts l) l f.id) e.id
def headsC (l:List Entry) (c:Int):List Id:=((withC l c).filter fun e => !underB l c e).map (·.id)
theorem headsC_take {l:List Entry} {c:Int} {s:List Entry} {k:Nat} (h:k < s.length):((s.take (k + 1)).filter fun e => !underB l c e).map (·.id)=((s.take k).filter fun e => !underB l c e).map (·.id) ++ if underB l c (nth s k) then [] else [(nth s k).id]:=by
 rw [List.take_succ_eq_append_getElem h,List.filter_append,nth_eq _ _ h,List.map_append]
 simp only [List.filter_cons,List.filter_nil]
 cases underB l c s[k] <;> rfl
theorem withC_mem {l:List Entry} {c:Int} {e:Entry} (h:e ∈ withC l c):∃ k,k < l.length∧nth l k=e:=by
 obtain ⟨k,hk,rfl⟩:=List.getElem_of_mem (List.mem_filter.1 h).1
 exact ⟨k,hk,nth_eq _ _ hk⟩
theorem pastAt_eq {l:List Entry} (x:Id):pastAt (pasts l) l x=pastOf l (findE l x).toNat:=rfl
set_option maxHeartbeats 1000000 in
theorem top_meets (l:List Entry) (c:Int) (h:LogOk l) (hc:wthn c 1 7=true):Meets Tryz.prog 102 [.list (l.map cE),.int .i64 c] [] (.list ((sortI (headsC l c)).map cId)) []:=by
 have hm:=h.len
 have hle:=withC_len l c
 refine Meets.of_walk Tryz.func102 Tryz.ntmps102 low102 res102 (by simp) fun x hx=>?_
 simp only [go_sem,L102,R102]
 refine ops_call (.pureE (before_meets l h) (by simp [go_sem])) ?_
 simp only [go_sem,pvPasts]
 refine ops_call (.pureE (with_meets l c h hc) (by simp [go_sem])) ?_
 simp only [go_sem]
 refine W_weak (weak_own 7 0 43 2 true false rfl (by omega)) ?_
 refine loop_inv [5,6,7,15,16,17] 2 (fun n st=>∃ k v:Nat,k + n=(withC l c).length ∧
  st=⟨mkE .top [(5,.ptr 0 0),(6,.list ((withC l c).map cE)),(7,.arr 1 v),(15,.list ((withC l c).map cE)),(16,.int .i64 (withC l c).length),(17,.int .i64 k)],
   [.box [pvPasts l (pasts l)],.arr v true false 43 2 ((((withC l c).take k).filter fun e => !underB l c e).map (·.id) |>.map cId)]⟩) (withC l c).length (by simp [hx]) (by simp [St.put]) ?_ ?_
 ·
  refine ⟨0,0,by omega,?_⟩
  simp [trim_mk,go_sem,subHeap,renObj,pos,List.range_succ,pvPasts]
 ·
  rintro n st ⟨k,v,hk,rfl⟩
  by_cases hlt:k < (withC l c).length
  ·
   have hg:(withC l c)[k]? = some (nth (withC l c) k):=nth_get? _ _ hlt
   have wk:=i64_up (k:=k) (by omega)
   have hw:=headsC_take (l:=l) (c:=c) hlt
   have hle2:((((withC l c).take k).filter fun e => !underB l c e).map (·.id)).length≤40:=by
    rw [List.length_map]
    refine Nat.le_trans (List.length_filter_le _ _) ?_
    rw [List.length_take]; omega
   simp only [go_sem,hlt,hg,cE]
   have hcf:=contFE_meets (withC l c) 139 [.ptr 0 0,.ptr 1 0] [.box [pvPasts l (pasts l)],.box (cE (nth (withC l c) k))] (fun f=>hasI (pastAt (pasts l) l f.id) (nth (withC l c) k).id) (by kernel_rfl) (by omega) (closedT _ _ _) (fun f hf=>by
    obtain ⟨j,hj,rfl⟩:=withC_mem hf
    have e:=h.find hj
    exact top1_meets l (pasts l) _ _ (by omega) (by omega) (by simp [pasts]; omega) (by rw [pastAt_eq,e,Int.toNat_natCast]; have:=pastOf_len h hj; omega))
   refine ops_call (.heapE [0,2] (r' := .bool (underB l c (nth (withC l c) k))) (H' := [.box [pvPasts l (pasts l)],.arr v true false 43 2 ((((withC l c).take k).filter fun e => !underB l c e).map (·.id) |>.map cId),.box (cE (nth (withC l c) k))]) hcf
    (by simp) (by simp) (by simp [go_sem,pos]) (by simp [subHeap,renObj,go_sem,pos,cE,pvPasts]) rfl (by simp [merge,mergeObj,callId,renObj,pos,go_sem,List.range_succ,backF,backId,cE,pvPasts])) ?_
   cases hu:underB l c (nth (withC l c) k)
   ·
    rw [hu] at hw
    simp only [go_sem,cE]
    rw [app_arr rfl rfl (by simp) (by simp at hle2 ⊢; omega)]
    simp only [go_sem,wk]
    refine ⟨by simp,n - 1,by omega,k + 1,v + 1,by omega,?_⟩
    rw [hw]
    simp [trim_mk,go_sem,subHeap,renObj,pos,List.range_succ,cId,pvPasts]
   ·
    rw [hu] at hw
    simp only [go_sem,wk]
    refine ⟨by simp,n - 1,by omega,k + 1,v,by omega,?_⟩
    rw [hw]
    simp [trim_mk,go_sem,subHeap,renObj,pos,List.range_succ,cId,pvPasts]
  ·
   have:(withC l c).take k=withC l c:=List.take_of_length_le (by omega)
   have hle2:(headsC l c).length≤40:=by
    unfold headsC
    rw [List.length_map]
    refine Nat.le_trans (List.length_filter_le _ _) ?_
    omega
   simp only [go_sem,hlt,this]
   have hso:=sortIds_meets (headsC l c) v 43 (by omega)
   refine ops_call (.heapE [1] (r' := .tup []) (H' := [.box [pvPasts l (pasts l)],.arr v true false 43 2 ((sortI (headsC l c)).map cId)]) hso
    (by simp) (by simp) (by simp [go_sem,pos]) (by simp [subHeap,renObj,go_sem,pos,headsC]) rfl (by simp [merge,mergeObj,callId,renObj,pos,go_sem,List.range_succ,backF,backId,pvPasts])) ?_
   simp only [go_sem]
   refine ret_pure hx ?_
   simp [go_sem,L102,R102,frzAt,pos]
end Go.Proofs.YtfdolehffjmdmaaGreatDoor
/- dag.Past,dag.Heads,dag.Count: contracts. -/
namespace Go.Proofs.YtfdolehffjmdmaaGreatDoor
set_option linter.unusedSimpArgs false
set_option linter.unusedVariables false
open Go.RowKit
def pastErr (l:List Entry) (y:Id):Int:=if checkLog l≠0 then checkLog l else if findE l y < 0 then 5 else 0
def pastIds (l:List Entry) (y:Id):List Id:=if pastErr l y=0 then pastOf l (findE l y).toNat else []
/-! the same in the law text's words -/
end Go.Proofs.YtfdolehffjmdmaaGreatDoor
/- Pasts and heads in the law text's words: contracts. -/
namespace Go.Proofs.YtfdolehffjmdmaaGreatDoor
set_option linter.unusedSimpArgs false
set_option linter.unusedVariables false
open Go.RowKit
def markL (l:List Entry) (ls:List Id) (M:List Bool):List Bool:=ls.foldl (fun M x=>M.set (findE l x).toNat true) M
def markS (l:List Entry) (a i:Nat) (M:List Bool):List Bool:=if i=a∨nth M i=true then markL l (nth l i).ls M else M
def marks (l:List Entry) (a:Nat):Nat→List Bool
 | 0=>List.replicate l.length false
 | s + 1=>markS l a (a - s) (marks l a s)
def marksOf (l:List Entry) (a:Nat):List Bool:=marks l a (a + 1)
theorem markL_length (l:List Entry):∀ (ls:List Id) (M:List Bool),(markL l ls M).length=M.length
 | [],_=>rfl
 | x :: ls,M=>by
  show (markL l ls (M.set _ true)).length=_
  rw [markL_length l ls]; simp
theorem marks_length (l:List Entry) (a:Nat):∀ s,(marks l a s).length=l.length
 | 0=>by simp [marks]
 | s + 1=>by
  simp only [marks,markS]
  split
  ·
   rw [markL_length,marks_length l a s]
  ·
   exact marks_length l a s
end Go.Proofs.YtfdolehffjmdmaaGreatDoor
/- Ids that are told,rising: a contract. -/
namespace Go.Proofs.YtfdolehffjmdmaaGreatDoor
set_option linter.unusedSimpArgs false
set_option linter.unusedVariables false
open Go.RowKit
def idRow (r n:Nat):List Id:=(List.range n).map fun m=>⟨r,((m + 1:Nat):Int)⟩
def idsUp (r n:Nat):List Id:=(List.range r).flatMap (fun q=>idRow q 20) ++ idRow r n
def allIds:List Id:=idsUp 2 0
def tellB (l:List Entry) (M:List Bool) (x:Id):Bool:=decide (0≤findE l x) && nth M (findE l x).toNat
def risingI (l:List Entry) (M:List Bool):List Id:=allIds.filter (tellB l M)
end Go.Proofs.YtfdolehffjmdmaaGreatDoor
/- Heads in the law text's words: a contract. -/
namespace Go.Proofs.YtfdolehffjmdmaaGreatDoor
set_option linter.unusedSimpArgs false
set_option linter.unusedVariables false
open Go.RowKit
def cutM (M P:List Bool):List Bool:=List.zipWith (fun a p=>a && !p) M P
def meetsL (l:List Entry) (c:Int):List Bool:=l.map fun e=>meetB e.c c
def headM (l:List Entry) (c:Int):Nat→List Bool
 | 0=>meetsL l c
 | k + 1=>if meetB (nth l k).c c then cutM (headM l c k) (marksOf l k) else headM l c k
theorem marksOf_length (l:List Entry) (a:Nat):(marksOf l a).length=l.length:=marks_length l a (a + 1)
theorem headM_length (l:List Entry) (c:Int):∀ k,(headM l c k).length=l.length
 | 0=>by simp [headM,meetsL]
 | k + 1=>by
  simp only [headM]
  split
  ·
   simp [cutM,headM_length l c k,marksOf_length]
  ·
   exact headM_length l c k
def headsR (l:List Entry) (c:Int):List Id:=risingI l (headM l c l.length)
end Go.Proofs.YtfdolehffjmdmaaGreatDoor
/- Plain laws of pasts and heads: what the marks tell. No program in sight. -/
namespace Go.Proofs.YtfdolehffjmdmaaGreatDoor
theorem pastOf_trans {l:List Entry} (h:LogOk l) {j:Nat} (hj:j < l.length):∀ (a:Nat),a < l.length→(nth l j).id ∈ pastOf l a→∀ y ∈ pastOf l j,y ∈ pastOf l a:=by
 intro a
 induction a using Nat.strongRecOn with
 | _ a ih =>
  intro ha hm y hy
  obtain ⟨x,hx,he⟩:=(mem_pastOf h ha).1 hm
  obtain ⟨f1,f2⟩:=h.link_lt ha hx
  refine (mem_pastOf h ha).2 ⟨x,hx,.inr ?_⟩
  rcases he with rfl | he
  ·
   rw [h.find hj,Int.toNat_natCast]; exact hy
  ·
   exact ih _ (by omega) (by omega) he y hy
theorem nth_set {M:List Bool} {i k:Nat} (hk:k < M.length):nth (M.set i true) k=(nth M k || decide (i=k)):=by
 rw [nth_eq _ _ (by simpa using hk),nth_eq _ _ hk,List.getElem_set]
 by_cases e:i=k
 ·
  simp [e]
 ·
  simp [e]
theorem nth_markL {l:List Entry}:∀ (ls:List Id) (M:List Bool) (k:Nat),k < M.length→nth (markL l ls M) k=(nth M k || ls.any fun x=>decide ((findE l x).toNat=k))
 | [],M,k,_=>by simp [markL]
 | x :: ls,M,k,h=>by
  show nth (markL l ls (M.set (findE l x).toNat true)) k=_
  rw [nth_markL ls _ k (by simpa using h),nth_set h]
  simp [Bool.or_assoc]
theorem markL_link {l : List Entry} (h : LogOk l) {i k : Nat} (hi : i < l.length) (hk : k < l.length) {M : List Bool} (hM : M.length = l.length) :
    nth (markL l (nth l i).ls M) k=true↔nth M k=true∨(nth l k).id ∈ (nth l i).ls:=by
  rw [nth_markL _ _ _ (by omega),Bool.or_eq_true,List.any_eq_true]
  constructor
  · rintro (h1 | ⟨x,hx,hd⟩)
    · exact .inl h1
    · obtain ⟨f1,f2⟩:=h.link_lt hi hx
      obtain ⟨m,g1,g2,g3⟩:=findE_spec f1
      have:m=k:=by simpa [g1] using hd
      subst this
      exact .inr (by rw [g3]; exact hx)
  · rintro (h1 | hx)
    · exact .inl h1
    · exact .inr ⟨_,hx,by simp [h.find hk]⟩
theorem nth_repl {n k:Nat} (h:k < n):nth (List.replicate n false) k=false:=by
 rw [nth_eq _ _ (by simpa using h)]; simp
theorem marks_inv {l : List Entry} (h : LogOk l) {a : Nat} (ha : a < l.length) : ∀ s, s ≤ a →
    (∀ k,k < l.length→nth (marks l a (s + 1)) k=true→(nth l k).id ∈ pastOf l a) ∧
    (∀ k,k < l.length→(nth l k).id ∈ pastOf l a→nth (marks l a (s + 1)) k=true∨∃ j,j < a - s∧nth (marks l a (s + 1)) j=true∧(nth l k).id ∈ pastOf l j)
  | 0,_=>by
    have e:marks l a 1=markL l (nth l a).ls (List.replicate l.length false):=by simp [marks,markS]
    rw [Nat.zero_add,e]
    have hlk:∀ k,k < l.length→(nth (markL l (nth l a).ls (List.replicate l.length false)) k=true↔(nth l k).id ∈ (nth l a).ls):=fun k hk=>by
      rw [markL_link h ha hk (by simp),nth_repl hk]; simp
    refine ⟨fun k hk hm=>(mem_pastOf h ha).2 ⟨_,(hlk k hk).1 hm,.inl rfl⟩,fun k hk hp=>?_⟩
    obtain ⟨x,hx,he⟩:=(mem_pastOf h ha).1 hp
    rcases he with rfl | he
    · exact .inl ((hlk k hk).2 hx)
    · obtain ⟨f1,f2⟩:=h.link_lt ha hx
      obtain ⟨m,g1,g2,g3⟩:=findE_spec f1
      rw [g1,Int.toNat_natCast] at he
      exact .inr ⟨m,by omega,(hlk m g2).2 (by rw [g3]; exact hx),he⟩
  | s + 1,hs=>by
    obtain ⟨iA,iB⟩:=marks_inv h ha s (by omega)
    have hi:a - (s + 1) < l.length:=by omega
    have e:marks l a (s + 1 + 1)=markS l a (a - (s + 1)) (marks l a (s + 1)):=rfl
    rw [e]
    generalize hM:marks l a (s + 1)=M at *
    have hMl:M.length=l.length:=by rw [← hM]; exact marks_length l a _
    generalize hid:a - (s + 1)=i at *
    have hne:¬ i=a:=by omega
    unfold markS
    by_cases hm:nth M i=true
    · rw [if_pos (.inr hm)]
      have hlk:∀ k,k < l.length→(nth (markL l (nth l i).ls M) k=true↔nth M k=true∨(nth l k).id ∈ (nth l i).ls):=fun k hk=>markL_link h hi hk hMl
      refine ⟨fun k hk hkm=>?_,fun k hk hp=>?_⟩
      · rcases (hlk k hk).1 hkm with h1 | h1
        · exact iA k hk h1
        · exact pastOf_trans h hi a ha (iA i hi hm) _ ((mem_pastOf h hi).2 ⟨_,h1,.inl rfl⟩)
      · rcases iB k hk hp with h1 | ⟨j,hj,h2,h3⟩
        · exact .inl ((hlk k hk).2 (.inl h1))
        · by_cases hji:j=i
          · subst hji
            obtain ⟨x,hx,he⟩:=(mem_pastOf h hi).1 h3
            rcases he with rfl | he
            · exact .inl ((hlk k hk).2 (.inr hx))
            · obtain ⟨f1,f2⟩:=h.link_lt hi hx
              obtain ⟨m,g1,g2,g3⟩:=findE_spec f1
              rw [g1,Int.toNat_natCast] at he
              exact .inr ⟨m,by omega,(hlk m g2).2 (.inr (by rw [g3]; exact hx)),he⟩
          · exact .inr ⟨j,by omega,(hlk j (by omega)).2 (.inl h2),h3⟩
    · rw [if_neg (by simp [hne,hm])]
      refine ⟨iA,fun k hk hp=>?_⟩
      rcases iB k hk hp with h1 | ⟨j,hj,h2,h3⟩
      · exact .inl h1
      · have:j≠i:=fun e=>hm (e ▸ h2)
        exact .inr ⟨j,by omega,h2,h3⟩
theorem marksOf_iff {l:List Entry} (h:LogOk l) {a k:Nat} (ha:a < l.length) (hk:k < l.length):nth (marksOf l a) k=true↔(nth l k).id ∈ pastOf l a:=by
 obtain ⟨h1,h2⟩:=marks_inv h ha a (Nat.le_refl _)
 refine ⟨h1 k hk,fun hp=>?_⟩
 rcases h2 k hk hp with h3 | ⟨j,hj,-⟩
 ·
  exact h3
 ·
  omega
theorem allIds_asc:Asc allIds:=by
 unfold Asc
 have:(allIds.Pairwise fun a b=>lessB a b=true):=by decide +kernel
 exact this
theorem mem_allIds {x:Id}:x ∈ allIds↔okId x=true:=by
 obtain ⟨r,n⟩:=x
 simp only [okId,Bool.and_eq_true,wthn_iff]
 constructor
 ·
  intro h
  have key:∀ y ∈ allIds,(0≤y.r∧y.r≤1)∧1≤y.n∧y.n≤20:=by decide +kernel
  exact key _ h
 ·
  rintro ⟨⟨h1,h2⟩,h3,h4⟩
  have key:∀ (a:Fin 2) (b:Fin 20),(⟨(a.val:Int),(b.val:Int) + 1⟩:Id) ∈ allIds:=by decide +kernel
  have:=key ⟨r.toNat,by omega⟩ ⟨(n - 1).toNat,by omega⟩
  simp only [Int.toNat_of_nonneg h1,Int.toNat_of_nonneg (show 0≤n - 1 by omega),Int.sub_add_cancel] at this
  exact this
theorem risingI_asc (l:List Entry) (M:List Bool):Asc (risingI l M):=allIds_asc.filter _
theorem mem_risingI {l:List Entry} (h:LogOk l) {M:List Bool} {x:Id}:x ∈ risingI l M↔∃ k,k < l.length∧(nth l k).id=x∧nth M k=true:=by
 unfold risingI
 rw [List.mem_filter,mem_allIds,tellB,Bool.and_eq_true,decide_eq_true_eq]
 constructor
 ·
  rintro ⟨h1,h2,h3⟩
  obtain ⟨k,g1,g2,g3⟩:=findE_spec h2
  rw [g1,Int.toNat_natCast] at h3
  exact ⟨k,g2,g3,h3⟩
 ·
  rintro ⟨k,hk,rfl,h3⟩
  rw [h.find hk,Int.toNat_natCast]
  exact ⟨h.id_ok hk,by omega,h3⟩
theorem nth_cut {M P:List Bool} {k:Nat} (h1:k < M.length) (h2:k < P.length):nth (cutM M P) k=(nth M k && !nth P k):=by
 rw [nth_eq _ _ (by simp [cutM]; omega),nth_eq _ _ h1,nth_eq _ _ h2]; simp [cutM]
theorem headM_iff {l:List Entry} (h:LogOk l) {c:Int} {k:Nat} (hk:k < l.length):∀ n,n≤l.length→(nth (headM l c n) k=true↔meetB (nth l k).c c=true∧∀ i,i < n→meetB (nth l i).c c=true→(nth l k).id ∉ pastOf l i)
 | 0,_=>by
  have:nth (headM l c 0) k=meetB (nth l k).c c:=by
   simp only [headM,meetsL]
   rw [nth_eq _ _ (by simpa using hk)]; simp [nth_eq _ _ hk]
  rw [this]
  exact ⟨fun e=>⟨e,fun i hi=>by omega⟩,fun e=>e.1⟩
 | n + 1,hn=>by
  have ih:=headM_iff h (c:=c) hk n (by omega)
  simp only [headM]
  split
  ·
   rename_i hm
   rw [nth_cut (by rw [headM_length]; exact hk) (by rw [marksOf_length]; exact hk),Bool.and_eq_true,ih,Bool.not_eq_true',← Bool.not_eq_true,marksOf_iff h (by omega) hk]
   constructor
   ·
    rintro ⟨⟨h1,h2⟩,h3⟩
    refine ⟨h1,fun i hi hmi=>?_⟩
    by_cases e:i=n
    ·
     subst e; exact h3
    ·
     exact h2 i (by omega) hmi
   ·
    rintro ⟨h1,h2⟩
    exact ⟨⟨h1,fun i hi=>h2 i (by omega)⟩,h2 n (by omega) hm⟩
  ·
   rename_i hm
   rw [ih]
   constructor
   ·
    rintro ⟨h1,h2⟩
    refine ⟨h1,fun i hi hmi=>?_⟩
    by_cases e:i=n
    ·
     subst e; exact (hm hmi).elim
    ·
     exact h2 i (by omega) hmi
   ·
    rintro ⟨h1,h2⟩
    exact ⟨h1,fun i hi=>h2 i (by omega)⟩
theorem ids_nodup {l:List Entry} (h:LogOk l):(l.map (·.id)).Nodup:=by
 rw [List.Nodup,List.pairwise_map,List.pairwise_iff_getElem]
 intro i j hi hj hij e
 rw [← nth_eq l i hi,← nth_eq l j hj] at e
 have:=h.inj hi hj e
 omega
theorem headsC_nodup {l:List Entry} (h:LogOk l) (c:Int):(headsC l c).Nodup:=by
 refine List.Nodup.sublist (List.Sublist.map _ ?_) (ids_nodup h)
 exact List.filter_sublist.trans List.filter_sublist
theorem mem_withC {l:List Entry} {c:Int} {e:Entry}:e ∈ withC l c↔∃ k,k < l.length∧nth l k=e∧meetB e.c c=true:=by
 unfold withC
 rw [List.mem_filter]
 constructor
 ·
  rintro ⟨h1,h2⟩
  obtain ⟨k,hk,rfl⟩:=List.getElem_of_mem h1
  exact ⟨k,hk,nth_eq _ _ hk,h2⟩
 ·
  rintro ⟨k,hk,rfl,h2⟩
  exact ⟨by rw [nth_eq _ _ hk]; exact List.getElem_mem hk,h2⟩
theorem mem_headsC {l:List Entry} (h:LogOk l) {c:Int} {x:Id}:x ∈ headsC l c↔∃ k,k < l.length∧(nth l k).id=x∧meetB (nth l k).c c=true∧∀ i,i < l.length→meetB (nth l i).c c=true→x ∉ pastOf l i:=by
 unfold headsC
 rw [List.mem_map]
 constructor
 ·
  rintro ⟨e,he,rfl⟩
  obtain ⟨h1,h2⟩:=List.mem_filter.1 he
  obtain ⟨k,hk,rfl,hm⟩:=mem_withC.1 h1
  refine ⟨k,hk,rfl,hm,fun i hi hmi hp=>?_⟩
  simp only [Bool.not_eq_true',underB,List.any_eq_false] at h2
  have:=h2 (nth l i) (mem_withC.2 ⟨i,hi,rfl,hmi⟩)
  rw [pastAt_eq,h.find hi,Int.toNat_natCast] at this
  exact this (hasI_iff.2 hp)
 ·
  rintro ⟨k,hk,rfl,hm,hp⟩
  refine ⟨nth l k,List.mem_filter.2 ⟨mem_withC.2 ⟨k,hk,rfl,hm⟩,?_⟩,rfl⟩
  simp only [Bool.not_eq_true',underB,List.any_eq_false]
  intro f hf
  obtain ⟨i,hi,rfl,hmi⟩:=mem_withC.1 hf
  rw [pastAt_eq,h.find hi,Int.toNat_natCast]
  exact fun hh=>hp i hi hmi (hasI_iff.1 hh)
theorem heads_eq {l:List Entry} (h:LogOk l) (c:Int):headsR l c=sortI (headsC l c):=by
 refine asc_ext (risingI_asc _ _) (sortI_asc (headsC_nodup h c)) fun x=>?_
 rw [headsR,mem_risingI h,sortI_mem,mem_headsC h]
 constructor
 ·
  rintro ⟨k,hk,rfl,hm⟩
  obtain ⟨h1,h2⟩:=(headM_iff h hk l.length (Nat.le_refl _)).1 hm
  exact ⟨k,hk,rfl,h1,h2⟩
 ·
  rintro ⟨k,hk,rfl,hm,hp⟩
  exact ⟨k,hk,rfl,(headM_iff h hk l.length (Nat.le_refl _)).2 ⟨hm,hp⟩⟩
end Go.Proofs.YtfdolehffjmdmaaGreatDoor
/- Players of a log: contracts. -/
namespace Go.Proofs.YtfdolehffjmdmaaGreatDoor
set_option linter.unusedSimpArgs false
set_option linter.unusedVariables false
open Go.RowKit
theorem cloneI_meets (l:List Id) (hb:l.length≤1000000000):Meets Tryz.prog 148 [.list (l.map cId)] [] (.list (l.map cId)) []:=by
 refine Meets.of_walk Tryz.func148 Tryz.ntmps148 low148 res148 (by simp) fun x hx=>?_
 simp only [go_sem,L148,R148]
 refine ops_isnil rfl fun b hb'=>?_
 cases b
 ·
  simp only [go_sem]
  rw [app_arr rfl rfl (by simp [cId]) (by simp; omega)]
  simp only [go_sem]
  refine ret_pure hx ?_
  simp [go_sem,L148,R148,pos,frzAt]
 ·
  simp only [go_sem]
  have:l = []:=by simpa using hb' rfl
  subst this
  refine ret_pure hx ?_
  simp [go_sem,L148,R148]
def blkB (l:List Entry) (out:List Id) (y:Id) (e:Entry):Bool:=hasI (pastAt (pasts l) l y) e.id && !hasI out e.id
def mayB (l:List Entry) (c:Int) (out:List Id) (y:Id):Bool := !(withC l c).any (blkB l out y)
end Go.Proofs.YtfdolehffjmdmaaGreatDoor
/- Plain laws of orders: what comes next,and what comes at all. No program in sight. -/
namespace Go.Proofs.YtfdolehffjmdmaaGreatDoor
def candB (l:List Entry) (c:Int) (out:List Id) (x:Id):Bool:=decide (0≤findE l x) && meetB (nth l (findE l x).toNat).c c && !hasI out x && mayB l c out x
def nextR (l:List Entry) (c:Int) (out:List Id):Option Id:=allIds.find? (candB l c out)
def mOut (l:List Entry) (c:Int) (out:List Id):Nat:=(withC l c).countP fun e => !hasI out e.id
def moreN (l:List Entry) (c:Int):Nat→List Id→List Id
 | 0,out=>out
 | n + 1,out=>match nextR l c out with
  | some x=>moreN l c n (out ++ [x])
  | none=>out
def more (l:List Entry) (c:Int) (out:List Id):List Id:=moreN l c (mOut l c out) out
end Go.Proofs.YtfdolehffjmdmaaGreatDoor
/- A loop whose objects change places: what stays is chosen anew in each round. -/
namespace Go.Proofs.YtfdolehffjmdmaaGreatDoor
open Go.RowKit
section
variable {P:Program} {x:Cx} {nt:Nat} {st:St}
def St.sel (st:St) (live ks:List Nat):St :=
 ⟨fun t=>if t ∈ live then renT false (pos ks) (frzAt true st.heap) (st.env t) else .top,subHeap (pos ks) (frzAt true st.heap) st.heap ks⟩
theorem weak_sel (live ks:List Nat) (hnd:ks.Nodup) (hlt:∀ k ∈ ks,k < st.heap.length) (hpre:∀ i,i < x.H0.length→ks[i]? = some i):Weak x nt st (st.sel live ks):=by
 intro a w ⟨⟨C,hr,he⟩,hdf,hsz⟩
 obtain ⟨k1,k2⟩:=hr.restrict hnd hlt hpre
 refine ⟨⟨_,k1,fun t=>?_⟩,hdf,hsz⟩
 simp only [St.sel]
 split
 ·
  exact renT_rep k2 (he t)
 ·
  exact .any
theorem sel_mk (d:PV) (l:List (Nat × PV)) (H:List AObj) (live ks:List Nat):(St.mk (mkE d l) H).sel live ks=⟨mkE .top (live.map fun t=>(t,renT false (pos ks) (frzAt true H) (mkE d l t))),subHeap (pos ks) (frzAt true H) H ks⟩:=by
 simp only [St.sel,St.mk.injEq,and_true]
 funext t
 induction live with
 | nil=>simp [mkE]
 | cons k live ih =>
  simp only [List.map_cons,mkE]
  by_cases e:k=t
  ·
   subst e; simp
  ·
   rw [if_neg e,← ih]
   simp [Ne.symm e]
def againS (x:Cx) (nt:Nat) (I:Nat→St→Prop) (n:Nat) (st:St):Prop:=∃ n' st',n' < n∧Weak x nt st st'∧I n' st'
theorem loop_sel {b : LC} {Q : AE → St → Prop} (I : Nat → St → Prop) (n : Nat) (h0 : ∃ st', Weak x nt st st' ∧ I n st')
    (hstep:∀ n st,I n st→walk P x nt b (@thenB ⟨againS x nt I n⟩ Q) st):W P x nt (.loop b) Q st:=by
  refine W_loop (fun n st=>∃ st',Weak x nt st st'∧I n st') n h0 ?_
  rintro n st ⟨st',hw,hI⟩
  refine W_weaken hw ((W_walk (hstep n st' hI)).mono fun e st2 hq=>?_)
  cases e with
  | normal=>obtain ⟨n',st3,g2,g3,g4⟩:=hq; exact ⟨n',g2,st3,g3,g4⟩
  | exit id=>exact hq
  | ret=>exact hq
end
end Go.Proofs.YtfdolehffjmdmaaGreatDoor
/- Orders: contracts. -/
namespace Go.Proofs.YtfdolehffjmdmaaGreatDoor
set_option linter.unusedSimpArgs false
set_option linter.unusedVariables false
open Go.RowKit
structure SomeOk (l:List Entry) (ids:List Id):Prop where
 there:∀ x ∈ ids,0≤findE l x
 once:ids.Nodup
end Go.Proofs.YtfdolehffjmdmaaGreatDoor
/- order.Begun,Is,More,First: contracts. -/
namespace Go.Proofs.YtfdolehffjmdmaaGreatDoor
set_option linter.unusedSimpArgs false
set_option linter.unusedVariables false
open Go.RowKit
end Go.Proofs.YtfdolehffjmdmaaGreatDoor
/- Orders in the law text's words: contracts. -/
namespace Go.Proofs.YtfdolehffjmdmaaGreatDoor
set_option linter.unusedSimpArgs false
set_option linter.unusedVariables false
open Go.RowKit
theorem nthM {α:Type} [Inhabited α] {l:List α} {k:Nat} (h:k < l.length):nth l k ∈ l:=by rw [nth_eq _ _ h]; exact List.getElem_mem h
end Go.Proofs.YtfdolehffjmdmaaGreatDoor
/- All that comes,in the law text's words: a contract. -/
namespace Go.Proofs.YtfdolehffjmdmaaGreatDoor
set_option linter.unusedSimpArgs false
set_option linter.unusedVariables false
open Go.RowKit
end Go.Proofs.YtfdolehffjmdmaaGreatDoor
/- Sites: copies of one's own,those that wait and are ready: contracts. -/
namespace Go.Proofs.YtfdolehffjmdmaaGreatDoor
set_option linter.unusedSimpArgs false
set_option linter.unusedVariables false
open Go.RowKit
def cSi (r:Int) (lg ws:List Entry):List PV := [.int .i64 r,.list (lg.map cE),.list (ws.map cE)]
def fitE (l:List Entry):Prop:=∀ e ∈ l,(e.id.r=0∨e.id.r=1)∧e.ls.length≤1000000
theorem fit_reg {l:List Entry} (h:fitE l):okReg l:=fun e he=>(h e he).1
theorem insIdx_mapE {α β:Type} (f:α→β) (w:α):∀ (ws:List α) (i:Nat),(ws.map f).insertIdx i (f w)=(ws.insertIdx i w).map f
 | [],0=>rfl
 | [],_ + 1=>rfl
 | _ :: _,0=>rfl
 | y :: ws,i + 1=>by
  simp only [List.map_cons,List.insertIdx_succ_cons]
  rw [insIdx_mapE f w ws i]
theorem eraseIdx_mapE {α β:Type} (f:α→β):∀ (ws:List α) (i:Nat),(ws.map f).eraseIdx i=(ws.eraseIdx i).map f
 | [],_=>rfl
 | _ :: _,0=>rfl
 | y :: ws,i + 1=>by
  simp only [List.map_cons,List.eraseIdx_cons_succ]
  rw [eraseIdx_mapE f ws i]
theorem entOwn_meets (e:Entry) (hb:e.ls.length≤1000000):Meets Tryz.prog 113 [.agg (cE e)] [] (.agg (cE e)) []:=by
 refine Meets.of_walk Tryz.func113 Tryz.ntmps113 low113 res113 (by simp) fun x hx=>?_
 simp only [go_sem,L113,R113,cE]
 refine ops_call (.pureE (cloneI_meets e.ls (by omega)) (by simp [go_sem])) ?_
 simp only [go_sem,cE]
 refine ret_pure hx ?_
 simp [go_sem,L113,R113,cE]
theorem siEntries_meets (l:List Entry) (hl:l.length≤1000000) (hf:fitE l):Meets Tryz.prog 145 [.list (l.map cE)] [] (.arr 0 l.length) [.arr l.length true false 46 5 (l.map cE)]:=by
 refine Meets.of_walk Tryz.func145 Tryz.ntmps145 low145 res145 (by simp) fun x hx=>?_
 simp only [go_sem,L145,R145]
 refine W_weak (weak_own 3 0 46 5 true false rfl (by omega)) ?_
 rw [put_mk]
 refine loop_inv [3,6,7,8] 1 (fun m st=>∃ k:Nat,k + m=l.length ∧
  st=⟨mkE .top [(3,.arr 0 k),(6,.list (l.map cE)),(7,.int .i64 l.length),(8,.int .i64 k)],[.arr k true false 46 5 ((l.take k).map cE)]⟩) l.length (by simp [hx]) (by simp) ?_ ?_
 ·
  refine ⟨0,by omega,?_⟩
  simp [trim_mk,go_sem,subHeap,renObj,pos,List.range_succ]
 ·
  rintro m st ⟨k,hk,rfl⟩
  by_cases hlt:k < l.length
  ·
   have hg:l[k]? = some (nth l k):=nth_get? _ _ hlt
   have wk:=i64_up (k:=k) (by omega)
   simp only [go_sem,hlt,hg,cE]
   refine ops_call (.pureE (entOwn_meets (nth l k) (hf _ (nthM hlt)).2) (by simp [go_sem,cE])) ?_
   simp only [go_sem,cE]
   rw [app_arr rfl rfl (by simp) (by simp; omega)]
   simp only [go_sem,wk]
   have htk:l.take (k + 1)=l.take k ++ [nth l k]:=by rw [List.take_succ_eq_append_getElem hlt,nth_eq _ _ hlt]
   refine ⟨by simp,m - 1,by omega,k + 1,by omega,?_⟩
   simp [trim_mk,go_sem,subHeap,renObj,pos,List.range_succ,htk,cE]
  ·
   obtain rfl:k=l.length:=by omega
   rw [List.take_length]
   simp only [go_sem,hlt]
   refine ret_keep [0] (by simp) (by simp [hx]) (by simp [hx]) ?_ ?_
   ·
    simp [go_sem,L145,R145,hx,pos]
   ·
    simp [subHeap,renObj,hx,pos]
theorem siOwn_meets (r : Int) (lg ws : List Entry) (h1 : lg.length ≤ 1000000) (h2 : ws.length ≤ 1000000) (hf1 : fitE lg) (hf2 : fitE ws) : Meets Tryz.prog 111 [.agg (cSi r lg ws)] [] (.agg [.int .i64 r, .arr 0 lg.length, .arr 1 ws.length])
    [.arr lg.length true false 46 5 (lg.map cE),.arr ws.length true false 46 5 (ws.map cE)]:=by
  refine Meets.of_walk Tryz.func111 Tryz.ntmps111 low111 res111 (by simp) fun x hx=>?_
  simp only [go_sem,L111,R111,cSi]
  refine ops_call2 (r := .arr 2 lg.length) (siEntries_meets lg h1 hf1) rfl rfl (by simp [go_sem]) rfl ?_
  simp only [go_sem,cSi]
  refine ops_call2 (r := .arr 3 ws.length) (siEntries_meets ws h2 hf2) rfl rfl (by simp [go_sem]) rfl ?_
  simp only [go_sem,cSi]
  repeat refine ⟨rfl,?_⟩
  refine ret_keep [2,3] (by simp) (by simp [hx]) (by simp [hx]) ?_ ?_
  · simp [go_sem,L111,R111,hx,pos]
  · simp [subHeap,renObj,hx,pos,go_sem]
def hSi (a b:Nat) (r:Int) (lg ws:List Entry):List AObj := [.box [.int .i64 r,.arr 1 a,.arr 2 b],.arr a true false 46 5 (lg.map cE),.arr b true false 46 5 (ws.map cE)]
def rdyI (lg ws:List Entry):Int:=idxF (readyB lg) ws 0
def settleN:Nat→List Entry→List Entry→List Entry × List Entry
 | 0,lg,ws=>(lg,ws)
 | k + 1,lg,ws=>if 0≤rdyI lg ws then settleN k (lg ++ [nth ws (rdyI lg ws).toNat]) (ws.eraseIdx (rdyI lg ws).toNat) else (lg,ws)
def settled (lg ws:List Entry):List Entry × List Entry:=settleN ws.length lg ws
theorem rdyI_lt {lg ws:List Entry} (h:0≤rdyI lg ws):(rdyI lg ws).toNat < ws.length:=by
 have h2:∀ (l:List Entry) (k:Nat),(k:Int)≤idxF (readyB lg) l k→idxF (readyB lg) l k < (k + l.length:Nat):=by
  intro l
  induction l with
  | nil=>intro k hk; simp [idxF] at hk; omega
  | cons e l ih =>
   intro k hk
   rw [idxF] at hk ⊢
   split
   ·
    simp; omega
   ·
    rename_i h0
    rw [if_neg h0] at hk
    rcases idxF_ge (readyB lg) l (k + 1) with ⟨a,-⟩ | ⟨a,-⟩
    ·
     rw [a] at hk; omega
    ·
     have:=ih (k + 1) a
     simp only [List.length_cons]
     omega
 have:=h2 ws 0 (by simpa [rdyI] using h)
 simp only [Nat.zero_add] at this
 unfold rdyI at h ⊢
 omega
theorem settled_step {lg ws:List Entry} (h:0≤rdyI lg ws):settled lg ws=settled (lg ++ [nth ws (rdyI lg ws).toNat]) (ws.eraseIdx (rdyI lg ws).toNat):=by
 have hl:=rdyI_lt h
 unfold settled
 rw [List.length_eraseIdx,if_pos hl]
 obtain ⟨m,hm⟩:∃ m,ws.length=m + 1:=⟨ws.length - 1,by omega⟩
 rw [hm,settleN,if_pos h,Nat.add_sub_cancel]
theorem settled_end {lg ws:List Entry} (h:¬ 0≤rdyI lg ws):settled lg ws=(lg,ws):=by
 unfold settled
 cases hl:ws.length with
 | zero=>rfl
 | succ m=>rw [settleN,if_neg h]
theorem settleN_sum:∀ (k:Nat) (lg ws:List Entry),(settleN k lg ws).1.length + (settleN k lg ws).2.length=lg.length + ws.length∧(settleN k lg ws).2.length≤ws.length
 | 0,lg,ws=>⟨rfl,Nat.le_refl _⟩
 | k + 1,lg,ws=>by
  rw [settleN]
  split
  ·
   rename_i h
   have hl:=rdyI_lt h
   obtain ⟨a,b⟩:=settleN_sum k (lg ++ [nth ws (rdyI lg ws).toNat]) (ws.eraseIdx (rdyI lg ws).toNat)
   rw [List.length_eraseIdx,if_pos hl] at a b
   simp only [List.length_append,List.length_cons,List.length_nil] at a
   omega
  ·
   exact ⟨rfl,Nat.le_refl _⟩
theorem settled_sum (lg ws:List Entry):(settled lg ws).1.length + (settled lg ws).2.length=lg.length + ws.length∧(settled lg ws).2.length≤ws.length:=settleN_sum _ _ _
theorem fit_app {lg:List Entry} {e:Entry} (h:fitE lg) (he:(e.id.r=0∨e.id.r=1)∧e.ls.length≤1000000):fitE (lg ++ [e]):=fun x hx=>by
 rcases List.mem_append.1 hx with h1 | h1
 ·
  exact h x h1
 ·
  simp at h1; subst h1; exact he
theorem fit_erase {ws:List Entry} (h:fitE ws) (i:Nat):fitE (ws.eraseIdx i):=fun x hx=>h x (List.mem_of_mem_eraseIdx hx)
theorem end_keep {x : Cx} {nt : Nat} {lrs : List LRes} {r : PV} {Hs' : List AObj} {st : St} (keep : List Nat) (hnd : keep.Nodup) (hlt : ∀ k ∈ keep, x.H0.length ≤ k ∧ k < st.heap.length) (hle : x.H0.length ≤ st.heap.length)
    (h:(evalRes st lrs).map (fun ps=>renT true (pos (List.range x.H0.length ++ keep)) (frzAt true st.heap) (tupOf ps))=some r)
    (h2:subHeap (pos (List.range x.H0.length ++ keep)) (frzAt true st.heap) st.heap (List.range x.H0.length ++ keep)=Hs'):retQ x nt lrs r Hs' .normal st:=by
  obtain ⟨ps,g1,g2⟩:=Option.map_eq_some_iff.1 h
  exact ⟨st,keep,Weak.refl _ _ _,ps,g1,hnd,hlt,hle,g2.symm,h2.symm⟩
theorem settle1_meets (r:Int) (lg ws:List Entry) (e:Entry) (hl:lg.length≤1000000) (hf:fitE lg) (he:e.id.r=0∨e.id.r=1) (hls:e.ls.length≤1000000):Meets Tryz.prog 146 [.agg (cE e),.rptr [.rptr (cSi r lg ws)]] [] (.bool (readyB lg e)) []:=by
 refine Meets.of_walk Tryz.func146 Tryz.ntmps146 low146 res146 (by simp) fun x hx=>?_
 simp only [go_sem,L146,R146,cE,cSi]
 refine ops_call (.pureE (ready_meets lg e (fit_reg hf) (by omega) he (by omega)) (by simp [go_sem,cE])) ?_
 simp only [go_sem]
 repeat refine ⟨rfl,?_⟩
 refine end_pure hx ?_
 simp [go_sem,L146,R146]
theorem rdyI_meets (r : Int) (lg ws : List Entry) (hl : lg.length ≤ 1000000) (hw : ws.length ≤ 1000000) (hf : fitE lg) (hf2 : fitE ws) :
    Meets Tryz.prog 105 [.list (ws.map cE),.clo 146 [.rptr [.rptr (cSi r lg ws)]]] [] (.int .i64 (rdyI lg ws)) [] :=
  indexE_meets ws 146 [.rptr [.rptr (cSi r lg ws)]] [] (readyB lg) (by kernel_rfl) (by omega) ⟨by simp [renLeaf],by simp [ren,renCell,renLeaf],by simp [subHeap],by simp [merge],by simp [subHeap]⟩
    fun e he=>settle1_meets r lg ws e hl hf (hf2 e he).1 (hf2 e he).2
set_option maxHeartbeats 2000000 in
theorem settle_meets (a b : Nat) (r : Int) (lg ws : List Entry) (h1 : lg.length + ws.length ≤ 1000000) (hf1 : fitE lg) (hf2 : fitE ws) :
    Meets Tryz.prog 112 [.ptr 0 0] (hSi a b r lg ws) (.tup []) (hSi (a + (ws.length - (settled lg ws).2.length)) (b + (ws.length - (settled lg ws).2.length)) r (settled lg ws).1 (settled lg ws).2):=by
  refine Meets.of_walk Tryz.func112 Tryz.ntmps112 low112 res112 (by simp) fun x hx=>?_
  simp only [go_sem,L112,R112,hSi]
  refine ops_call (.lookE (rdyI_meets r lg ws (by omega) (by omega) hf1 hf2) rfl (by simp [lookF,lookN,go_sem,frzAt,pos,cSi])) ?_
  simp only [go_sem]
  refine loop_inv [1,2,3] 4 (fun m st=>∃ (k:Nat) (us vs:List Entry),vs.length=m∧m + k=ws.length∧us.length=lg.length + k∧fitE us∧fitE vs∧settled us vs=settled lg ws ∧
    st=⟨mkE .top [(1,.ptr 3 0),(2,.clo 146 [.ptr 3 0]),(3,.int .i64 (rdyI us vs))],hSi (a + k) (b + k) r us vs ++ [.box [.ptr 0 0]]⟩) ws.length (by simp [hx,hSi]) (by simp) ?_ ?_
  · refine ⟨0,lg,ws,rfl,rfl,rfl,hf1,hf2,rfl,?_⟩
    simp [trim_mk,go_sem,subHeap,renObj,renCell,renLeaf,pos,List.range_succ,hSi]
  · rintro m st ⟨k,us,vs,hm,hmk,hul,hfu,hfv,hse,rfl⟩
    by_cases hf:0≤rdyI us vs
    · have hql:=rdyI_lt hf
      rw [settled_step hf] at hse
      obtain ⟨q,hq⟩:∃ q:Nat,rdyI us vs=q:=⟨(rdyI us vs).toNat,by omega⟩
      rw [hq,Int.toNat_natCast] at hql hse
      have hgq:vs[q]? = some (nth vs q):=nth_get? _ _ hql
      have wq:=i64_up (k:=q) (by omega)
      have hfe:=hfv _ (nthM hql)
      simp only [go_sem,hSi,hq,hql,hgq,cE]
      rw [app_arr rfl rfl (by simp) (by simp; omega)]
      have hce:List.map cE us ++ [[PV.int .i64 (nth vs q).id.r,.int .i64 (nth vs q).id.n,.int .i64 (nth vs q).c,.str (nth vs q).t,.list ((nth vs q).ls.map cId)]]=(us ++ [nth vs q]).map cE:=by simp [cE]
      simp only [go_sem,hce]
      repeat refine ⟨rfl,?_⟩
      simp only [go_sem,wq]
      refine ops_call1 2 (delE_meets (vs.map cE) (b + k) 46 q (by simpa using hql)) rfl rfl rfl rfl (by simp [go_sem]) (by simp [go_sem,pos]) rfl ?_
      rw [eraseIdx_mapE]
      have hle:(vs.eraseIdx q).length=vs.length - 1:=by rw [List.length_eraseIdx,if_pos hql]
      simp only [go_sem]
      repeat refine ⟨rfl,?_⟩
      refine ops_call (.lookE (rdyI_meets r (us ++ [nth vs q]) (vs.eraseIdx q) (by simp; omega) (by omega) (fit_app hfu hfe) (fit_erase hfv q)) rfl (by simp [lookF,lookN,go_sem,frzAt,pos,cSi])) ?_
      simp only [go_sem]
      refine ⟨by simp,m - 1,by omega,k + 1,us ++ [nth vs q],vs.eraseIdx q,by omega,by omega,by simp; omega,fit_app hfu hfe,fit_erase hfv q,hse,?_⟩
      simp [trim_mk,go_sem,subHeap,renObj,renCell,renLeaf,pos,List.range_succ,hSi,Nat.add_assoc]
    · rw [settled_end hf] at hse
      rw [← hse]
      have hk1:ws.length - vs.length=k:=by omega
      simp only [go_sem,hSi,hf,hk1]
      refine end_keep [] (by simp) (by simp) (by simp [hx,hSi]) ?_ ?_
      · simp [go_sem,L112,R112,hx,pos,hSi]
      · simp [subHeap,renObj,hx,pos,go_sem,hSi,List.range_succ]
end Go.Proofs.YtfdolehffjmdmaaGreatDoor
/- Sites: New,Check: contracts. -/
namespace Go.Proofs.YtfdolehffjmdmaaGreatDoor
set_option linter.unusedSimpArgs false
set_option linter.unusedVariables false
open Go.RowKit
def siBad (r:Int) (lg ws:List Entry) (k:Nat):Bool:=(decide (0 < k) && !lessB (nth ws (k - 1)).id (nth ws k).id) || decide ((nth ws k).id.r=r) || decide (0≤findE lg (nth ws k).id) || readyB lg (nth ws k)
def siWait (r:Int) (lg ws:List Entry) (k:Nat):Int:=if checkEntry (nth ws k)≠0 then checkEntry (nth ws k) else if siBad r lg ws k=true then 4 else 0
def siErr (r:Int) (lg ws:List Entry):Int:=if ¬ (r=0∨r=1) then 3 else if checkLog lg≠0 then checkLog lg else if 20 < ws.length then 2 else firstNZ (siWait r lg ws) ws.length
theorem siErr_ok {r:Int} {lg ws:List Entry} (h:siErr r lg ws=0):(r=0∨r=1)∧LogOk lg∧ws.length≤20∧∀ k,k < ws.length→checkEntry (nth ws k)=0∧siBad r lg ws k=false:=by
 unfold siErr at h
 split at h
 ·
  cases h
 ·
  rename_i h1
  split at h
  ·
   rename_i h2; exact (h2 h).elim
  ·
   rename_i h2
   split at h
   ·
    cases h
   ·
    rename_i h3
    refine ⟨by omega,log_ok.1 (by simpa using h2),by omega,fun k hk=>?_⟩
    have:=firstNZ_zero.1 h k hk
    unfold siWait at this
    split at this
    ·
     rename_i h4; exact (h4 this).elim
    ·
     rename_i h4
     split at this
     ·
      cases this
     ·
      rename_i h5
      exact ⟨by simpa using h4,by simpa using h5⟩
theorem check_fit {e:Entry} (h:checkEntry e=0):(e.id.r=0∨e.id.r=1)∧e.ls.length≤1000000:=by
 have:=(check_ok_bounds h).2.2.2.1
 exact ⟨reg_of_check h,by omega⟩
theorem log_fit {lg:List Entry} (h:LogOk lg):fitE lg:=fun e he=>by
 obtain ⟨k,hk,rfl⟩:=List.getElem_of_mem he
 rw [← nth_eq _ _ hk]
 exact check_fit (h.chk k hk)
theorem waits_fit {ws:List Entry} (h:∀ k,k < ws.length→checkEntry (nth ws k)=0):fitE ws:=fun e he=>by
 obtain ⟨k,hk,rfl⟩:=List.getElem_of_mem he
 rw [← nth_eq _ _ hk]
 exact check_fit (h k hk)
set_option maxHeartbeats 4000000 in
theorem siCheck_meets (r:Int) (lg ws:List Entry) (hl:lg.length≤9223372036854775806) (hw:ws.length≤9223372036854775806):Meets Tryz.prog 65 [.agg (cSi r lg ws)] [] (.int .i64 (siErr r lg ws)) []:=by
 refine Meets.of_walk Tryz.func65 Tryz.ntmps65 low65 res65 (by simp) fun x hx=>?_
 simp only [go_sem,L65,R65,cSi]
 by_cases h0:r=0
 ·
  have hr:r=0∨r=1 := .inl h0
  have hd0:decide (r=0)=true:=by simp [h0]
  have hd1:True:=trivial
  clear h0
  simp only [go_sem,hd0,hd1,cSi]
  refine ops_call (.pureE (dagCheck_meets lg hl) (by simp [go_sem])) ?_
  by_cases hlog:checkLog lg=0
  ·
   have hok:=log_ok.1 hlog
   have hlen:=hok.len
   by_cases h20:(20:Int) < (ws.length:Int)
   ·
    have e:siErr r lg ws=2:=by rw [siErr,if_neg (by simp [hr]),if_neg (by simp [hlog]),if_pos (by omega)]
    simp only [go_sem,hlog,h20,cSi]
    refine ret_pure hx ?_
    simp [go_sem,L65,R65,e]
   ·
    have e:siErr r lg ws=firstNZ (siWait r lg ws) ws.length:=by rw [siErr,if_neg (by simp [hr]),if_neg (by simp [hlog]),if_neg (by omega)]
    simp only [go_sem,hlog,h20,cSi,e]
    refine loop_inv [1,26,27,28] 1 (fun m st=>∃ k:Nat,k + m=ws.length∧firstNZ (siWait r lg ws) k=0 ∧
     st=⟨mkE .top [(1,.ptr 0 0),(26,.list (ws.map cE)),(27,.int .i64 ws.length),(28,.int .i64 k)],[.box (cSi r lg ws)]⟩) ws.length (by simp [hx]) (by simp) ?_ ?_
    ·
     refine ⟨0,by omega,rfl,?_⟩
     simp [trim_mk,go_sem,subHeap,renObj,pos,List.range_succ,cSi]
    ·
     rintro m st ⟨k,hk,hz,rfl⟩
     by_cases hlt:k < ws.length
     ·
      have hg:ws[k]? = some (nth ws k):=nth_get? _ _ hlt
      have wk:=i64_up (k:=k) (by omega)
      have fin:∀ q:Int,siWait r lg ws k=q→q≠0→firstNZ (siWait r lg ws) ws.length=q:=fun q h1 h2=>by rw [firstNZ_hit hz (by rw [h1]; exact h2) hlt,h1]
      simp only [go_sem,hlt,hg,cE,cSi]
      refine ops_call (.pureE (check_meets (nth ws k)) (by simp [go_sem,cE])) ?_
      by_cases h1:checkEntry (nth ws k)=0
      ·
       have hfit:=check_fit h1
       have hw1:siWait r lg ws k=if siBad r lg ws k=true then 4 else 0:=by rw [siWait,if_neg (by simp [h1])]
       simp only [go_sem,h1,cE,cSi]
       by_cases hk0:(0:Int) < (k:Int)
       ·
        obtain ⟨k',rfl⟩:∃ k',k=k' + 1:=⟨k - 1,by omega⟩
        have hwd:IntKind.i64.wrap (((k' + 1:Nat):Int) - 1)=(k':Int):=by rw [IntKind.wrap_i64]; omega
        have hkl:k' < ws.length:=by omega
        have hg':ws[k']? = some (nth ws k'):=nth_get? _ _ hkl
        simp only [go_sem,hk0,hwd,hkl,hg',cE,cSi]
        refine ops_call (.pureE (less_meets (nth ws k').id (nth ws (k' + 1)).id) (by simp [go_sem,cId])) ?_
        cases hle:lessB (nth ws k').id (nth ws (k' + 1)).id
        ·
         have hw2:siWait r lg ws (k' + 1)=4:=by rw [hw1,if_pos (by simp [siBad,hle])]
         simp only [go_sem]
         repeat refine ⟨rfl,?_⟩
         refine ret_pure hx ?_
         simp [go_sem,L65,R65,fin 4 hw2 (by decide)]
        ·
         have hb1:(decide (0 < k' + 1) && !lessB (nth ws (k' + 1 - 1)).id (nth ws (k' + 1)).id)=false:=by simp [hle]
         cases hd2:decide ((nth ws (k' + 1)).id.r=r)
         ·
          simp only [go_sem,hd2,cE,cSi]
          refine ops_call (.pureE (find_meets lg (nth ws (k' + 1)).id hl) (by simp [go_sem,cId])) ?_
          by_cases h3:0≤findE lg (nth ws (k' + 1)).id
          ·
           have hw2:siWait r lg ws (k' + 1)=4:=by rw [hw1,if_pos (by simp [siBad,h3])]
           simp only [go_sem,h3]
           repeat refine ⟨rfl,?_⟩
           refine ret_pure hx ?_
           simp [go_sem,L65,R65,fin 4 hw2 (by decide)]
          ·
           simp only [go_sem,h3,cE,cSi]
           refine ops_call (.pureE (ready_meets lg (nth ws (k' + 1)) hok.reg (by omega) hfit.1 (by have:=hfit.2; omega)) (by simp [go_sem,cE])) ?_
           cases h4:readyB lg (nth ws (k' + 1))
           ·
            have hw2:siWait r lg ws (k' + 1)=0:=by rw [hw1,if_neg (by rw [siBad,hb1,hd2,h4]; simp [h3])]
            simp only [go_sem,wk]
            repeat refine ⟨rfl,?_⟩
            refine ⟨by simp,m - 1,by omega,k' + 1 + 1,by omega,firstNZ_succ hz hw2,?_⟩
            simp [trim_mk,go_sem,subHeap,renObj,pos,List.range_succ,cSi]
           ·
            have hw2:siWait r lg ws (k' + 1)=4:=by rw [hw1,if_pos (by simp [siBad,h4])]
            simp only [go_sem]
            repeat refine ⟨rfl,?_⟩
            refine ret_pure hx ?_
            simp [go_sem,L65,R65,fin 4 hw2 (by decide)]
         ·
          have hw2:siWait r lg ws (k' + 1)=4:=by rw [hw1,if_pos (by simp [siBad,hd2])]
          simp only [go_sem,hd2]
          repeat refine ⟨rfl,?_⟩
          refine ret_pure hx ?_
          simp [go_sem,L65,R65,fin 4 hw2 (by decide)]
       ·
        have hkz:k=0:=by omega
        have hb1:(decide (0 < k) && !lessB (nth ws (k - 1)).id (nth ws k).id)=false:=by simp [hkz]
        simp only [go_sem,hk0,cE,cSi]
        cases hd2:decide ((nth ws (k)).id.r=r)
        ·
         simp only [go_sem,hd2,cE,cSi]
         refine ops_call (.pureE (find_meets lg (nth ws (k)).id hl) (by simp [go_sem,cId])) ?_
         by_cases h3:0≤findE lg (nth ws (k)).id
         ·
          have hw2:siWait r lg ws (k)=4:=by rw [hw1,if_pos (by simp [siBad,h3])]
          simp only [go_sem,h3]
          repeat refine ⟨rfl,?_⟩
          refine ret_pure hx ?_
          simp [go_sem,L65,R65,fin 4 hw2 (by decide)]
         ·
          simp only [go_sem,h3,cE,cSi]
          refine ops_call (.pureE (ready_meets lg (nth ws (k)) hok.reg (by omega) hfit.1 (by have:=hfit.2; omega)) (by simp [go_sem,cE])) ?_
          cases h4:readyB lg (nth ws (k))
          ·
           have hw2:siWait r lg ws (k)=0:=by rw [hw1,if_neg (by rw [siBad,hb1,hd2,h4]; simp [h3])]
           simp only [go_sem,wk]
           repeat refine ⟨rfl,?_⟩
           refine ⟨by simp,m - 1,by omega,k + 1,by omega,firstNZ_succ hz hw2,?_⟩
           simp [trim_mk,go_sem,subHeap,renObj,pos,List.range_succ,cSi]
          ·
           have hw2:siWait r lg ws (k)=4:=by rw [hw1,if_pos (by simp [siBad,h4])]
           simp only [go_sem]
           repeat refine ⟨rfl,?_⟩
           refine ret_pure hx ?_
           simp [go_sem,L65,R65,fin 4 hw2 (by decide)]
        ·
         have hw2:siWait r lg ws (k)=4:=by rw [hw1,if_pos (by simp [siBad,hd2])]
         simp only [go_sem,hd2]
         repeat refine ⟨rfl,?_⟩
         refine ret_pure hx ?_
         simp [go_sem,L65,R65,fin 4 hw2 (by decide)]
      ·
       have hw1:siWait r lg ws k=checkEntry (nth ws k):=by rw [siWait,if_pos h1]
       simp only [go_sem,h1,cE,cSi]
       refine ret_pure hx ?_
       simp [go_sem,L65,R65,fin _ hw1 h1]
     ·
      obtain rfl:k=ws.length:=by omega
      simp only [go_sem,hlt]
      refine ret_pure hx ?_
      simp [go_sem,L65,R65,hz]
  ·
   have e:siErr r lg ws=checkLog lg:=by rw [siErr,if_neg (by simp [hr]),if_pos hlog]
   simp only [go_sem,hlog]
   refine ret_pure hx ?_
   simp [go_sem,L65,R65,e]
 ·
  have hd0:decide (r=0)=false:=by simp [h0]
  by_cases h1:r=1
  ·
   have hr:r=0∨r=1 := .inr h1
   have hd1:decide (r=1)=true:=by simp [h1]
   clear h0 h1
   simp only [go_sem,hd0,hd1,cSi]
   refine ops_call (.pureE (dagCheck_meets lg hl) (by simp [go_sem])) ?_
   by_cases hlog:checkLog lg=0
   ·
    have hok:=log_ok.1 hlog
    have hlen:=hok.len
    by_cases h20:(20:Int) < (ws.length:Int)
    ·
     have e:siErr r lg ws=2:=by rw [siErr,if_neg (by simp [hr]),if_neg (by simp [hlog]),if_pos (by omega)]
     simp only [go_sem,hlog,h20,cSi]
     refine ret_pure hx ?_
     simp [go_sem,L65,R65,e]
    ·
     have e:siErr r lg ws=firstNZ (siWait r lg ws) ws.length:=by rw [siErr,if_neg (by simp [hr]),if_neg (by simp [hlog]),if_neg (by omega)]
     simp only [go_sem,hlog,h20,cSi,e]
     refine loop_inv [1,26,27,28] 1 (fun m st=>∃ k:Nat,k + m=ws.length∧firstNZ (siWait r lg ws) k=0 ∧
      st=⟨mkE .top [(1,.ptr 0 0),(26,.list (ws.map cE)),(27,.int .i64 ws.length),(28,.int .i64 k)],[.box (cSi r lg ws)]⟩) ws.length (by simp [hx]) (by simp) ?_ ?_
     ·
      refine ⟨0,by omega,rfl,?_⟩
      simp [trim_mk,go_sem,subHeap,renObj,pos,List.range_succ,cSi]
     ·
      rintro m st ⟨k,hk,hz,rfl⟩
      by_cases hlt:k < ws.length
      ·
       have hg:ws[k]? = some (nth ws k):=nth_get? _ _ hlt
       have wk:=i64_up (k:=k) (by omega)
       have fin:∀ q:Int,siWait r lg ws k=q→q≠0→firstNZ (siWait r lg ws) ws.length=q:=fun q h1 h2=>by rw [firstNZ_hit hz (by rw [h1]; exact h2) hlt,h1]
       simp only [go_sem,hlt,hg,cE,cSi]
       refine ops_call (.pureE (check_meets (nth ws k)) (by simp [go_sem,cE])) ?_
       by_cases h1:checkEntry (nth ws k)=0
       ·
        have hfit:=check_fit h1
        have hw1:siWait r lg ws k=if siBad r lg ws k=true then 4 else 0:=by rw [siWait,if_neg (by simp [h1])]
        simp only [go_sem,h1,cE,cSi]
        by_cases hk0:(0:Int) < (k:Int)
        ·
         obtain ⟨k',rfl⟩:∃ k',k=k' + 1:=⟨k - 1,by omega⟩
         have hwd:IntKind.i64.wrap (((k' + 1:Nat):Int) - 1)=(k':Int):=by rw [IntKind.wrap_i64]; omega
         have hkl:k' < ws.length:=by omega
         have hg':ws[k']? = some (nth ws k'):=nth_get? _ _ hkl
         simp only [go_sem,hk0,hwd,hkl,hg',cE,cSi]
         refine ops_call (.pureE (less_meets (nth ws k').id (nth ws (k' + 1)).id) (by simp [go_sem,cId])) ?_
         cases hle:lessB (nth ws k').id (nth ws (k' + 1)).id
         ·
          have hw2:siWait r lg ws (k' + 1)=4:=by rw [hw1,if_pos (by simp [siBad,hle])]
          simp only [go_sem]
          repeat refine ⟨rfl,?_⟩
          refine ret_pure hx ?_
          simp [go_sem,L65,R65,fin 4 hw2 (by decide)]
         ·
          have hb1:(decide (0 < k' + 1) && !lessB (nth ws (k' + 1 - 1)).id (nth ws (k' + 1)).id)=false:=by simp [hle]
          cases hd2:decide ((nth ws (k' + 1)).id.r=r)
          ·
           simp only [go_sem,hd2,cE,cSi]
           refine ops_call (.pureE (find_meets lg (nth ws (k' + 1)).id hl) (by simp [go_sem,cId])) ?_
           by_cases h3:0≤findE lg (nth ws (k' + 1)).id
           ·
            have hw2:siWait r lg ws (k' + 1)=4:=by rw [hw1,if_pos (by simp [siBad,h3])]
            simp only [go_sem,h3]
            repeat refine ⟨rfl,?_⟩
            refine ret_pure hx ?_
            simp [go_sem,L65,R65,fin 4 hw2 (by decide)]
           ·
            simp only [go_sem,h3,cE,cSi]
            refine ops_call (.pureE (ready_meets lg (nth ws (k' + 1)) hok.reg (by omega) hfit.1 (by have:=hfit.2; omega)) (by simp [go_sem,cE])) ?_
            cases h4:readyB lg (nth ws (k' + 1))
            ·
             have hw2:siWait r lg ws (k' + 1)=0:=by rw [hw1,if_neg (by rw [siBad,hb1,hd2,h4]; simp [h3])]
             simp only [go_sem,wk]
             repeat refine ⟨rfl,?_⟩
             refine ⟨by simp,m - 1,by omega,k' + 1 + 1,by omega,firstNZ_succ hz hw2,?_⟩
             simp [trim_mk,go_sem,subHeap,renObj,pos,List.range_succ,cSi]
            ·
             have hw2:siWait r lg ws (k' + 1)=4:=by rw [hw1,if_pos (by simp [siBad,h4])]
             simp only [go_sem]
             repeat refine ⟨rfl,?_⟩
             refine ret_pure hx ?_
             simp [go_sem,L65,R65,fin 4 hw2 (by decide)]
          ·
           have hw2:siWait r lg ws (k' + 1)=4:=by rw [hw1,if_pos (by simp [siBad,hd2])]
           simp only [go_sem,hd2]
           repeat refine ⟨rfl,?_⟩
           refine ret_pure hx ?_
           simp [go_sem,L65,R65,fin 4 hw2 (by decide)]
        ·
         have hkz:k=0:=by omega
         have hb1:(decide (0 < k) && !lessB (nth ws (k - 1)).id (nth ws k).id)=false:=by simp [hkz]
         simp only [go_sem,hk0,cE,cSi]
         cases hd2:decide ((nth ws (k)).id.r=r)
         ·
          simp only [go_sem,hd2,cE,cSi]
          refine ops_call (.pureE (find_meets lg (nth ws (k)).id hl) (by simp [go_sem,cId])) ?_
          by_cases h3:0≤findE lg (nth ws (k)).id
          ·
           have hw2:siWait r lg ws (k)=4:=by rw [hw1,if_pos (by simp [siBad,h3])]
           simp only [go_sem,h3]
           repeat refine ⟨rfl,?_⟩
           refine ret_pure hx ?_
           simp [go_sem,L65,R65,fin 4 hw2 (by decide)]
          ·
           simp only [go_sem,h3,cE,cSi]
           refine ops_call (.pureE (ready_meets lg (nth ws (k)) hok.reg (by omega) hfit.1 (by have:=hfit.2; omega)) (by simp [go_sem,cE])) ?_
           cases h4:readyB lg (nth ws (k))
           ·
            have hw2:siWait r lg ws (k)=0:=by rw [hw1,if_neg (by rw [siBad,hb1,hd2,h4]; simp [h3])]
            simp only [go_sem,wk]
            repeat refine ⟨rfl,?_⟩
            refine ⟨by simp,m - 1,by omega,k + 1,by omega,firstNZ_succ hz hw2,?_⟩
            simp [trim_mk,go_sem,subHeap,renObj,pos,List.range_succ,cSi]
           ·
            have hw2:siWait r lg ws (k)=4:=by rw [hw1,if_pos (by simp [siBad,h4])]
            simp only [go_sem]
            repeat refine ⟨rfl,?_⟩
            refine ret_pure hx ?_
            simp [go_sem,L65,R65,fin 4 hw2 (by decide)]
         ·
          have hw2:siWait r lg ws (k)=4:=by rw [hw1,if_pos (by simp [siBad,hd2])]
          simp only [go_sem,hd2]
          repeat refine ⟨rfl,?_⟩
          refine ret_pure hx ?_
          simp [go_sem,L65,R65,fin 4 hw2 (by decide)]
       ·
        have hw1:siWait r lg ws k=checkEntry (nth ws k):=by rw [siWait,if_pos h1]
        simp only [go_sem,h1,cE,cSi]
        refine ret_pure hx ?_
        simp [go_sem,L65,R65,fin _ hw1 h1]
      ·
       obtain rfl:k=ws.length:=by omega
       simp only [go_sem,hlt]
       refine ret_pure hx ?_
       simp [go_sem,L65,R65,hz]
   ·
    have e:siErr r lg ws=checkLog lg:=by rw [siErr,if_neg (by simp [hr]),if_pos hlog]
    simp only [go_sem,hlog]
    refine ret_pure hx ?_
    simp [go_sem,L65,R65,e]
  ·
   have hd1:decide (r=1)=false:=by simp [h1]
   have e:siErr r lg ws=3:=by rw [siErr,if_pos (by omega)]
   simp only [go_sem,hd0,hd1,cSi]
   refine ret_pure hx ?_
   simp [go_sem,L65,R65,e]
end Go.Proofs.YtfdolehffjmdmaaGreatDoor
/- Sites: Append: contracts. -/
namespace Go.Proofs.YtfdolehffjmdmaaGreatDoor
set_option linter.unusedSimpArgs false
set_option linter.unusedVariables false
open Go.RowKit
def apE (r:Int) (lg:List Entry) (c:Int) (t:ByteArray):Entry:=⟨⟨r,(cntR lg r:Int) + 1⟩,c,t,sortI (headsC lg c)⟩
def zE:Entry:=⟨⟨0,0⟩,0,⟨#[]⟩,[]⟩
def apErr (r:Int) (lg:List Entry) (c:Int) (t:ByteArray):Int :=
 if wthn c 1 7=false then 3 else if 12 < t.size∨(20:Int) < (cntR lg r:Int) + 1∨lg.length=40∨6 < (sortI (headsC lg c)).length then 2 else 0
def apSi (r:Int) (lg ws:List Entry) (c:Int) (t:ByteArray):Int × List Entry × List Entry:=if apErr r lg c t=0 then (r,settled (lg ++ [apE r lg c t]) ws) else (0,[],[])
def apEn (r:Int) (lg:List Entry) (c:Int) (t:ByteArray):Entry:=if apErr r lg c t=0 then apE r lg c t else zE
def cSi3 (s:Int × List Entry × List Entry):List PV:=cSi s.1 s.2.1 s.2.2
theorem headsC_len (lg:List Entry) (c:Int):(sortI (headsC lg c)).length≤lg.length:=by
 unfold sortI headsC
 rw [List.length_mergeSort,List.length_map]
 refine Nat.le_trans (List.length_filter_le ..) ?_
 unfold withC
 exact List.length_filter_le ..
theorem ap_fit {r:Int} {lg:List Entry} {c:Int} {t:ByteArray} (hr:r=0∨r=1) (h:lg.length≤40):((apE r lg c t).id.r=0∨(apE r lg c t).id.r=1)∧(apE r lg c t).ls.length≤1000000:=by
 have:=headsC_len lg c
 exact ⟨hr,by show (sortI (headsC lg c)).length≤_; omega⟩
set_option maxHeartbeats 4000000 in
theorem appended_meets (r : Int) (lg ws : List Entry) (c : Int) (t : ByteArray) (hr : r = 0 ∨ r = 1) (h : LogOk lg) (hw : ws.length ≤ 20) (hf : fitE ws) :
    Meets Tryz.prog 66 [.agg (cSi r lg ws),.int .i64 c,.str t] [] (.tup [.agg (cSi3 (apSi r lg ws c t)),.agg (cE (apEn r lg c t)),.int .i64 (apErr r lg c t)]) []:=by
  have hlen:=h.len
  refine Meets.of_walk Tryz.func66 Tryz.ntmps66 low66 res66 (by simp) fun x hx=>?_
  simp only [go_sem,L66,R66,cSi]
  refine ops_call (.pureE (colors_meets c) (by simp [go_sem])) ?_
  cases hc:wthn c 1 7
  · have e:apErr r lg c t=3:=by rw [apErr,if_pos hc]
    simp only [go_sem]
    refine ret_pure hx ?_
    simp [go_sem,L66,R66,apSi,apEn,e,cSi3,cSi,cE,zE]
  · have e0:apErr r lg c t=if 12 < t.size∨(20:Int) < (cntR lg r:Int) + 1∨lg.length=40∨6 < (sortI (headsC lg c)).length then 2 else 0:=by rw [apErr,if_neg (by simp [hc])]
    rcases hr with rfl | rfl
    · skip
      have hcn:IntKind.i64.wrap ((cntR lg 0:Int) + 1)=(cntR lg 0:Int) + 1:=by have:=cntR_le lg 0; rw [IntWalk.i64_in _ (by omega)]
      simp only [go_sem,cSi]
      refine ops_call (.pureE (many_meets lg h.reg (by omega)) (by simp [go_sem])) ?_
      simp only [go_sem,cSi,intS,Int.reduceLT,Int.reduceLE,Int.reduceToNat,Int.reduceAdd,frz,hcn]
      repeat refine ⟨rfl,?_⟩
      refine ops_call (.pureE (top_meets lg c h hc) (by simp [go_sem])) ?_
      simp only [go_sem,cSi]
      repeat refine ⟨rfl,?_⟩
      by_cases d1:(12:Int) < (t.size:Int)
      · have e:apErr 0 lg c t=2:=by rw [e0,if_pos (by omega)]
        simp only [go_sem,d1]
        refine ret_pure hx ?_
        simp [go_sem,L66,R66,apSi,apEn,e,cSi3,cSi,cE,zE]
      · by_cases d2:(20:Int) < (cntR lg 0:Int) + 1
        · have e:apErr 0 lg c t=2:=by rw [e0,if_pos (by omega)]
          simp only [go_sem,d1,d2]
          refine ret_pure hx ?_
          simp [go_sem,L66,R66,apSi,apEn,e,cSi3,cSi,cE,zE]
        · by_cases d3:(lg.length:Int)=40
          · have e:apErr 0 lg c t=2:=by rw [e0,if_pos (by omega)]
            simp only [go_sem,d1,d2,d3,cSi]
            refine ret_pure hx ?_
            simp [go_sem,L66,R66,apSi,apEn,e,cSi3,cSi,cE,zE]
          · by_cases d4:(6:Int) < ((sortI (headsC lg c)).length:Int)
            · have e:apErr 0 lg c t=2:=by rw [e0,if_pos (by omega)]
              simp only [go_sem,d1,d2,d3,d4,cSi]
              refine ret_pure hx ?_
              simp [go_sem,L66,R66,apSi,apEn,e,cSi3,cSi,cE,zE]
            · have e:apErr 0 lg c t=0:=by rw [e0,if_neg (by omega)]
              have hfl:=log_fit h
              have hae:fitE (lg ++ [apE 0 lg c t]):=fit_app hfl (ap_fit (by decide) hlen)
              have hsl:=settled_sum (lg ++ [apE 0 lg c t]) ws
              rw [List.length_append,List.length_cons,List.length_nil] at hsl
              simp only [go_sem,d1,d2,d3,d4,cSi]
              refine ops_call (.heapE [] (r' := .agg [.int .i64 0,.arr 4 lg.length,.arr 5 ws.length]) (H' := [.box (cSi 0 lg ws),.box [.int .i64 0,.nilsl,.nilsl],.box [.int .i64 0,.int .i64 0,.int .i64 0,.str ⟨#[]⟩,.nilsl],.box (cE (apE 0 lg c t)),.arr lg.length true false 46 5 (lg.map cE),.arr ws.length true false 46 5 (ws.map cE)]) (siOwn_meets 0 lg ws (by omega) (by omega) hfl hf) (by simp) (by simp) (by simp [go_sem,cSi]) rfl rfl rfl) ?_
              simp only [go_sem,cSi,cE]
              rw [app_arr rfl rfl (by simp) (by simp; omega)]
              have hce:List.map cE lg ++ [[PV.int .i64 (apE 0 lg c t).id.r,.int .i64 (apE 0 lg c t).id.n,.int .i64 (apE 0 lg c t).c,.str (apE 0 lg c t).t,.list ((apE 0 lg c t).ls.map cId)]]=(lg ++ [apE 0 lg c t]).map cE:=by simp [cE]
              simp only [go_sem,hce]
              repeat refine ⟨rfl,?_⟩
              have hst:=settle_meets (lg.length + 1) ws.length 0 (lg ++ [apE 0 lg c t]) ws (by simp; omega) hae hf
              generalize ws.length - (settled (lg ++ [apE 0 lg c t]) ws).2.length=k at hst
              refine ops_call (.heapE [6,4,5] (r' := .tup []) (H' := [.box (cSi 0 lg ws),.box [.int .i64 0,.nilsl,.nilsl],.box [.int .i64 0,.int .i64 0,.int .i64 0,.str ⟨#[]⟩,.nilsl],.box (cE (apE 0 lg c t)),.arr (lg.length + 1 + k) true false 46 5 ((settled (lg ++ [apE 0 lg c t]) ws).1.map cE),.arr (ws.length + k) true false 46 5 ((settled (lg ++ [apE 0 lg c t]) ws).2.map cE),.box [.int .i64 0,.arr 4 (lg.length + 1 + k),.arr 5 (ws.length + k)]]) hst (by decide) (by simp) (by simp [go_sem,pos]) rfl rfl rfl) ?_
              simp only [go_sem,cSi,cE]
              refine ops_call (.pureE (entOwn_meets (apE 0 lg c t) (ap_fit (by decide) hlen).2) (by simp [go_sem,cE])) ?_
              simp only [go_sem,cSi,cE]
              repeat refine ⟨rfl,?_⟩
              refine ret_pure hx ?_
              simp [go_sem,L66,R66,apSi,apEn,e,cSi3,cSi,cE,frzAt,pos]
    · skip
      have hcn:IntKind.i64.wrap ((cntR lg 1:Int) + 1)=(cntR lg 1:Int) + 1:=by have:=cntR_le lg 1; rw [IntWalk.i64_in _ (by omega)]
      simp only [go_sem,cSi]
      refine ops_call (.pureE (many_meets lg h.reg (by omega)) (by simp [go_sem])) ?_
      simp only [go_sem,cSi,intS,Int.reduceLT,Int.reduceLE,Int.reduceToNat,Int.reduceAdd,frz,hcn]
      repeat refine ⟨rfl,?_⟩
      refine ops_call (.pureE (top_meets lg c h hc) (by simp [go_sem])) ?_
      simp only [go_sem,cSi]
      repeat refine ⟨rfl,?_⟩
      by_cases d1:(12:Int) < (t.size:Int)
      · have e:apErr 1 lg c t=2:=by rw [e0,if_pos (by omega)]
        simp only [go_sem,d1]
        refine ret_pure hx ?_
        simp [go_sem,L66,R66,apSi,apEn,e,cSi3,cSi,cE,zE]
      · by_cases d2:(20:Int) < (cntR lg 1:Int) + 1
        · have e:apErr 1 lg c t=2:=by rw [e0,if_pos (by omega)]
          simp only [go_sem,d1,d2]
          refine ret_pure hx ?_
          simp [go_sem,L66,R66,apSi,apEn,e,cSi3,cSi,cE,zE]
        · by_cases d3:(lg.length:Int)=40
          · have e:apErr 1 lg c t=2:=by rw [e0,if_pos (by omega)]
            simp only [go_sem,d1,d2,d3,cSi]
            refine ret_pure hx ?_
            simp [go_sem,L66,R66,apSi,apEn,e,cSi3,cSi,cE,zE]
          · by_cases d4:(6:Int) < ((sortI (headsC lg c)).length:Int)
            · have e:apErr 1 lg c t=2:=by rw [e0,if_pos (by omega)]
              simp only [go_sem,d1,d2,d3,d4,cSi]
              refine ret_pure hx ?_
              simp [go_sem,L66,R66,apSi,apEn,e,cSi3,cSi,cE,zE]
            · have e:apErr 1 lg c t=0:=by rw [e0,if_neg (by omega)]
              have hfl:=log_fit h
              have hae:fitE (lg ++ [apE 1 lg c t]):=fit_app hfl (ap_fit (by decide) hlen)
              have hsl:=settled_sum (lg ++ [apE 1 lg c t]) ws
              rw [List.length_append,List.length_cons,List.length_nil] at hsl
              simp only [go_sem,d1,d2,d3,d4,cSi]
              refine ops_call (.heapE [] (r' := .agg [.int .i64 1,.arr 4 lg.length,.arr 5 ws.length]) (H' := [.box (cSi 1 lg ws),.box [.int .i64 0,.nilsl,.nilsl],.box [.int .i64 0,.int .i64 0,.int .i64 0,.str ⟨#[]⟩,.nilsl],.box (cE (apE 1 lg c t)),.arr lg.length true false 46 5 (lg.map cE),.arr ws.length true false 46 5 (ws.map cE)]) (siOwn_meets 1 lg ws (by omega) (by omega) hfl hf) (by simp) (by simp) (by simp [go_sem,cSi]) rfl rfl rfl) ?_
              simp only [go_sem,cSi,cE]
              rw [app_arr rfl rfl (by simp) (by simp; omega)]
              have hce:List.map cE lg ++ [[PV.int .i64 (apE 1 lg c t).id.r,.int .i64 (apE 1 lg c t).id.n,.int .i64 (apE 1 lg c t).c,.str (apE 1 lg c t).t,.list ((apE 1 lg c t).ls.map cId)]]=(lg ++ [apE 1 lg c t]).map cE:=by simp [cE]
              simp only [go_sem,hce]
              repeat refine ⟨rfl,?_⟩
              have hst:=settle_meets (lg.length + 1) ws.length 1 (lg ++ [apE 1 lg c t]) ws (by simp; omega) hae hf
              generalize ws.length - (settled (lg ++ [apE 1 lg c t]) ws).2.length=k at hst
              refine ops_call (.heapE [6,4,5] (r' := .tup []) (H' := [.box (cSi 1 lg ws),.box [.int .i64 0,.nilsl,.nilsl],.box [.int .i64 0,.int .i64 0,.int .i64 0,.str ⟨#[]⟩,.nilsl],.box (cE (apE 1 lg c t)),.arr (lg.length + 1 + k) true false 46 5 ((settled (lg ++ [apE 1 lg c t]) ws).1.map cE),.arr (ws.length + k) true false 46 5 ((settled (lg ++ [apE 1 lg c t]) ws).2.map cE),.box [.int .i64 1,.arr 4 (lg.length + 1 + k),.arr 5 (ws.length + k)]]) hst (by decide) (by simp) (by simp [go_sem,pos]) rfl rfl rfl) ?_
              simp only [go_sem,cSi,cE]
              refine ops_call (.pureE (entOwn_meets (apE 1 lg c t) (ap_fit (by decide) hlen).2) (by simp [go_sem,cE])) ?_
              simp only [go_sem,cSi,cE]
              repeat refine ⟨rfl,?_⟩
              refine ret_pure hx ?_
              simp [go_sem,L66,R66,apSi,apEn,e,cSi3,cSi,cE,frzAt,pos]
def apErrX (r:Int) (lg ws:List Entry) (c:Int) (t:ByteArray):Int:=if siErr r lg ws≠0 then siErr r lg ws else apErr r lg c t
def apSiX (r:Int) (lg ws:List Entry) (c:Int) (t:ByteArray):Int × List Entry × List Entry:=if siErr r lg ws≠0 then (0,[],[]) else apSi r lg ws c t
def apEnX (r:Int) (lg ws:List Entry) (c:Int) (t:ByteArray):Entry:=if siErr r lg ws≠0 then zE else apEn r lg c t
theorem siAppend_meets (r : Int) (lg ws : List Entry) (c : Int) (t : ByteArray) (hl : lg.length ≤ 9223372036854775806) (hw : ws.length ≤ 9223372036854775806) :
    Meets Tryz.prog 23 [.agg (cSi r lg ws),.int .i64 c,.str t] [] (.tup [.agg (cSi3 (apSiX r lg ws c t)),.agg (cE (apEnX r lg ws c t)),.int .i64 (apErrX r lg ws c t)]) []:=by
  refine Meets.of_walk Tryz.func23 Tryz.ntmps23 low23 res23 (by simp) fun x hx=>?_
  simp only [go_sem,L23,R23,cSi]
  refine ops_call (.pureE (siCheck_meets r lg ws hl hw) (by simp [go_sem,cSi])) ?_
  by_cases h0:siErr r lg ws=0
  · obtain ⟨hr,hok,hw20,hch⟩:=siErr_ok h0
    simp only [go_sem,h0,cSi]
    refine ops_call (.pureE (appended_meets r lg ws c t hr hok hw20 (waits_fit fun k hk=>(hch k hk).1)) (by simp [go_sem,cSi])) ?_
    simp only [go_sem,cSi3,cSi,cE]
    refine ret_pure hx ?_
    simp [go_sem,L23,R23,apSiX,apEnX,apErrX,h0,cSi3,cSi,cE]
  · simp only [go_sem,h0,cSi]
    refine ret_pure hx ?_
    simp [go_sem,L23,R23,apSiX,apEnX,apErrX,h0,cSi3,cSi,cE,zE]
end Go.Proofs.YtfdolehffjmdmaaGreatDoor
/- Sites: Receive: contracts. -/
namespace Go.Proofs.YtfdolehffjmdmaaGreatDoor
set_option linter.unusedSimpArgs false
set_option linter.unusedVariables false
open Go.RowKit
theorem lessB_irr (a:Id):lessB a a=false:=by simp [lessB]
theorem idEq_of {a b:Id} (h1:lessB a b=false) (h2:lessB b a=false):a=b:=by
 simp only [lessB,decide_eq_false_iff_not] at *
 cases a; cases b
 simp only [Id.mk.injEq] at *
 omega
def upE (ws:List Entry):Prop:=∀ i j,i < j→j < ws.length→lessB (nth ws i).id (nth ws j).id=true
theorem upE_of {ws:List Entry} (h:∀ k,k + 1 < ws.length→lessB (nth ws k).id (nth ws (k + 1)).id=true):upE ws:=by
 intro i j hij hj
 have key:∀ d,i + d + 1 < ws.length→lessB (nth ws i).id (nth ws (i + d + 1)).id=true:=by
  intro d
  induction d with
  | zero=>intro hd; exact h i hd
  | succ d ih=>intro hd; exact lessB_trans (ih (by omega)) (h (i + d + 1) hd)
 have:=key (j - i - 1) (by omega)
 rwa [show i + (j - i - 1) + 1=j by omega] at this
theorem siErr_up {r:Int} {lg ws:List Entry} (h:siErr r lg ws=0):upE ws:=by
 obtain ⟨-,-,-,hc⟩:=siErr_ok h
 refine upE_of fun k hk=>?_
 have:=(hc (k + 1) hk).2
 unfold siBad at this
 simp only [Bool.or_eq_false_iff,Nat.add_sub_cancel] at this
 have h2:=this.1.1.1
 simpa using h2
def posE (l:List Entry) (y:Id):Nat:=l.countP fun e=>lessB e.id y
def foundE (l:List Entry) (y:Id):Bool:=l.any fun e=>decide (e.id=y)
theorem posE_at {l:List Entry} {y:Id} {i:Nat} (hi:i≤l.length) (h1:∀ k,k < i→lessB (nth l k).id y=true) (h2:∀ k,i≤k→k < l.length→lessB (nth l k).id y=false):posE l y=i:=by
 unfold posE
 conv=>lhs; rw [← List.take_append_drop i l]
 rw [List.countP_append]
 have a:(l.take i).countP (fun e=>lessB e.id y)=(l.take i).length:=by
  rw [List.countP_eq_length]
  intro w hw
  obtain ⟨k,hk,rfl⟩:=List.getElem_of_mem hw
  rw [List.length_take] at hk
  have:=h1 k (by omega)
  rw [nth_eq _ _ (by omega)] at this
  simpa using this
 have b:(l.drop i).countP (fun e=>lessB e.id y)=0:=by
  rw [List.countP_eq_zero]
  intro w hw
  obtain ⟨k,hk,rfl⟩:=List.getElem_of_mem hw
  rw [List.length_drop] at hk
  have:=h2 (i + k) (by omega) (by omega)
  rw [nth_eq _ _ (by omega)] at this
  simpa using this
 rw [a,b,List.length_take]; omega
theorem foundE_at {l:List Entry} {y:Id} (hu:upE l) {i:Nat} (hi:i≤l.length) (h1:∀ k,k < i→lessB (nth l k).id y=true) (h2:∀ k,i≤k→k < l.length→lessB (nth l k).id y=false):foundE l y=decide (i < l.length∧(nth l i).id=y):=by
 rw [Bool.eq_iff_iff,decide_eq_true_eq]
 unfold foundE
 rw [List.any_eq_true]
 constructor
 ·
  rintro ⟨w,hw,hn⟩
  obtain ⟨k,hk,rfl⟩:=List.getElem_of_mem hw
  rw [← nth_eq _ _ hk,decide_eq_true_eq] at hn
  by_cases h:k < i
  ·
   have:=h1 k h; rw [hn,lessB_irr] at this; cases this
  ·
   by_cases e:k=i
   ·
    subst e; exact ⟨hk,hn⟩
   ·
    have a:=hu i k (by omega) hk
    have b:=h2 i (Nat.le_refl _) (by omega)
    rw [hn] at a; rw [a] at b; cases b
 ·
  rintro ⟨a,b⟩
  exact ⟨_,nthM a,by simpa using b⟩
theorem posE_le (l:List Entry) (y:Id):posE l y≤l.length:=by unfold posE; exact List.countP_le_length
theorem ordI_zero {a b:Id}:ordI a b=0↔a=b:=by
 cases a; cases b
 simp only [ordI,cmpI,Id.mk.injEq]
 repeat' split
 all_goals omega
theorem raw1_meets (e:Entry) (y:Id):Meets Tryz.prog 143 [.agg (cE e),.agg (cId y)] [] (.int .i64 (ordI e.id y)) []:=by
 refine Meets.of_walk Tryz.func143 Tryz.ntmps143 low143 res143 (by simp) fun x hx=>?_
 simp only [go_sem,L143,R143,cE,cId]
 refine ops_call (.pureE (order_meets e.id y) (by simp [go_sem,cId])) ?_
 simp only [go_sem]
 refine ret_pure hx ?_
 simp [go_sem,L143,R143]
set_option maxHeartbeats 1000000 in
theorem bsE_meets (l : List Entry) (y : Id) (hu : upE l) (hl : l.length ≤ 4611686018427387904) :
    Meets Tryz.prog 142 [.list (l.map cE),.agg (cId y),.clo 143 []] [] (.tup [.int .i64 (posE l y),.bool (foundE l y)]) []:=by
  refine Meets.of_walk Tryz.func142 Tryz.ntmps142 low142 res142 (by simp) fun x hx=>?_
  simp only [go_sem,L142,R142]
  refine loop_inv [0,2,4,8,9,10] 1 (fun g st=>∃ i j:Nat,i≤j∧j≤l.length∧j - i=g∧(∀ k,k < i→lessB (nth l k).id y=true)∧(∀ k,j≤k→k < l.length→lessB (nth l k).id y=false) ∧
    st=⟨mkE .top [(0,.list (l.map cE)),(2,.clo 143 []),(4,.ptr 0 0),(8,.int .i64 l.length),(9,.int .i64 i),(10,.int .i64 j)],[.box (cId y)]⟩) l.length (by simp [hx]) (by simp) ?_ ?_
  · refine ⟨0,l.length,by omega,by omega,by omega,fun k h=>by omega,fun k h1 h2=>by omega,?_⟩
    simp [trim_mk,go_sem,subHeap,renObj,pos,List.range_succ,cId]
  · rintro g st ⟨i,j,hij,hj,hg,hlo,hhi,rfl⟩
    by_cases hlt:i < j
    · have w1:IntKind.i64.wrap ((i:Int) + (j:Int))=((i + j:Nat):Int):=by rw [IntKind.wrap_i64]; omega
      obtain ⟨h,hh⟩:∃ h,h=(i + j) / 2:=⟨_,rfl⟩
      have hgt:l[h]? = some (nth l h):=nth_get? _ _ (by omega)
      have hhl:h < l.length:=by omega
      have w2:IntKind.u64.wrap ((i + j:Nat):Int)=((i + j:Nat):Int):=by rw [IntKind.wrap_u64]; omega
      have w3:((i + j:Nat):Int).fdiv (2 ^ min (Int.toNat 1) 64)=(h:Int):=by
        show Int.fdiv _ 2=_
        rw [Int.fdiv_eq_ediv_of_nonneg _ (by omega)]; omega
      have w4:IntKind.i64.wrap (h:Int)=(h:Int):=by rw [IntKind.wrap_i64]; omega
      have w5:=i64_up (k:=h) (by omega)
      simp only [go_sem,hlt,w1,w2,w3,w4,Int.reduceLE,hgt,hhl,cE,cId]
      refine ops_callv rfl (by kernel_rfl) (.pureE (raw1_meets (nth l h) y) (by simp [go_sem,cE,cId])) ?_
      by_cases hc:lessB (nth l h).id y=true
      · have e:ordI (nth l h).id y < 0:=ordI_lt.2 hc
        simp only [go_sem,e,w5]
        refine ⟨by simp,j - (h + 1),by omega,h + 1,j,by omega,hj,rfl,fun k hk=>?_,hhi,?_⟩
        · by_cases ek:k=h
          · rw [ek]; exact hc
          · exact lessB_trans (hu k h (by omega) (by omega)) hc
        · simp [trim_mk,go_sem,subHeap,renObj,pos,List.range_succ,cId]
      · have e:¬ ordI (nth l h).id y < 0:=fun q=>hc (ordI_lt.1 q)
        simp only [go_sem,e]
        refine ⟨by simp,h - i,by omega,i,h,by omega,by omega,rfl,hlo,fun k h1 h2=>?_,?_⟩
        · by_cases ek:k=h
          · rw [ek]; simpa using hc
          · rw [← Bool.not_eq_true]
            exact fun q=>hc (lessB_trans (hu h k (by omega) h2) q)
        · simp [trim_mk,go_sem,subHeap,renObj,pos,List.range_succ,cId]
    · obtain rfl:i=j:=by omega
      have hp:=posE_at hj hlo hhi
      have hf:=foundE_at hu hj hlo hhi
      by_cases hil:i < l.length
      · have hgt:l[i]? = some (nth l i):=nth_get? _ _ hil
        simp only [go_sem,hlt,hil,hgt,cE,cId]
        refine ops_callv rfl (by kernel_rfl) (.pureE (raw1_meets (nth l i) y) (by simp [go_sem,cE,cId])) ?_
        have e:(ordI (nth l i).id y=0)↔(nth l i).id=y:=ordI_zero
        simp only [go_sem,e]
        refine ret_pure hx ?_
        simp [go_sem,L142,R142,hp,hf,hil]
      · simp only [go_sem,hlt,hil]
        refine ret_pure hx ?_
        simp [go_sem,L142,R142,hp,hf,hil]
def rcP (lg ws:List Entry) (e:Entry):List Entry × List Entry:=settled lg (ws.insertIdx (posE ws e.id) e)
def rcErr (r:Int) (lg ws:List Entry) (e:Entry):Int :=
 if 0≤findE lg e.id∨0≤findE ws e.id then 0 else if e.id.r=r then 4 else if 20 < (rcP lg ws e).2.length∨40 < (rcP lg ws e).1.length then 2 else 0
def rcSi (r:Int) (lg ws:List Entry) (e:Entry):Int × List Entry × List Entry :=
 if 0≤findE lg e.id∨0≤findE ws e.id then (r,lg,ws) else if rcErr r lg ws e=0 then (r,rcP lg ws e) else (0,[],[])
theorem fit_ins {ws:List Entry} {e:Entry} (h:fitE ws) (he:(e.id.r=0∨e.id.r=1)∧e.ls.length≤1000000) {i:Nat} (hi:i≤ws.length):fitE (ws.insertIdx i e):=fun x hx=>by
 rcases (List.mem_insertIdx hi).1 hx with h1 | h1
 ·
  subst h1; exact he
 ·
  exact h x h1
theorem insE_len (l:List Entry) (w:Entry) {k:Nat} (h:k≤l.length):(l.insertIdx k w).length=l.length + 1:=by rw [List.length_insertIdx,if_pos h]
set_option maxHeartbeats 4000000 in
theorem siRaw_meets (r : Int) (lg ws : List Entry) (e : Entry) (hl : lg.length ≤ 1000) (hw : ws.length ≤ 1000) (hf1 : fitE lg) (hf2 : fitE ws) (hu : upE ws) (he : (e.id.r = 0 ∨ e.id.r = 1) ∧ e.ls.length ≤ 1000000) :
    Meets Tryz.prog 109 [.agg (cSi r lg ws),.agg (cE e)] [] (.tup [.agg (cSi3 (rcSi r lg ws e)),.int .i64 (rcErr r lg ws e)]) []:=by
  refine Meets.of_walk Tryz.func109 Tryz.ntmps109 low109 res109 (by simp) fun x hx=>?_
  simp only [go_sem,L109,R109,cSi,cE]
  refine ops_call (.heapE [] (r' := .agg [.int .i64 r,.arr 3 lg.length,.arr 4 ws.length]) (H' := [.box (cSi r lg ws),.box (cE e),.box [.int .i64 0,.nilsl,.nilsl],.arr lg.length true false 46 5 (lg.map cE),.arr ws.length true false 46 5 (ws.map cE)]) (siOwn_meets r lg ws (by omega) (by omega) hf1 hf2) (by simp) (by simp) (by simp [go_sem,cSi]) rfl rfl rfl) ?_
  simp only [go_sem,cSi,cE]
  refine ops_call (.pureE (find_meets lg e.id (by omega)) (by simp [go_sem,cId])) ?_
  by_cases h1:0≤findE lg e.id
  · have e1:rcErr r lg ws e=0:=by rw [rcErr,if_pos (.inl h1)]
    simp only [go_sem,h1,cSi,cE]
    refine ret_pure hx ?_
    simp [go_sem,L109,R109,rcSi,e1,h1,cSi3,cSi,cE,frzAt,pos]
  · simp only [go_sem,h1,cSi,cE]
    refine ops_call (.pureE (find_meets ws e.id (by omega)) (by simp [go_sem,cId])) ?_
    by_cases h2:0≤findE ws e.id
    · have e1:rcErr r lg ws e=0:=by rw [rcErr,if_pos (.inr h2)]
      simp only [go_sem,h2,cSi,cE]
      refine ret_pure hx ?_
      simp [go_sem,L109,R109,rcSi,e1,h2,cSi3,cSi,cE,frzAt,pos]
    · by_cases h3:e.id.r=r
      · have e1:rcErr r lg ws e=4:=by rw [rcErr,if_neg (by omega),if_pos h3]
        simp only [go_sem,h2,h3,cSi,cE]
        refine ret_pure hx ?_
        simp [go_sem,L109,R109,rcSi,e1,h1,h2,cSi3,cSi,cE,frzAt,pos]
      · have e0:rcErr r lg ws e=if 20 < (rcP lg ws e).2.length∨40 < (rcP lg ws e).1.length then 2 else 0:=by rw [rcErr,if_neg (by omega),if_neg h3]
        have hil:=insE_len ws e (posE_le ws e.id)
        have hst:=settle_meets lg.length (ws.length + 1) r lg (ws.insertIdx (posE ws e.id) e) (by omega) hf1 (fit_ins hf2 he (posE_le ws e.id))
        rw [show settled lg (ws.insertIdx (posE ws e.id) e)=rcP lg ws e from rfl] at hst
        generalize (ws.insertIdx (posE ws e.id) e).length - (rcP lg ws e).2.length=k at hst
        simp only [go_sem,h2,h3,cSi,cE]
        refine ops_call (.scalarE (bsE_meets ws e.id hu (by omega)) rfl (by simp [go_sem,frzAt,pos,cId])) ?_
        simp only [go_sem,cSi,cE]
        repeat refine ⟨rfl,?_⟩
        refine ops_call (.pureE (entOwn_meets e he.2) (by simp [go_sem,cE])) ?_
        simp only [go_sem,cSi,cE]
        refine ops_call1 4 (insE_meets (ws.map cE) (cE e) ws.length (posE ws e.id) (by simp; exact posE_le _ _) rfl (by simp; omega)) rfl rfl rfl rfl (by simp [go_sem]) (by simp [go_sem,pos,cE]) rfl ?_
        rw [insIdx_mapE]
        simp only [go_sem,cSi,cE]
        repeat refine ⟨rfl,?_⟩
        refine ops_call (.heapE [5,3,4] (r' := .tup []) (H' := [.box (cSi r lg ws),.box (cE e),.box [.int .i64 0,.nilsl,.nilsl],.arr (lg.length + k) true false 46 5 ((rcP lg ws e).1.map cE),.arr (ws.length + 1 + k) true false 46 5 ((rcP lg ws e).2.map cE),.box [.int .i64 r,.arr 3 (lg.length + k),.arr 4 (ws.length + 1 + k)]]) hst (by decide) (by simp) (by simp [go_sem,pos]) rfl rfl rfl) ?_
        by_cases g1:(20:Int) < ((rcP lg ws e).2.length:Int)
        · have e1:rcErr r lg ws e=2:=by rw [e0,if_pos (by omega)]
          simp only [go_sem,g1,cSi,cE]
          refine ret_pure hx ?_
          simp [go_sem,L109,R109,rcSi,e1,h1,h2,cSi3,cSi,cE,frzAt,pos]
        · by_cases g2:(40:Int) < ((rcP lg ws e).1.length:Int)
          · have e1:rcErr r lg ws e=2:=by rw [e0,if_pos (by omega)]
            simp only [go_sem,g1,g2,cSi,cE]
            refine ret_pure hx ?_
            simp [go_sem,L109,R109,rcSi,e1,h1,h2,cSi3,cSi,cE,frzAt,pos]
          · have e1:rcErr r lg ws e=0:=by rw [e0,if_neg (by omega)]
            simp only [go_sem,g1,g2,cSi,cE]
            refine ret_pure hx ?_
            simp [go_sem,L109,R109,rcSi,e1,h1,h2,cSi3,cSi,cE,frzAt,pos]
def rcErrX (r:Int) (lg ws:List Entry) (e:Entry):Int:=if siErr r lg ws≠0 then siErr r lg ws else if checkEntry e≠0 then checkEntry e else rcErr r lg ws e
def rcSiX (r:Int) (lg ws:List Entry) (e:Entry):Int × List Entry × List Entry:=if siErr r lg ws≠0∨checkEntry e≠0 then (0,[],[]) else rcSi r lg ws e
end Go.Proofs.YtfdolehffjmdmaaGreatDoor
/- Sites,in the law text's words: IsReady,CheckSite,Settled: contracts. -/
namespace Go.Proofs.YtfdolehffjmdmaaGreatDoor
set_option linter.unusedSimpArgs false
set_option linter.unusedVariables false
open Go.RowKit
end Go.Proofs.YtfdolehffjmdmaaGreatDoor
/- Sites,in the law text's words: AppendOf,ReceiveOf,SameLog and SameSite at one thing twice,siteIs: contracts. -/
namespace Go.Proofs.YtfdolehffjmdmaaGreatDoor
set_option linter.unusedSimpArgs false
set_option linter.unusedVariables false
open Go.RowKit
theorem sameLog_meets (l:List Entry) (hl:l.length≤9223372036854775806):Meets Tryz.prog 82 [.list (l.map cE),.list (l.map cE)] [] (.bool true) []:=by
 refine Meets.of_walk Tryz.func82 Tryz.ntmps82 low82 res82 (by simp) fun x hx=>?_
 simp only [go_sem,L82,R82]
 refine loop_inv [0,1,5] 0 (fun n st=>∃ k:Nat,k + n=l.length ∧
  st=⟨mkE .top [(0,.list (l.map cE)),(1,.list (l.map cE)),(5,.int .i64 k)],[]⟩) l.length (by simp [hx]) (by simp) ?_ ?_
 ·
  refine ⟨0,by omega,?_⟩
  simp [trim_mk,go_sem,subHeap,renObj,pos]
 ·
  rintro n st ⟨k,hk,rfl⟩
  by_cases hlt:k < l.length
  ·
   have hg:l[k]? = some (nth l k):=nth_get? _ _ hlt
   have wk:=i64_up (k:=k) (by omega)
   have hs:sameE (nth l k) (nth l k)=true:=by simp [sameE]
   simp only [go_sem,hlt,hg,cE]
   refine ops_call (.pureE (sameEntry_meets (nth l k) (nth l k)) (by simp [go_sem,cE])) ?_
   rw [hs]
   simp only [go_sem,wk]
   repeat refine ⟨rfl,?_⟩
   refine ⟨by simp,n - 1,by omega,k + 1,by omega,?_⟩
   simp [trim_mk,go_sem,subHeap,renObj,pos]
  ·
   simp only [go_sem,hlt]
   refine ret_pure hx ?_
   simp [go_sem,L82,R82]
theorem sameSite_meets (s:Int × List Entry × List Entry) (h1:s.2.1.length≤9223372036854775806) (h2:s.2.2.length≤9223372036854775806):Meets Tryz.prog 81 [.agg (cSi3 s),.agg (cSi3 s)] [] (.bool true) []:=by
 refine Meets.of_walk Tryz.func81 Tryz.ntmps81 low81 res81 (by simp) fun x hx=>?_
 simp only [go_sem,L81,R81,cSi3,cSi]
 refine ops_call (.pureE (sameLog_meets s.2.1 h1) (by simp [go_sem])) ?_
 simp only [go_sem,cSi]
 refine ops_call (.pureE (sameLog_meets s.2.2 h2) (by simp [go_sem])) ?_
 simp only [go_sem]
 refine ret_pure hx ?_
 simp [go_sem,L81,R81]
end Go.Proofs.YtfdolehffjmdmaaGreatDoor
/- Sites,in the law text's words: ReceiveOf: a contract. -/
namespace Go.Proofs.YtfdolehffjmdmaaGreatDoor
set_option linter.unusedSimpArgs false
set_option linter.unusedVariables false
open Go.RowKit
theorem posE_spec {l:List Entry} (hu:upE l) (y:Id):posE l y≤l.length∧(∀ k,k < posE l y→lessB (nth l k).id y=true)∧∀ k,posE l y≤k→k < l.length→lessB (nth l k).id y=false:=by
 have key:∀ m,m≤l.length→∃ i,i≤m∧(∀ k,k < i→lessB (nth l k).id y=true)∧∀ k,i≤k→k < m→lessB (nth l k).id y=false:=by
  intro m
  induction m with
  | zero=>intro _; exact ⟨0,Nat.le_refl _,fun k h=>by omega,fun k a b=>by omega⟩
  | succ m ih =>
   intro hm
   by_cases h:lessB (nth l m).id y=true
   ·
    refine ⟨m + 1,Nat.le_refl _,fun k hk=>?_,fun k a b=>by omega⟩
    by_cases e:k=m
    ·
     subst e; exact h
    ·
     exact lessB_trans (hu k m (by omega) (by omega)) h
   ·
    obtain ⟨i,h1,h2,h3⟩:=ih (by omega)
    refine ⟨i,by omega,h2,fun k a b=>?_⟩
    by_cases e:k=m
    ·
     subst e; simpa using h
    ·
     exact h3 k a (by omega)
 obtain ⟨i,h1,h2,h3⟩:=key l.length (Nat.le_refl _)
 rw [posE_at h1 h2 h3]
 exact ⟨h1,h2,h3⟩
theorem findE_not {l:List Entry} {y:Id} (h:¬ 0≤findE l y):∀ e ∈ l,e.id≠y:=fun e he h2=>by
 have:=idxF_any (fun e:Entry=>decide (e.id=y)) l
 rw [show idxF (fun e:Entry=>decide (e.id=y)) l 0=findE l y from rfl,decide_eq_false h] at this
 have h3:=List.any_eq_false.1 this.symm e he
 simp [h2] at h3
theorem takeE_succ {l:List Entry} {k:Nat} (h:k < l.length):l.take (k + 1)=l.take k ++ [nth l k]:=by rw [List.take_succ_eq_append_getElem h,nth_eq _ _ h]
end Go.Proofs.YtfdolehffjmdmaaGreatDoor
/- Bytes: writing an entry. -/
namespace Go.Proofs.YtfdolehffjmdmaaGreatDoor
set_option linter.unusedSimpArgs false
set_option linter.unusedVariables false
open Go.RowKit
def e0:Entry:=⟨⟨0,1⟩,1,BA [112,117,116,32,97,32,120],[]⟩
def e1:Entry:=⟨⟨1,1⟩,3,BA [112,117,116,32,97,32,121],[]⟩
def e2:Entry:=⟨⟨0,2⟩,3,BA [100,114,111,112,32,97],[⟨0,1⟩]⟩
def e3:Entry:=⟨⟨1,2⟩,2,BA [112,117,116,32,98,32,122],[⟨0,2⟩,⟨1,1⟩]⟩
def cE0 (e:Entry):List PV := [.int .i64 e.id.r,.int .i64 e.id.n,.int .i64 e.c,.str e.t,if e.ls = [] then .nilsl else .list (e.ls.map cId)]
theorem entries_meets:Meets Tryz.prog 53 [] [] (.list [cE e0,cE e1,cE e2,cE e3]) []:=by
 refine Meets.nl (r := .list [cE0 e0,cE0 e1,cE0 e2,cE0 e3]) 4 ?_ (by simp [nlN,cE0,cE,cId,e0,e1,e2,e3])
 refine Meets.of_walk Tryz.func53 Tryz.ntmps53 low53 res53 (by simp) fun x hx=>?_
 simp only [go_sem,L53,R53]
 iterate 7
  refine ops_call (.pure (lawId_meets _ _)) ?_
  simp only [go_sem]
 refine ret_pure hx ?_
 simp [go_sem,L53,R53,cE0,cId,e0,e1,e2,e3,BA]
end Go.Proofs.YtfdolehffjmdmaaGreatDoor
/- What must be in any case of logs; DagTells,as a contract. -/
namespace Go.Proofs.YtfdolehffjmdmaaGreatDoor
set_option linter.unusedSimpArgs false
set_option linter.unusedVariables false
open Go.RowKit
end Go.Proofs.YtfdolehffjmdmaaGreatDoor
/- DagPast,DagHeads,as contracts. -/
namespace Go.Proofs.YtfdolehffjmdmaaGreatDoor
set_option linter.unusedSimpArgs false
set_option linter.unusedVariables false
open Go.RowKit
theorem nth_mem {α:Type} [Inhabited α] {l:List α} {k:Nat} (h:k < l.length):nth l k ∈ l:=by rw [nth_eq _ _ h]; exact List.getElem_mem h
theorem past_at {l:List Entry} (h0:checkLog l=0) {k:Nat} (hk:k < l.length):pastErr l (nth l k).id=0∧pastIds l (nth l k).id=pastOf l k:=by
 have hok:=log_ok.1 h0
 have hp:pastErr l (nth l k).id=0:=by
  rw [pastErr,if_neg (by simp [h0]),hok.find hk,if_neg (by omega)]
 exact ⟨hp,by rw [pastIds,if_pos hp,hok.find hk,Int.toNat_natCast]⟩
end Go.Proofs.YtfdolehffjmdmaaGreatDoor
/- DagParts,as a contract. -/
namespace Go.Proofs.YtfdolehffjmdmaaGreatDoor
set_option linter.unusedSimpArgs false
set_option linter.unusedVariables false
open Go.RowKit
theorem nth_take {α:Type} [Inhabited α] {l:List α} {n i:Nat} (hi:i < n) (hn:n≤l.length):nth (l.take n) i=nth l i:=by
 rw [nth_eq _ _ (by rw [List.length_take]; omega),nth_eq _ _ (by omega),List.getElem_take]
theorem LogOk.take {l:List Entry} (h:LogOk l) {n:Nat} (hn:n≤l.length):LogOk (l.take n) where
 len:=by rw [List.length_take]; have:=h.len; omega
 chk:=fun k hk=>by
  rw [List.length_take] at hk
  rw [nth_take (by omega) hn]; exact h.chk k (by omega)
 new:=fun k hk=>by
  rw [List.length_take] at hk
  rw [nth_take (by omega) hn,List.take_take,Nat.min_eq_left (by omega)]; exact h.new k (by omega)
 num:=fun k hk=>by
  rw [List.length_take] at hk
  rw [nth_take (by omega) hn,List.take_take,Nat.min_eq_left (by omega)]; exact h.num k (by omega)
 lnk:=fun k hk=>by
  rw [List.length_take] at hk
  rw [nth_take (by omega) hn,List.take_take,Nat.min_eq_left (by omega)]; exact h.lnk k (by omega)
theorem cntR_sum:∀ {l:List Entry},okReg l→cntR l 0 + cntR l 1=l.length
 | [],_=>rfl
 | e :: l,h=>by
  have ih:=cntR_sum (l:=l) fun x hx=>h x (by simp [hx])
  have he:=h e (by simp)
  simp only [cntR,List.countP_cons,List.length_cons,decide_eq_true_eq] at ih ⊢
  rcases he with he | he <;> simp [he] <;> omega
theorem cntR_mono {l:List Entry} {i n:Nat} (h:i≤n) (r:Int):cntR (l.take i) r≤cntR (l.take n) r :=
 List.Sublist.countP_le (List.take_sublist_take_left h)
end Go.Proofs.YtfdolehffjmdmaaGreatDoor
/- Sites: what is appended and what settles leaves a right log (plain). -/
namespace Go.Proofs.YtfdolehffjmdmaaGreatDoor
open Go.RowKit
theorem nth_app {l:List Entry} {e:Entry} {k:Nat} (h:k < l.length):nth (l ++ [e]) k=nth l k:=by
 rw [nth_eq _ _ (by simp; omega),nth_eq _ _ h,List.getElem_append_left h]
theorem nth_app_end (l:List Entry) (e:Entry):nth (l ++ [e]) l.length=e:=by
 rw [nth_eq _ _ (by simp)]; simp
theorem take_app {l:List Entry} {e:Entry} {k:Nat} (h:k≤l.length):(l ++ [e]).take k=l.take k:=by
 rw [List.take_append_of_le_length h]
theorem LogOk.cnt {l:List Entry} (h:LogOk l) (r:Int):cntR l r≤20:=by
 have key:∀ k,k≤l.length→cntR (l.take k) r≤20:=by
  intro k
  induction k with
  | zero=>intro _; simp [cntR]
  | succ k ih =>
   intro hk
   rw [cntR_take l k r (by omega)]
   by_cases e:(nth l k).id.r=r
   ·
    rw [if_pos e]
    have h1:=h.num k (by omega)
    have h2:=h.id_ok (k:=k) (by omega)
    simp only [okId,Bool.and_eq_true,wthn_iff] at h2
    rw [e] at h1
    omega
   ·
    rw [if_neg e]
    have:=ih (by omega)
    omega
 have:=key l.length (Nat.le_refl _)
 rwa [List.take_length] at this
theorem LogOk.num_le {l:List Entry} (h:LogOk l) {k:Nat} (hk:k < l.length):(nth l k).id.n≤(cntR l (nth l k).id.r:Int):=by
 have h1:=h.num k hk
 have h2:=cntR_take l k (nth l k).id.r hk
 rw [if_pos rfl] at h2
 have h3:=cntR_mono (l:=l) (i:=k + 1) (n:=l.length) (by omega) (nth l k).id.r
 rw [List.take_length] at h3
 omega
theorem ready_iff {l:List Entry} {e:Entry}:readyB l e=true↔(cntR l e.id.r:Int) + 1=e.id.n∧∀ x ∈ e.ls,0≤findE l x:=by
 simp only [readyB,Bool.and_eq_true,decide_eq_true_eq,Bool.not_eq_true',List.any_eq_false]
 exact ⟨fun ⟨a,b⟩=>⟨a,fun x hx=>by have:=b x hx; omega⟩,fun ⟨a,b⟩=>⟨a,fun x hx=>by have:=b x hx; omega⟩⟩
theorem LogOk.app_new {l:List Entry} {e:Entry} (h:LogOk l) (hr:(cntR l e.id.r:Int) + 1=e.id.n):findE l e.id < 0:=by
 rw [findE_neg]
 intro y hy he
 obtain ⟨k,hk,rfl⟩:=List.getElem_of_mem hy
 rw [← nth_eq _ _ hk] at he
 have:=h.num_le hk
 rw [he] at this
 omega
theorem LogOk.app {l:List Entry} {e:Entry} (h:LogOk l) (hc:checkEntry e=0) (hr:readyB l e=true):LogOk (l ++ [e]):=by
 obtain ⟨hn,hl⟩:=ready_iff.1 hr
 have hnew:=h.app_new hn
 have h1:∀ k,k < l.length + 1→(k < l.length∧nth (l ++ [e]) k=nth l k∧(l ++ [e]).take k=l.take k)∨(nth (l ++ [e]) k=e∧(l ++ [e]).take k=l):=by
  intro k hk
  by_cases hlt:k < l.length
  ·
   exact .inl ⟨hlt,nth_app hlt,take_app (by omega)⟩
  ·
   obtain rfl:k=l.length:=by omega
   exact .inr ⟨nth_app_end l e,by rw [take_app (Nat.le_refl _),List.take_length]⟩
 have hb:=(check_ok_bounds hc).1
 simp only [okId,Bool.and_eq_true,wthn_iff] at hb
 have hlen:l.length + 1≤40:=by
  have s:=cntR_sum h.reg
  have c0:=h.cnt 0
  have c1:=h.cnt 1
  have hr2:e.id.r=0∨e.id.r=1:=by omega
  rcases hr2 with q | q
  all_goals
   rw [q] at hn
   omega
 refine ⟨by simp; omega,fun k hk=>?_,fun k hk=>?_,fun k hk=>?_,fun k hk=>?_⟩
 all_goals
  rw [List.length_append,List.length_singleton] at hk
  rcases h1 k hk with ⟨a,b,c⟩ | ⟨b,c⟩
 ·
  rw [b]; exact h.chk k a
 ·
  rw [b]; exact hc
 ·
  rw [b,c]; exact h.new k a
 ·
  rw [b,c]; exact hnew
 ·
  rw [b,c]; exact h.num k a
 ·
  rw [b,c]; exact hn
 ·
  rw [b,c]; exact h.lnk k a
 ·
  rw [b,c]; exact hl
theorem rdyI_ready {lg ws:List Entry} (h:0≤rdyI lg ws):readyB lg (nth ws (rdyI lg ws).toNat)=true:=by
 obtain ⟨k,h1,h2,h3⟩:=idxF_spec (readyB lg) ws 0 h
 have:(rdyI lg ws).toNat=k:=by unfold rdyI; rw [h1]; simp
 rw [this]; exact h3
theorem settleN_ok:∀ (k:Nat) (lg ws:List Entry),LogOk lg→(∀ e ∈ ws,checkEntry e=0)→LogOk (settleN k lg ws).1∧(∀ e ∈ (settleN k lg ws).2,e ∈ ws)∧∃ t,(settleN k lg ws).1=lg ++ t∧∀ e ∈ t,e ∈ ws
 | 0,lg,ws,h,_=>⟨h,fun e he=>he,[],by simp [settleN],by simp⟩
 | k + 1,lg,ws,h,hc=>by
  rw [settleN]
  split
  ·
   rename_i hr
   have hm:=nthM (rdyI_lt hr)
   obtain ⟨a,b,t,c,d⟩:=settleN_ok k (lg ++ [nth ws (rdyI lg ws).toNat]) (ws.eraseIdx (rdyI lg ws).toNat) (h.app (hc _ hm) (rdyI_ready hr)) (fun e he=>hc e (List.mem_of_mem_eraseIdx he))
   refine ⟨a,fun e he=>List.mem_of_mem_eraseIdx (b e he),nth ws (rdyI lg ws).toNat :: t,by rw [c]; simp,fun e he=>?_⟩
   rcases List.mem_cons.1 he with q | q
   ·
    rw [q]; exact hm
   ·
    exact List.mem_of_mem_eraseIdx (d e q)
  ·
   exact ⟨h,fun e he=>he,[],by simp,by simp⟩
theorem settled_ok {lg ws:List Entry} (h:LogOk lg) (hc:∀ e ∈ ws,checkEntry e=0):LogOk (settled lg ws).1∧(∀ e ∈ (settled lg ws).2,e ∈ ws)∧∃ t,(settled lg ws).1=lg ++ t∧∀ e ∈ t,e ∈ ws:=settleN_ok _ _ _ h hc
theorem heads_in {lg:List Entry} (h:LogOk lg) {c:Int} {x:Id} (hx:x ∈ sortI (headsC lg c)):∃ k,k < lg.length∧(nth lg k).id=x∧meetB (nth lg k).c c=true:=by
 obtain ⟨k,a,b,d,-⟩:=(mem_headsC h).1 (sortI_mem.1 hx)
 exact ⟨k,a,b,d⟩
theorem apE_ok {r:Int} {lg:List Entry} {c:Int} {t:ByteArray} (hr:r=0∨r=1) (h:LogOk lg) (he:apErr r lg c t=0):checkEntry (apE r lg c t)=0∧readyB lg (apE r lg c t)=true:=by
 unfold apErr at he
 split at he
 ·
  cases he
 ·
  rename_i hc
  split at he
  ·
   cases he
  ·
   rename_i hq
   have hq1:¬ 12 < t.size:=by omega
   have hq2:¬ (20:Int) < (cntR lg r:Int) + 1:=by omega
   have hq3:¬ 6 < (sortI (headsC lg c)).length:=by omega
   have hid:okId (apE r lg c t).id=true:=by
    simp only [apE,okId,Bool.and_eq_true,wthn_iff]; omega
   have hasc:Asc (sortI (headsC lg c)):=sortI_asc (headsC_nodup h c)
   have hin:∀ j,j < (sortI (headsC lg c)).length→∃ k,k < lg.length∧(nth lg k).id=nth (sortI (headsC lg c)) j:=fun j hj=>by
    obtain ⟨k,a,b,-⟩:=heads_in h (nth_mem hj)
    exact ⟨k,a,b⟩
   refine ⟨?_,ready_iff.2 ⟨rfl,fun x hx=>?_⟩⟩
   ·
    rw [checkEntry,if_neg (by simp [hid]),if_neg (by simpa [apE] using hc),if_neg (by simpa [apE] using hq1),if_neg (by simpa [apE] using hq3),firstNZ_zero]
    intro j hj
    have hj':j < (sortI (headsC lg c)).length:=hj
    obtain ⟨k,hk,hke⟩:=hin j hj'
    show linkErr (apE r lg c t).id (sortI (headsC lg c)) j=0
    rw [linkErr,← hke,if_neg (by simp [h.id_ok hk]),hke,if_neg,if_neg]
    ·
     rintro ⟨a,b⟩
     have:=h.num_le hk
     rw [hke] at this
     simp only [apE] at a b
     rw [a] at this
     omega
    ·
     intro q
     simp only [Bool.and_eq_true,decide_eq_true_eq,Bool.not_eq_true'] at q
     obtain ⟨q1,q2⟩:=q
     have:=(List.pairwise_iff_getElem.1 hasc) (j - 1) j (by omega) hj' (by omega)
     rw [← nth_eq,← nth_eq,q2] at this
     cases this
   ·
    obtain ⟨k,hk,hke,-⟩:=heads_in h hx
    rw [← hke,h.find hk]; omega
theorem apE_log {r:Int} {lg:List Entry} {c:Int} {t:ByteArray} (hr:r=0∨r=1) (h:LogOk lg) (he:apErr r lg c t=0):LogOk (lg ++ [apE r lg c t]):=by
 obtain ⟨a,b⟩:=apE_ok hr h he
 exact h.app a b
end Go.Proofs.YtfdolehffjmdmaaGreatDoor
/- Sites: what comes,what is appended and what settles leaves a right site (plain). -/
namespace Go.Proofs.YtfdolehffjmdmaaGreatDoor
open Go.RowKit
structure WaitOk (q:Int) (lg ws:List Entry):Prop where
 up:upE ws
 chk:∀ e ∈ ws,checkEntry e=0
 other:∀ e ∈ ws,e.id.r≠q
 new:∀ e ∈ ws,findE lg e.id < 0
theorem memE {ws:List Entry} {e:Entry}:e ∈ ws↔∃ k,k < ws.length∧nth ws k=e:=by
 constructor
 ·
  intro h
  obtain ⟨k,hk,rfl⟩:=List.getElem_of_mem h
  exact ⟨k,hk,nth_eq _ _ hk⟩
 ·
  rintro ⟨k,hk,rfl⟩
  exact nthM hk
theorem siErr_iff {q:Int} {lg ws:List Entry}:siErr q lg ws=0↔(q=0∨q=1)∧LogOk lg∧ws.length≤20∧WaitOk q lg ws∧∀ e ∈ ws,readyB lg e=false:=by
 have hb:∀ k,siBad q lg ws k=false↔(0 < k→lessB (nth ws (k - 1)).id (nth ws k).id=true)∧(nth ws k).id.r≠q∧findE lg (nth ws k).id < 0∧readyB lg (nth ws k)=false:=by
  intro k
  unfold siBad
  simp only [Bool.or_eq_false_iff,Bool.and_eq_false_iff,decide_eq_false_iff_not,Bool.not_eq_false',and_assoc,Int.not_le]
  constructor
  ·
   rintro ⟨a,b,c,d⟩
   exact ⟨fun hk=>a.resolve_left (by omega),b,c,d⟩
  ·
   rintro ⟨a,b,c,d⟩
   refine ⟨?_,b,c,d⟩
   by_cases hk:0 < k
   ·
    exact .inr (a hk)
   ·
    exact .inl hk
 constructor
 ·
  intro h
  obtain ⟨a,b,c,d⟩:=siErr_ok h
  refine ⟨a,b,c,⟨siErr_up h,fun e he=>?_,fun e he=>?_,fun e he=>?_⟩,fun e he=>?_⟩
  all_goals
   obtain ⟨k,hk,rfl⟩:=memE.1 he
   obtain ⟨d1,d2⟩:=d k hk
   have d3:=(hb k).1 d2
  ·
   exact d1
  ·
   exact d3.2.1
  ·
   exact d3.2.2.1
  ·
   exact d3.2.2.2
 ·
  rintro ⟨a,b,c,d,e⟩
  rw [siErr,if_neg (by simp [a]),if_neg (by simp [log_ok.2 b]),if_neg (by omega),firstNZ_zero]
  intro k hk
  have hm:=nthM hk
  rw [siWait,if_neg (by simp [d.chk _ hm]),if_neg]
  rw [Bool.not_eq_true]
  exact (hb k).2 ⟨fun h0=>d.up (k - 1) k (by omega) hk,d.other _ hm,d.new _ hm,e _ hm⟩
theorem upE_iff {ws:List Entry}:upE ws↔ws.Pairwise fun a b=>lessB a.id b.id=true:=by
 rw [List.pairwise_iff_getElem]
 constructor
 ·
  intro h i j hi hj hij
  have:=h i j hij hj
  rwa [nth_eq _ _ hi,nth_eq _ _ hj] at this
 ·
  intro h i j hij hj
  have:=h i j (by omega) hj hij
  rwa [← nth_eq,← nth_eq] at this
theorem upE_erase {ws:List Entry} (h:upE ws) (i:Nat):upE (ws.eraseIdx i):=upE_iff.2 ((upE_iff.1 h).sublist (List.eraseIdx_sublist ..))
theorem findE_app {lg:List Entry} {e:Entry} {y:Id} (h:findE lg y < 0) (hn:e.id≠y):findE (lg ++ [e]) y < 0:=by
 rw [findE_neg] at *
 intro x hx
 rcases List.mem_append.1 hx with q | q
 ·
  exact h x q
 ·
  simp at q; subst q; exact hn
theorem erase_ne {ws:List Entry} (h:upE ws) {i:Nat} (hi:i < ws.length) {e:Entry} (he:e ∈ ws.eraseIdx i):(nth ws i).id≠e.id:=by
 rw [List.mem_eraseIdx_iff_getElem] at he
 obtain ⟨j,hj,hji,rfl⟩:=he
 rw [← nth_eq ws j hj]
 intro hq
 rcases Nat.lt_trichotomy i j with a | a | a
 ·
  have:=h i j a hj
  rw [hq,lessB_irr] at this; cases this
 ·
  omega
 ·
  have:=h j i a hi
  rw [hq,lessB_irr] at this; cases this
theorem WaitOk.step {q:Int} {lg ws:List Entry} (h:WaitOk q lg ws) {i:Nat} (hi:i < ws.length):WaitOk q (lg ++ [nth ws i]) (ws.eraseIdx i) :=
 ⟨upE_erase h.up i,fun e he=>h.chk e (List.mem_of_mem_eraseIdx he),fun e he=>h.other e (List.mem_of_mem_eraseIdx he),fun e he=>findE_app (h.new e (List.mem_of_mem_eraseIdx he)) (erase_ne h.up hi he)⟩
theorem not_ready {lg ws:List Entry} (h:¬ 0≤rdyI lg ws):∀ e ∈ ws,readyB lg e=false:=by
 have:=idxF_any (readyB lg) ws
 rw [show idxF (readyB lg) ws 0=rdyI lg ws from rfl,decide_eq_false h] at this
 intro e he
 have:=List.any_eq_false.1 this.symm e he
 simpa using this
theorem settleN_right:∀ (k:Nat) (q:Int) (lg ws:List Entry),ws.length≤k→WaitOk q lg ws→WaitOk q (settleN k lg ws).1 (settleN k lg ws).2∧∀ e ∈ (settleN k lg ws).2,readyB (settleN k lg ws).1 e=false
 | 0,q,lg,ws,hk,h=>by
  obtain rfl:=List.length_eq_zero_iff.1 (Nat.le_zero.1 hk)
  exact ⟨h,fun e he=>by simp [settleN] at he⟩
 | k + 1,q,lg,ws,hk,h=>by
  rw [settleN]
  split
  ·
   rename_i hr
   have hl:=rdyI_lt hr
   exact settleN_right k q _ _ (by rw [List.length_eraseIdx,if_pos hl]; omega) (h.step hl)
  ·
   rename_i hr
   exact ⟨h,not_ready hr⟩
theorem settled_right {q:Int} {lg ws:List Entry} (h:WaitOk q lg ws):WaitOk q (settled lg ws).1 (settled lg ws).2∧∀ e ∈ (settled lg ws).2,readyB (settled lg ws).1 e=false:=settleN_right _ q lg ws (Nat.le_refl _) h
theorem ap_right {q:Int} {lg ws:List Entry} {c:Int} {t:ByteArray} (h0:siErr q lg ws=0) (h1:apErr q lg c t=0):siErr q (settled (lg ++ [apE q lg c t]) ws).1 (settled (lg ++ [apE q lg c t]) ws).2=0:=by
 obtain ⟨hq,hok,hw,hwo,-⟩:=siErr_iff.1 h0
 have hwo2:WaitOk q (lg ++ [apE q lg c t]) ws:=⟨hwo.up,hwo.chk,hwo.other,fun e he=>findE_app (hwo.new e he) fun hn=>hwo.other e he (by rw [← hn]; rfl)⟩
 obtain ⟨a,b⟩:=settled_right hwo2
 have hs:=(settled_sum (lg ++ [apE q lg c t]) ws).2
 exact siErr_iff.2 ⟨hq,(settled_ok (apE_log hq hok h1) hwo.chk).1,by omega,a,b⟩
theorem ins_split (e:Entry):∀ (l:List Entry) (p:Nat),p≤l.length→l.insertIdx p e=l.take p ++ e :: l.drop p
 | _,0,_=>by simp
 | [],p + 1,h=>by simp at h
 | y :: l,p + 1,h=>by
  simp only [List.insertIdx_succ_cons,List.take_succ_cons,List.drop_succ_cons,List.cons_append]
  rw [ins_split e l p (by simpa using h)]
theorem upE_ins {ws:List Entry} {e:Entry} (h:upE ws) (hn:¬ 0≤findE ws e.id):upE (ws.insertIdx (posE ws e.id) e):=by
 obtain ⟨p1,p2,p3⟩:=posE_spec h e.id
 have hne:=findE_not hn
 have hil:ws.insertIdx (posE ws e.id) e=ws.take (posE ws e.id) ++ e :: ws.drop (posE ws e.id):=ins_split e _ _ p1
 rw [upE_iff,hil,List.pairwise_append]
 have hp:=upE_iff.1 h
 have t1:∀ a ∈ ws.take (posE ws e.id),lessB a.id e.id=true:=fun a ha=>by
  rw [List.mem_take_iff_getElem] at ha
  obtain ⟨k,hk,rfl⟩:=ha
  rw [← nth_eq _ _ (by omega)]
  exact p2 k (by omega)
 have t2:∀ b ∈ ws.drop (posE ws e.id),lessB e.id b.id=true:=fun b hb=>by
  rw [List.mem_drop_iff_getElem] at hb
  obtain ⟨k,hk,rfl⟩:=hb
  rw [← nth_eq _ _ (by omega)]
  have:=p3 (posE ws e.id + k) (by omega) (by omega)
  cases hq:lessB e.id (nth ws (posE ws e.id + k)).id
  ·
   exact (hne _ (nthM (by omega)) (idEq_of this hq)).elim
  ·
   rfl
 refine ⟨hp.sublist (List.take_sublist ..),List.pairwise_cons.2 ⟨fun b hb=>t2 b hb,hp.sublist (List.drop_sublist ..)⟩,fun a ha b hb=>?_⟩
 rcases List.mem_cons.1 hb with q | q
 ·
  rw [q]; exact t1 a ha
 ·
  exact lessB_trans (t1 a ha) (t2 b q)
end Go.Proofs.YtfdolehffjmdmaaGreatDoor
/- Sites: in whatever order two come,the same is left (plain). -/
namespace Go.Proofs.YtfdolehffjmdmaaGreatDoor
open Go.RowKit
def EId (W:List Entry):Prop:=W.Pairwise fun a b=>a.id≠b.id
theorem EId.inj {W:List Entry} (h:EId W) {a b:Entry} (ha:a ∈ W) (hb:b ∈ W) (e:a.id=b.id):a=b:=by
 obtain ⟨i,hi,rfl⟩:=List.getElem_of_mem ha
 obtain ⟨j,hj,rfl⟩:=List.getElem_of_mem hb
 have h2:=List.pairwise_iff_getElem.1 h
 rcases Nat.lt_trichotomy i j with q | q | q
 ·
  exact (h2 i j hi hj q e).elim
 ·
  subst q; rfl
 ·
  exact (h2 j i hj hi q e.symm).elim
theorem EId.perm {W V:List Entry} (h:EId W) (hp:V.Perm W):EId V:=(hp.pairwise_iff fun {a b} q r=>q r.symm).2 h
theorem LogOk.has_num {l:List Entry} (h:LogOk l) {r n:Int} (h1:1≤n) (h2:n≤(cntR l r:Int)):∃ e ∈ l,e.id=⟨r,n⟩:=by
 have key:∀ k,k≤l.length→n≤(cntR (l.take k) r:Int)→∃ e ∈ l,e.id=⟨r,n⟩:=by
  intro k
  induction k with
  | zero=>intro _ h; simp [cntR] at h; omega
  | succ k ih =>
   intro hk hn
   by_cases hle:n≤(cntR (l.take k) r:Int)
   ·
    exact ih (by omega) hle
   ·
    have hs:=cntR_take l k r (by omega)
    by_cases e:(nth l k).id.r=r
    ·
     have hm:=h.num k (by omega)
     rw [e] at hm
     rw [if_pos e] at hs
     refine ⟨_,nthM (by omega:k < l.length),?_⟩
     have:(nth l k).id.n=n:=by omega
     cases hid:(nth l k).id
     rw [hid] at e this
     simp only at e this
     rw [e,this]
    ·
     rw [if_neg e] at hs
     omega
 exact key l.length (Nat.le_refl _) (by rw [List.take_length]; exact h2)
theorem findE_pos {l:List Entry} {y:Id}:0≤findE l y↔∃ e ∈ l,e.id=y:=by
 constructor
 ·
  intro h
  obtain ⟨k,-,h2,h3⟩:=findE_spec h
  exact ⟨_,nthM h2,h3⟩
 ·
  rintro ⟨e,he,hy⟩
  by_cases h:findE l y < 0
  ·
   exact (findE_neg.1 h e he hy).elim
  ·
   omega
structure Settles (lg W A WA u:List Entry):Prop where
 eq:A=lg ++ u
 perm:(u ++ WA).Perm W
 rdy:∀ i,i < u.length→readyB (lg ++ u.take i) (nth u i)=true
theorem erase_permG:∀ (W:List Entry) (i:Nat) (h:i < W.length),(W[i] :: W.eraseIdx i).Perm W
 | x :: W,0,_=>List.Perm.refl _
 | x :: W,i + 1,h=>by
  have:=erase_permG W i (by simpa using h)
  simp only [List.getElem_cons_succ,List.eraseIdx_cons_succ]
  exact (List.Perm.swap x _ _).trans (List.Perm.cons x this)
theorem erase_perm {W:List Entry} {i:Nat} (h:i < W.length):(nth W i :: W.eraseIdx i).Perm W:=by
 rw [nth_eq _ _ h]
 exact erase_permG W i h
theorem settleN_how:∀ (k:Nat) (lg W:List Entry),∃ u,Settles lg W (settleN k lg W).1 (settleN k lg W).2 u
 | 0,lg,W=>⟨[],by simp [settleN],by simp [settleN],fun i hi=>by simp at hi⟩
 | k + 1,lg,W=>by
  rw [settleN]
  split
  ·
   rename_i hr
   have hl:=rdyI_lt hr
   have hrd:=rdyI_ready hr
   generalize (rdyI lg W).toNat=i at *
   obtain ⟨u,h1,h2,h3⟩:=settleN_how k (lg ++ [nth W i]) (W.eraseIdx i)
   refine ⟨nth W i :: u,by rw [h1]; simp,?_,fun j hj=>?_⟩
   ·
    exact (List.Perm.cons _ h2).trans (erase_perm hl)
   ·
    cases j with
    | zero=>simpa [nth] using hrd
    | succ j =>
     have hj':j < u.length:=by simpa using hj
     have:=h3 j hj'
     rw [nth_eq _ _ hj,List.take_succ_cons,List.getElem_cons_succ,← nth_eq _ _ hj']
     rwa [List.append_assoc] at this
  ·
   exact ⟨[],by simp,by simp,fun i hi=>by simp at hi⟩
theorem settled_how (lg W:List Entry):∃ u,Settles lg W (settled lg W).1 (settled lg W).2 u:=settleN_how _ _ _
theorem Settles.sub {lg W A WA u A' WA' u' : List Entry} (h : Settles lg W A WA u) (h' : Settles lg W A' WA' u') (hA : LogOk A) (hA' : LogOk A') (hn : ∀ e ∈ W, findE lg e.id < 0) (hid : EId W)
    (hfin:∀ e ∈ WA',readyB A' e=false):∀ i,i < u.length→nth u i ∈ u':=by
  intro i
  induction i using Nat.strongRecOn with
  | _ i ih =>
    intro hi
    have hW:nth u i ∈ W:=h.perm.mem_iff.1 (List.mem_append.2 (.inl (nthM hi)))
    rcases List.mem_append.1 (h'.perm.mem_iff.2 hW) with q | q
    · exact q
    · have hr:=hfin _ q
      have hrd:=ready_iff.1 (h.rdy i hi)
      have hin:∀ e ∈ lg ++ u.take i,e ∈ A':=fun e he=>by
        rw [h'.eq]
        rcases List.mem_append.1 he with z | z
        · exact List.mem_append.2 (.inl z)
        · rw [List.mem_take_iff_getElem] at z
          obtain ⟨j,hj,rfl⟩:=z
          rw [← nth_eq _ _ (by omega)]
          exact List.mem_append.2 (.inr (ih j (by omega) (by omega)))
      have hpre:LogOk (lg ++ u.take i):=by
        have:=hA.take (n:=lg.length + i) (by rw [h.eq]; simp; omega)
        rwa [h.eq,List.take_length_add_append] at this
      have hbad:readyB A' (nth u i)=true∨nth u i ∈ u':=by
        by_cases hc:(nth u i).id.n≤(cntR A' (nth u i).id.r:Int)
        · obtain ⟨y,hy,hye⟩:=hA'.has_num (r:=(nth u i).id.r) (n:=(nth u i).id.n) (by omega) hc
          have hye2:y.id=(nth u i).id:=hye
          rw [h'.eq] at hy
          rcases List.mem_append.1 hy with z | z
          · exact (findE_neg.1 (hn _ hW) y z hye2).elim
          · have:=hid.inj (h'.perm.mem_iff.1 (List.mem_append.2 (.inl z))) hW hye2
            exact .inr (this ▸ z)
        · left
          refine ready_iff.2 ⟨?_,fun y hy=>?_⟩
          · have hge:(cntR (lg ++ u.take i) (nth u i).id.r:Int)≤(cntR A' (nth u i).id.r:Int):=by
              by_cases h0:cntR (lg ++ u.take i) (nth u i).id.r=0
              · omega
              · obtain ⟨y,hy,hye⟩:=hpre.has_num (r:=(nth u i).id.r) (n:=(cntR (lg ++ u.take i) (nth u i).id.r:Int)) (by omega) (Int.le_refl _)
                obtain ⟨k,hk,rfl⟩:=memE.1 (hin y hy)
                have:=hA'.num_le hk
                rw [hye] at this
                exact this
            omega
          · obtain ⟨z,hz,hze⟩:=findE_pos.1 (hrd.2 y hy)
            exact findE_pos.2 ⟨z,hin z hz,hze⟩
      rcases hbad with z | z
      · rw [z] at hr; cases hr
      · exact z
theorem up_ext:∀ {l m:List Entry},(l.Pairwise fun a b=>lessB a.id b.id=true)→(m.Pairwise fun a b=>lessB a.id b.id=true)→(∀ x,x ∈ l↔x ∈ m)→l=m
 | [],[],_,_,_=>rfl
 | [],y :: m,_,_,h=>by have:=(h y).2 (by simp); simp at this
 | x :: l,[],_,_,h=>by have:=(h x).1 (by simp); simp at this
 | x :: l,y :: m,h1,h2,h=>by
  have h1':=List.pairwise_cons.1 h1
  have h2':=List.pairwise_cons.1 h2
  have hxy:x=y:=by
   rcases List.mem_cons.1 ((h x).1 (by simp)) with e | e
   ·
    exact e
   rcases List.mem_cons.1 ((h y).2 (by simp)) with e' | e'
   ·
    exact e'.symm
   have:=lessB_trans (h1'.1 y e') (h2'.1 x e)
   rw [lessB_irr] at this; cases this
  subst hxy
  rw [up_ext h1'.2 h2'.2 fun z=>?_]
  constructor
  ·
   intro hz
   rcases List.mem_cons.1 ((h z).1 (by simp [hz])) with e | e
   ·
    subst e; have:=h1'.1 z hz; rw [lessB_irr] at this; cases this
   ·
    exact e
  ·
   intro hz
   rcases List.mem_cons.1 ((h z).2 (by simp [hz])) with e | e
   ·
    subst e; have:=h2'.1 z hz; rw [lessB_irr] at this; cases this
   ·
    exact e
theorem mem_nth {u v:List Entry} (h:∀ i,i < u.length→nth u i ∈ v):∀ e ∈ u,e ∈ v:=fun e he=>by
 obtain ⟨k,hk,rfl⟩:=memE.1 he
 exact h k hk
theorem cnt_le {A A':List Entry} (hA:LogOk A) (hA':LogOk A') (h:∀ e ∈ A,e ∈ A') (r:Int):cntR A r≤cntR A' r:=by
 by_cases h0:cntR A r=0
 ·
  omega
 ·
  obtain ⟨y,hy,hye⟩:=hA.has_num (r:=r) (n:=(cntR A r:Int)) (by omega) (Int.le_refl _)
  obtain ⟨k,hk,rfl⟩:=memE.1 (h y hy)
  have:=hA'.num_le hk
  rw [hye] at this
  simp only at this
  omega
theorem Settles.same {q : Int} {lg W A WA u A' WA' u' : List Entry} (h : Settles lg W A WA u) (h' : Settles lg W A' WA' u') (hn : ∀ e ∈ W, findE lg e.id < 0) (hid : EId W) (hs : siErr q A WA = 0) (hs' : siErr q A' WA' = 0) :
    (∀ r,cntR A r=cntR A' r)∧WA=WA':=by
  obtain ⟨-,o,-,w,f⟩:=siErr_iff.1 hs
  obtain ⟨-,o',-,w',f'⟩:=siErr_iff.1 hs'
  have s1:=mem_nth (h.sub h' o o' hn hid f')
  have s2:=mem_nth (h'.sub h o' o hn hid f)
  have a1:∀ e ∈ A,e ∈ A':=fun e he=>by
    rw [h.eq] at he; rw [h'.eq]
    rcases List.mem_append.1 he with z | z
    · exact List.mem_append.2 (.inl z)
    · exact List.mem_append.2 (.inr (s1 e z))
  have a2:∀ e ∈ A',e ∈ A:=fun e he=>by
    rw [h'.eq] at he; rw [h.eq]
    rcases List.mem_append.1 he with z | z
    · exact List.mem_append.2 (.inl z)
    · exact List.mem_append.2 (.inr (s2 e z))
  refine ⟨fun r=>Nat.le_antisymm (cnt_le o o' a1 r) (cnt_le o' o a2 r),up_ext (upE_iff.1 w.up) (upE_iff.1 w'.up) fun x=>?_⟩
  have n1:=List.pairwise_append.1 (hid.perm h.perm)
  have n2:=List.pairwise_append.1 (hid.perm h'.perm)
  constructor
  · intro hx
    rcases List.mem_append.1 (h'.perm.mem_iff.2 (h.perm.mem_iff.1 (List.mem_append.2 (.inr hx)))) with z | z
    · exact (n1.2.2 x (s2 x z) x hx rfl).elim
    · exact z
  · intro hx
    rcases List.mem_append.1 (h.perm.mem_iff.2 (h'.perm.mem_iff.1 (List.mem_append.2 (.inr hx)))) with z | z
    · exact (n2.2.2 x (s1 x z) x hx rfl).elim
    · exact z
theorem Settles.trans {lg W A WA u B WB v:List Entry} {e:Entry} (h:Settles lg W A WA u) (h2:Settles A (WA.insertIdx (posE WA e.id) e) B WB v):Settles lg (e :: W) B WB (u ++ v):=by
 refine ⟨by rw [h2.eq,h.eq,List.append_assoc],?_,fun i hi=>?_⟩
 ·
  have p1:(WA.insertIdx (posE WA e.id) e).Perm (e :: WA):=by
   rw [ins_split e _ _ (posE_le ..)]
   refine List.perm_middle.trans (List.Perm.cons _ ?_)
   rw [List.take_append_drop]
  have p2:(v ++ WB).Perm (e :: WA):=h2.perm.trans p1
  rw [List.append_assoc]
  refine (List.Perm.append_left u p2).trans (List.perm_middle.trans (List.Perm.cons _ h.perm))
 ·
  by_cases hlt:i < u.length
  ·
   rw [List.take_append_of_le_length (by omega),nth_eq _ _ hi,List.getElem_append_left hlt,← nth_eq _ _ hlt]
   exact h.rdy i hlt
  ·
   have hi2:i - u.length < v.length:=by rw [List.length_append] at hi; omega
   have:=h2.rdy (i - u.length) hi2
   rw [h.eq] at this
   rw [nth_eq _ _ hi,List.getElem_append_right (by omega),← nth_eq _ _ hi2]
   rw [List.take_append,List.take_of_length_le (by omega),← List.append_assoc]
   exact this
end Go.Proofs.YtfdolehffjmdmaaGreatDoor
/- Sites: two that come,one way or the other (plain). -/
namespace Go.Proofs.YtfdolehffjmdmaaGreatDoor
open Go.RowKit
def there (lg ws:List Entry) (y:Id):Prop:=∃ x,(x ∈ lg∨x ∈ ws)∧x.id=y
theorem there_iff {lg ws:List Entry} {y:Id}:(0≤findE lg y∨0≤findE ws y)↔there lg ws y:=by
 rw [findE_pos,findE_pos]
 constructor
 ·
  rintro (⟨e,h,he⟩ | ⟨e,h,he⟩)
  ·
   exact ⟨e,.inl h,he⟩
  ·
   exact ⟨e,.inr h,he⟩
 ·
  rintro ⟨e,h | h,he⟩
  ·
   exact .inl ⟨e,h,he⟩
  ·
   exact .inr ⟨e,h,he⟩
theorem Settles.there_iff {lg W A WA u:List Entry} (h:Settles lg W A WA u) {y:Id}:there A WA y↔there lg W y:=by
 constructor
 ·
  rintro ⟨x,hx,hy⟩
  refine ⟨x,?_,hy⟩
  rw [h.eq] at hx
  rcases hx with z | z
  ·
   rcases List.mem_append.1 z with z | z
   ·
    exact .inl z
   ·
    exact .inr (h.perm.mem_iff.1 (List.mem_append.2 (.inl z)))
  ·
   exact .inr (h.perm.mem_iff.1 (List.mem_append.2 (.inr z)))
 ·
  rintro ⟨x,hx,hy⟩
  refine ⟨x,?_,hy⟩
  rw [h.eq]
  rcases hx with z | z
  ·
   exact .inl (List.mem_append.2 (.inl z))
  ·
   rcases List.mem_append.1 (h.perm.mem_iff.2 z) with z | z
   ·
    exact .inl (List.mem_append.2 (.inr z))
   ·
    exact .inr z
theorem there_ins {lg ws:List Entry} {e:Entry} {y:Id}:there lg (ws.insertIdx (posE ws e.id) e) y↔there lg ws y∨e.id=y:=by
 unfold there
 simp only [List.mem_insertIdx (posE_le ws e.id)]
 constructor
 ·
  rintro ⟨x,h | h | h,hy⟩
  ·
   exact .inl ⟨x,.inl h,hy⟩
  ·
   exact .inr (h ▸ hy)
  ·
   exact .inl ⟨x,.inr h,hy⟩
 ·
  rintro (⟨x,h | h,hy⟩ | hy)
  ·
   exact ⟨x,.inl h,hy⟩
  ·
   exact ⟨x,.inr (.inr h),hy⟩
  ·
   exact ⟨e,.inr (.inl rfl),hy⟩
theorem WaitOk.ins {q:Int} {lg ws:List Entry} {e:Entry} (h:WaitOk q lg ws) (h1:checkEntry e=0) (hn:¬ there lg ws e.id) (hr:e.id.r≠q):WaitOk q lg (ws.insertIdx (posE ws e.id) e):=by
 have hn2:¬ (0≤findE lg e.id∨0≤findE ws e.id):=fun z=>hn (there_iff.1 z)
 refine ⟨upE_ins h.up (by omega),fun y hy=>?_,fun y hy=>?_,fun y hy=>?_⟩
 all_goals
  rcases (List.mem_insertIdx (posE_le ws e.id)).1 hy with z | z
 ·
  rw [z]; exact h1
 ·
  exact h.chk y z
 ·
  rw [z]; exact hr
 ·
  exact h.other y z
 ·
  rw [z]; omega
 ·
  exact h.new y z
theorem WaitOk.len {q:Int} {lg ws:List Entry} (hq:q=0∨q=1) (h:WaitOk q lg ws):ws.length≤20:=by
 have hb:∀ e ∈ ws,(e.id.r=0∨e.id.r=1)∧1≤e.id.n∧e.id.n < 21:=fun e he=>by
  have:=(check_ok_bounds (h.chk e he)).1
  simp only [okId,Bool.and_eq_true,wthn_iff] at this
  omega
 have hp:(ws.map fun e=>e.id.n).Pairwise (· < ·):=by
  rw [List.pairwise_map,List.pairwise_iff_getElem]
  intro i j hi hj hij
  have h1:=(List.pairwise_iff_getElem.1 (upE_iff.1 h.up)) i j hi hj hij
  have m1:=List.getElem_mem hi
  have m2:=List.getElem_mem hj
  have b1:=hb _ m1
  have b2:=hb _ m2
  have o1:=h.other _ m1
  have o2:=h.other _ m2
  simp only [lessB,decide_eq_true_eq] at h1
  omega
 have:=rise_len _ 1 21 hp (fun x hx=>by
  obtain ⟨e,he,rfl⟩:=List.mem_map.1 hx
  have:=hb e he
  omega) (by omega)
 rw [List.length_map] at this
 omega
theorem rc_there {q:Int} {lg ws:List Entry} {e:Entry} (h0:siErr q lg ws=0) (h1:checkEntry e=0) (h:there lg ws e.id):rcErrX q lg ws e=0∧rcSiX q lg ws e=(q,lg,ws):=by
 have h2:=there_iff.2 h
 constructor
 ·
  rw [rcErrX,if_neg (by simp [h0]),if_neg (by simp [h1]),rcErr,if_pos h2]
 ·
  rw [rcSiX,if_neg (by simp [h0,h1]),rcSi,if_pos h2]
theorem rc_new {q:Int} {lg ws:List Entry} {e:Entry} (h0:siErr q lg ws=0) (h1:checkEntry e=0) (h:¬ there lg ws e.id) (hr:e.id.r≠q):rcErrX q lg ws e=0∧rcSiX q lg ws e=(q,(rcP lg ws e).1,(rcP lg ws e).2)∧siErr q (rcP lg ws e).1 (rcP lg ws e).2=0∧∃ u,Settles lg (ws.insertIdx (posE ws e.id) e) (rcP lg ws e).1 (rcP lg ws e).2 u:=by
 have h2:¬ (0≤findE lg e.id∨0≤findE ws e.id):=fun z=>h (there_iff.1 z)
 obtain ⟨hq,hok,hw,hwo,-⟩:=siErr_iff.1 h0
 have hwo2:=hwo.ins h1 h hr
 obtain ⟨a,b⟩:=settled_right hwo2
 obtain ⟨c,-,-⟩:=settled_ok hok hwo2.chk
 have hl:=a.len hq
 have hc:=c.len
 have he:rcErr q lg ws e=0:=by
  rw [rcErr,if_neg h2,if_neg hr,if_neg]
  show ¬ (20 < (settled lg (ws.insertIdx (posE ws e.id) e)).2.length∨40 < (settled lg (ws.insertIdx (posE ws e.id) e)).1.length)
  omega
 refine ⟨?_,?_,siErr_iff.2 ⟨hq,c,hl,a,b⟩,settled_how ..⟩
 ·
  rw [rcErrX,if_neg (by simp [h0]),if_neg (by simp [h1]),he]
 ·
  rw [rcSiX,if_neg (by simp [h0,h1]),rcSi,if_neg h2,if_pos he]
end Go.Proofs.YtfdolehffjmdmaaGreatDoor
/- Worlds: what is right,what an act does (plain). -/
namespace Go.Proofs.YtfdolehffjmdmaaGreatDoor
open Go.RowKit
theorem sameE_iff {a b:Entry}:sameE a b=true↔a=b:=by
 rw [Entry.eq_iff]; simp [sameE,and_assoc]
structure Wo where
 p:List Entry
 u:List Entry
 q:List Entry
 v:List Entry
 a:List Entry
 b:List Entry
def Wo.log (w:Wo) (i:Int):List Entry:=if i=0 then w.p else w.q
def Wo.wts (w:Wo) (i:Int):List Entry:=if i=0 then w.u else w.v
def Wo.way (w:Wo) (i:Int):List Entry:=if i=0 then w.a else w.b
def Wo.setS (w:Wo) (i:Int) (s:List Entry × List Entry):Wo:=if i=0 then { w with p:=s.1,u:=s.2 } else { w with q:=s.1,v:=s.2 }
def Wo.setY (w:Wo) (i:Int) (l:List Entry):Wo:=if i=0 then { w with a:=l } else { w with b:=l }
abbrev Si:=Int × List Entry × List Entry
def logAt (ss:List Si) (r:Int):List Entry:=(nth ss r.toNat).2.1
def bornB (ss:List Si) (e:Entry):Bool:=decide (0≤findE (logAt ss e.id.r) e.id) && sameE (nth (logAt ss e.id.r) (findE (logAt ss e.id.r) e.id).toNat) e
def wayE (ss:List Si) (l:List Entry) (k:Nat):Int:=if checkEntry (nth l k)=0 then (if bornB ss (nth l k)=true then 0 else 4) else checkEntry (nth l k)
def wayErr (ss:List Si) (l:List Entry):Int:=if 30 < l.length then 2 else firstNZ (wayE ss l) l.length
def steE (ss:List Si) (i:Nat):Int:=if siErr (nth ss i).1 (nth ss i).2.1 (nth ss i).2.2=0 then (if (nth ss i).1=(i:Int) then 0 else 4) else siErr (nth ss i).1 (nth ss i).2.1 (nth ss i).2.2
def strB (ss:List Si) (s:Si):Bool:=(s.2.1.any fun e => !bornB ss e) || s.2.2.any fun e => !bornB ss e
def woErr (ss:List Si) (ys:List (List Entry)):Int :=
 if ¬ (ss.length=2∧ys.length=2) then 1
 else if firstNZ (steE ss) 2≠0 then firstNZ (steE ss) 2
 else if firstNZ (fun i=>wayErr ss (nth ys i)) 2≠0 then firstNZ (fun i=>wayErr ss (nth ys i)) 2
 else if (strB ss (nth ss 0) || strB ss (nth ss 1))=true then 4 else 0
def Wo.ss (w:Wo):List Si := [(0,w.p,w.u),(1,w.q,w.v)]
def Wo.ys (w:Wo):List (List Entry) := [w.a,w.b]
def Born (w:Wo) (e:Entry):Prop:=e ∈ w.log e.id.r
structure WoOk (w:Wo):Prop where
 s0:siErr 0 w.p w.u=0
 s1:siErr 1 w.q w.v=0
 la:w.a.length≤30
 lb:w.b.length≤30
 ca:∀ e ∈ w.a,checkEntry e=0
 cb:∀ e ∈ w.b,checkEntry e=0
 ba:∀ e ∈ w.a,Born w e
 bb:∀ e ∈ w.b,Born w e
 bp:∀ e ∈ w.p,Born w e
 bu:∀ e ∈ w.u,Born w e
 bq:∀ e ∈ w.q,Born w e
 bv:∀ e ∈ w.v,Born w e
theorem logAt_of (w:Wo) {r:Int} (h:r=0∨r=1):logAt w.ss r=w.log r:=by
 rcases h with rfl | rfl
 ·
  rfl
 ·
  rfl
theorem LogOk.mem_find {l:List Entry} (h:LogOk l) {e:Entry} (he:e ∈ l):∃ k,k < l.length∧findE l e.id=k∧nth l k=e:=by
 obtain ⟨k,hk,rfl⟩:=memE.1 he
 exact ⟨k,hk,h.find hk,rfl⟩
theorem born_iff {w:Wo} (h0:LogOk w.p) (h1:LogOk w.q) {e:Entry} (hr:e.id.r=0∨e.id.r=1):bornB w.ss e=true↔Born w e:=by
 have hl:LogOk (w.log e.id.r):=by
  rcases hr with q | q
  ·
   rw [q]; exact h0
  ·
   rw [q]; exact h1
 rw [bornB,logAt_of w hr,Bool.and_eq_true,decide_eq_true_eq,sameE_iff]
 constructor
 ·
  rintro ⟨a,b⟩
  obtain ⟨k,c,d,-⟩:=findE_spec a
  rw [c,Int.toNat_natCast] at b
  rw [Born,← b]
  have:=nthM d
  rwa [b] at this ⊢
 ·
  intro hb
  obtain ⟨k,hk,hf,hn⟩:=hl.mem_find hb
  rw [hf,Int.toNat_natCast]
  exact ⟨by omega,hn⟩
theorem check_reg {e:Entry} (h:checkEntry e=0):e.id.r=0∨e.id.r=1:=reg_of_check h
theorem LogOk.mem_chk {l:List Entry} (h:LogOk l) {e:Entry} (he:e ∈ l):checkEntry e=0:=by
 obtain ⟨k,hk,rfl⟩:=memE.1 he
 exact h.chk k hk
theorem wayErr_iff {w:Wo} (h0:LogOk w.p) (h1:LogOk w.q) {l:List Entry}:wayErr w.ss l=0↔l.length≤30∧∀ e ∈ l,checkEntry e=0∧Born w e:=by
 have key:∀ k,wayE w.ss l k=0↔checkEntry (nth l k)=0∧Born w (nth l k):=by
  intro k
  unfold wayE
  by_cases hc:checkEntry (nth l k)=0
  ·
   rw [if_pos hc,← born_iff h0 h1 (check_reg hc)]
   by_cases hb:bornB w.ss (nth l k)=true
   ·
    rw [if_pos hb]; simp [hc,hb]
   ·
    rw [if_neg hb]; simp [hc,hb]
  ·
   rw [if_neg hc]; simp [hc]
 unfold wayErr
 by_cases hl:30 < l.length
 ·
  rw [if_pos hl]; constructor
  ·
   intro h; cases h
  ·
   rintro ⟨a,-⟩; omega
 ·
  rw [if_neg hl,firstNZ_zero]
  constructor
  ·
   intro h
   refine ⟨by omega,fun e he=>?_⟩
   obtain ⟨k,hk,rfl⟩:=memE.1 he
   exact (key k).1 (h k hk)
  ·
   rintro ⟨-,h⟩ k hk
   exact (key k).2 (h _ (nthM hk))
theorem strB_iff {w:Wo} (h0:LogOk w.p) (h1:LogOk w.q) {s:Si} (hs:∀ e,e ∈ s.2.1∨e ∈ s.2.2→e.id.r=0∨e.id.r=1):strB w.ss s=false↔(∀ e ∈ s.2.1,Born w e)∧∀ e ∈ s.2.2,Born w e:=by
 simp only [strB,Bool.or_eq_false_iff,List.any_eq_false,Bool.not_eq_true',Bool.not_eq_false]
 constructor
 ·
  rintro ⟨a,b⟩
  exact ⟨fun e he=>(born_iff h0 h1 (hs e (.inl he))).1 (a e he),fun e he=>(born_iff h0 h1 (hs e (.inr he))).1 (b e he)⟩
 ·
  rintro ⟨a,b⟩
  exact ⟨fun e he=>(born_iff h0 h1 (hs e (.inl he))).2 (a e he),fun e he=>(born_iff h0 h1 (hs e (.inr he))).2 (b e he)⟩
theorem si_reg {r:Int} {lg ws:List Entry} (h:siErr r lg ws=0):∀ e,e ∈ lg∨e ∈ ws→e.id.r=0∨e.id.r=1:=fun e he=>by
 obtain ⟨-,a,-,b,-⟩:=siErr_iff.1 h
 rcases he with q | q
 ·
  exact check_reg (a.mem_chk q)
 ·
  exact check_reg (b.chk e q)
theorem firstNZ2 (f:Nat→Int):firstNZ f 2=if f 0=0 then f 1 else f 0:=by
 simp only [firstNZ]
 by_cases h:f 0=0
 ·
  simp [h]
 ·
  simp [h]
theorem woErr_ok {w:Wo}:woErr w.ss w.ys=0↔WoOk w:=by
 unfold woErr
 rw [if_neg (by simp [Wo.ss,Wo.ys]),firstNZ2,firstNZ2]
 have e0:steE w.ss 0=siErr 0 w.p w.u:=by
  unfold steE
  show (if siErr 0 w.p w.u=0 then (if (0:Int)=((0:Nat):Int) then (0:Int) else 4) else siErr 0 w.p w.u)=_
  by_cases h:siErr 0 w.p w.u=0
  ·
   rw [if_pos h,if_pos (by simp),h]
  ·
   rw [if_neg h]
 have e1:steE w.ss 1=siErr 1 w.q w.v:=by
  unfold steE
  show (if siErr 1 w.q w.v=0 then (if (1:Int)=((1:Nat):Int) then (0:Int) else 4) else siErr 1 w.q w.v)=_
  by_cases h:siErr 1 w.q w.v=0
  ·
   rw [if_pos h,if_pos (by simp),h]
  ·
   rw [if_neg h]
 have n0:nth w.ys 0=w.a:=rfl
 have n1:nth w.ys 1=w.b:=rfl
 rw [e0,e1]
 simp only [n0,n1]
 by_cases h0:siErr 0 w.p w.u=0
 ·
  by_cases h1:siErr 1 w.q w.v=0
  ·
   obtain ⟨-,hp,-,-,-⟩:=siErr_iff.1 h0
   obtain ⟨-,hq,-,-,-⟩:=siErr_iff.1 h1
   simp only [h0,h1,if_true,ne_eq,not_true_eq_false,if_false]
   have wa:=wayErr_iff hp hq (l:=w.a)
   have wb:=wayErr_iff hp hq (l:=w.b)
   have x0:=strB_iff hp hq (s:=(0,w.p,w.u)) (si_reg h0)
   have x1:=strB_iff hp hq (s:=(1,w.q,w.v)) (si_reg h1)
   have y0:nth w.ss 0=(0,w.p,w.u):=rfl
   have y1:nth w.ss 1=(1,w.q,w.v):=rfl
   rw [y0,y1]
   by_cases ha:wayErr w.ss w.a=0
   ·
    by_cases hb:wayErr w.ss w.b=0
    ·
     simp only [ha,hb,if_true,not_true_eq_false,if_false]
     obtain ⟨a1,a2⟩:=wa.1 ha
     obtain ⟨b1,b2⟩:=wb.1 hb
     constructor
     ·
      intro h
      have hs:(strB w.ss (0,w.p,w.u) || strB w.ss (1,w.q,w.v))=false:=by
       cases hq:(strB w.ss (0,w.p,w.u) || strB w.ss (1,w.q,w.v))
       ·
        rfl
       ·
        rw [hq,if_pos rfl] at h; cases h
      rw [Bool.or_eq_false_iff] at hs
      obtain ⟨c1,c2⟩:=x0.1 hs.1
      obtain ⟨d1,d2⟩:=x1.1 hs.2
      exact ⟨h0,h1,a1,b1,fun e he=>(a2 e he).1,fun e he=>(b2 e he).1,fun e he=>(a2 e he).2,fun e he=>(b2 e he).2,c1,c2,d1,d2⟩
     ·
      intro h
      rw [x0.2 ⟨h.bp,h.bu⟩,x1.2 ⟨h.bq,h.bv⟩]; rfl
    ·
     simp only [ha,hb,if_true,not_false_eq_true]
     exact ⟨fun h=>h.elim,fun h=>(hb (wb.2 ⟨h.lb,fun e he=>⟨h.cb e he,h.bb e he⟩⟩)).elim⟩
   ·
    simp only [ha,if_false,not_false_eq_true,if_true]
    exact ⟨fun h=>h.elim,fun h=>(ha (wa.2 ⟨h.la,fun e he=>⟨h.ca e he,h.ba e he⟩⟩)).elim⟩
  ·
   simp only [h0,h1,if_true,ne_eq,not_false_eq_true]
   exact ⟨fun h=>h.elim,fun h=>(h1 h.s1).elim⟩
 ·
  simp only [h0,if_false,ne_eq,not_false_eq_true,if_true]
  exact ⟨fun h=>h.elim,fun h=>(h0 h.s0).elim⟩
theorem woErr_inv {ss:List Si} {ys:List (List Entry)} (h:woErr ss ys=0):∃ w:Wo,ss=w.ss∧ys=w.ys∧WoOk w:=by
 have hl:ss.length=2∧ys.length=2:=by
  by_cases hl:ss.length=2∧ys.length=2
  ·
   exact hl
  ·
   rw [woErr,if_pos hl] at h; cases h
 have h2:=h
 unfold woErr at h2
 rw [if_neg (by simp [hl]),firstNZ2] at h2
 match ss,ys,hl with
 | [(r,p,u),(t,q,v)],[a,b],_ =>
  have hs:r=0∧t=1:=by
   by_cases e0:steE [(r,p,u),(t,q,v)] 0=0
   ·
    rw [if_pos e0] at h2
    have e1:steE [(r,p,u),(t,q,v)] 1=0:=by
     by_cases e1:steE [(r,p,u),(t,q,v)] 1=0
     ·
      exact e1
     ·
      rw [if_pos e1] at h2; exact h2
    have f0:steE [(r,p,u),(t,q,v)] 0=if siErr r p u=0 then (if r=0 then 0 else 4) else siErr r p u:=rfl
    have f1:steE [(r,p,u),(t,q,v)] 1=if siErr t q v=0 then (if t=1 then 0 else 4) else siErr t q v:=rfl
    rw [f0] at e0; rw [f1] at e1
    constructor
    ·
     split at e0
     ·
      split at e0
      ·
       assumption
      ·
       cases e0
     ·
      exact (‹¬ _› e0).elim
    ·
     split at e1
     ·
      split at e1
      ·
       assumption
      ·
       cases e1
     ·
      exact (‹¬ _› e1).elim
   ·
    rw [if_neg e0,if_pos e0] at h2; exact (e0 h2).elim
  obtain ⟨rfl,rfl⟩:=hs
  exact ⟨⟨p,u,q,v,a,b⟩,rfl,rfl,woErr_ok.1 h⟩
end Go.Proofs.YtfdolehffjmdmaaGreatDoor
