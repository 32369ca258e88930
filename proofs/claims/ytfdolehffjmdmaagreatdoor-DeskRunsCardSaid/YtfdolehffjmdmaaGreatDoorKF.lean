/- Joined texts of this claim: J5 F1 Sw F2 Sj J1 F3 F6 F7 H1 Lt F8 F9 F10 F11 F12 J2 F4 F5 F13 F14 F15 F16 F17 L22 L9 L23 F19 J3 J4 L26 F18 J6 L32 Open. -/
import Derived.Test.YtfdolehffjmdmaaGreatDoorKE
import Derived.Test.YtfdolehffjmdmaaGreatDoorKD
import Derived.Test.YtfdolehffjmdmaaGreatDoorKC
import Derived.Shelf.SlSortCmp.WholeK
import Derived.Shelf.SlLaysF0
import Derived.Shelf.Lays
import Derived.Test.YtfdolehffjmdmaaGreatDoorProg
import Derived.KernelRfl
import Derived.Shelf.Strings.Split
import Derived.Lib.Join
import Derived.Shelf.Strings.OnBuilder
import Derived.Test.YtfdolehffjmdmaaGreatDoorKB
import Derived.Shelf.Small.Strs
import Derived.ProofKit
import Derived.OpenShut
import Derived.Carry
set_option linter.unusedSimpArgs false
set_option linter.unusedVariables false
set_option linter.unusedSectionVars false
/- Scripts: desk.clerk.do,desk.Run: contracts. -/
namespace Go.Proofs.YtfdolehffjmdmaaGreatDoor
set_option linter.unusedSimpArgs false
set_option linter.unusedVariables false
open Go.RowKit
abbrev Ac:=Int × Int × Int × Int × ByteArray
def cAc (a:Ac):List PV:=cAct a.1 a.2.1 a.2.2.1 a.2.2.2.1 a.2.2.2.2
def acErr (w:Wo) (a:Ac):Int:=doErr w a.1 a.2.1 a.2.2.1 a.2.2.2.1 a.2.2.2.2
def acW (w:Wo) (a:Ac):Wo:=if acErr w a=0 then doW w a.1 a.2.1 a.2.2.1 a.2.2.2.1 a.2.2.2.2 else w
def cInt (n:Int):List PV := [.int .i64 n]
theorem acW_ok {w:Wo} (h:WoOk w) (a:Ac):WoOk (acW w a):=by
 unfold acW
 split
 ·
  rename_i he; exact (doW_ok h he).2.1
 ·
  exact h
def runStep (r:Wo × List Int) (a:Ac):Wo × List Int:=(acW r.1 a,r.2 ++ [acErr r.1 a])
def runW (l:List Ac):Wo × List Int:=l.foldl runStep (wNew,[])
theorem run_take {l:List Ac} {k:Nat} (h:k < l.length):runW (l.take (k + 1))=runStep (runW (l.take k)) (nth l k):=by
 rw [List.take_add_one,nth_get? _ _ h,runW,List.foldl_append]; rfl
theorem run_ok (l:List Ac):∀ k,k≤l.length→WoOk (runW (l.take k)).1∧(runW (l.take k)).2.length=k
 | 0,_=>by
  rw [List.take_zero]
  exact ⟨show WoOk wNew from woErr_ok.1 (by decide +kernel),rfl⟩
 | k + 1,hk=>by
  obtain ⟨a,b⟩:=run_ok l k (by omega)
  rw [run_take (by omega)]
  exact ⟨acW_ok a _,by simp [runStep,b]⟩
def hCl (w:Wo) (es:List Int) (v T:Nat):List AObj := [.box [.list (w.ss.map cSi3),.list (cYs w.ys),.arr 1 v],.arr v true false T 1 (es.map cInt)]
set_option maxHeartbeats 4000000 in
theorem clerkDo_meets (w : Wo) (h : WoOk w) (a : Ac) (es : List Int) (v : Nat) (hes : es.length ≤ 1000) :
    Meets Tryz.prog 67 [.ptr 0 0,.agg (cAc a)] (hCl w es v 24) (.tup []) (hCl (acW w a) (es ++ [acErr w a]) (v + 1) 24):=by
  obtain ⟨k,i,n,c,t⟩:=a
  have hraw:=raw_meets w h k i n c t
  have e1:acErr w (k,i,n,c,t)=doErr w k i n c t:=rfl
  refine Meets.of_walk Tryz.func67 Tryz.ntmps67 low67 res67 (by simp) fun x hx=>?_
  simp only [go_sem,L67,R67,hCl,cAc,cAct,intS,Int.reduceLT,Int.reduceLE,Int.reduceToNat,Int.reduceAdd,frz]
  refine ops_call (.pureE hraw (by simp [go_sem,cWo,cWd,cAct])) ?_
  by_cases he:doErr w k i n c t=0
  · have e2:acW w (k,i,n,c,t)=doW w k i n c t:=by rw [acW,e1,if_pos he]
    rw [doC,if_pos he,he,e1,e2,he]
    simp only [go_sem,intS,Int.reduceLT,Int.reduceLE,Int.reduceToNat,Int.reduceAdd,frz,cWo,cWd]
    repeat refine ⟨rfl,?_⟩
    rw [app_arr rfl rfl (by simp) (by simp; omega)]
    simp only [go_sem,intS,Int.reduceLT,Int.reduceLE,Int.reduceToNat,Int.reduceAdd,frz]
    refine end_keep [] (by simp) (by simp) (by simp [hx,hCl]) ?_ ?_
    · simp [go_sem,L67,R67,hx]
    · simp [subHeap,renObj,renCell,renLeaf,hx,pos,go_sem,hCl,List.range_succ,cInt]
  · have e2:acW w (k,i,n,c,t)=w:=by rw [acW,e1,if_neg he]
    rw [doC,if_neg he,e1,e2]
    simp only [go_sem,intS,Int.reduceLT,Int.reduceLE,Int.reduceToNat,Int.reduceAdd,frz,cWoN]
    repeat refine ⟨rfl,?_⟩
    simp only [go_sem,intS,Int.reduceLT,Int.reduceLE,Int.reduceToNat,Int.reduceAdd,frz,he]
    rw [app_arr rfl rfl (by simp) (by simp; omega)]
    simp only [go_sem,intS,Int.reduceLT,Int.reduceLE,Int.reduceToNat,Int.reduceAdd,frz]
    refine end_keep [] (by simp) (by simp) (by simp [hx,hCl]) ?_ ?_
    · simp [go_sem,L67,R67,hx]
    · simp [subHeap,renObj,renCell,renLeaf,hx,pos,go_sem,hCl,List.range_succ,cInt]
set_option maxHeartbeats 4000000 in
theorem run_meets (l:List Ac) (hl:l.length≤9223372036854775806):Meets Tryz.prog 24 [.list (l.map cAc)] [] (if 40 < l.length then .tup [.agg cWoN,.list [],.int .i64 2] else .tup [.agg (cWo (runW l).1),.list ((runW l).2.map cInt),.int .i64 0]) []:=by
 refine Meets.of_walk Tryz.func24 Tryz.ntmps24 low24 res24 (by simp) fun x hx=>?_
 simp only [go_sem,L24,R24]
 by_cases h40:(40:Int) < (l.length:Int)
 ·
  rw [if_pos (by omega:40 < l.length)]
  simp only [go_sem,intS,Int.reduceLT,Int.reduceLE,Int.reduceToNat,Int.reduceAdd,frz,h40]
  refine ret_pure hx ?_
  simp [go_sem,L24,R24,cWoN]
 ·
  rw [if_neg (by omega:¬ 40 < l.length)]
  simp only [go_sem,intS,Int.reduceLT,Int.reduceLE,Int.reduceToNat,Int.reduceAdd,frz,h40]
  refine ops_call (.pure woNew_meets) ?_
  simp only [go_sem,intS,Int.reduceLT,Int.reduceLE,Int.reduceToNat,Int.reduceAdd,frz,cWo,cWd]
  refine W_weak (weak_ownc 1 2 0 24 1 true false rfl rfl (by omega)) ?_
  simp only [go_sem]
  refine loop_inv [2,5,15,16,17] 3 (fun q st=>∃ k v:Nat,k + q=l.length ∧
   st=⟨mkE .top [(2,.ptr 0 0),(5,.ptr 1 0),(15,.list (l.map cAc)),(16,.int .i64 l.length),(17,.int .i64 k)],
    .box [.nilsl,.nilsl] :: [.box [.list ((runW (l.take k)).1.ss.map cSi3),.list (cYs (runW (l.take k)).1.ys),.arr 2 v],.arr v true false 24 1 ((runW (l.take k)).2.map cInt)]⟩) l.length (by simp [hx]) (by simp) ?_ ?_
  ·
   refine ⟨0,0,by omega,?_⟩
   simp [trim_mk,go_sem,subHeap,renObj,renCell,renLeaf,pos,List.range_succ,runW]
  ·
   rintro q st ⟨k,v,hk,rfl⟩
   by_cases hlt:k < l.length
   ·
    have hg:l[k]? = some (nth l k):=nth_get? _ _ hlt
    have wk:=i64_up (k:=k) (by omega)
    obtain ⟨hw,hz⟩:=run_ok l k (by omega)
    have hst:=run_take hlt
    generalize nth l k=a at *
    generalize runW (l.take k)=r at *
    obtain ⟨w,es⟩:=r
    simp only at hw hz
    have hdo:=clerkDo_meets w hw a es v (by omega)
    simp only [go_sem,intS,Int.reduceLT,Int.reduceLE,Int.reduceToNat,Int.reduceAdd,frz,hlt,hg,cAc,cAct]
    refine ops_call (.heapE [1,2] (r' := .tup []) (H' := [.box [.nilsl,.nilsl],.box [.list ((acW w a).ss.map cSi3),.list (cYs (acW w a).ys),.arr 2 (v + 1)],.arr (v + 1) true false 24 1 ((es ++ [acErr w a]).map cInt),.box (cAc a)]) hdo (by simp) (by simp) (by simp [go_sem,pos,cAc,cAct]) ?_ ?_ ?_) ?_
    ·
     simp [subHeap,renObj,renCell,renLeaf,pos,hCl]
    ·
     simp [renT,ren,renCell,renLeaf]
    ·
     simp [merge,mergeObj,callId,backF,backId,renObj,renCell,renLeaf,pos,List.range_succ,hCl,cAc,cAct]
    simp only [go_sem,intS,Int.reduceLT,Int.reduceLE,Int.reduceToNat,Int.reduceAdd,frz,wk]
    refine ⟨by simp,q - 1,by omega,k + 1,v + 1,by omega,?_⟩
    rw [hst]
    simp [trim_mk,go_sem,subHeap,renObj,renCell,renLeaf,pos,List.range_succ,runStep]
   ·
    have:l.take k=l:=List.take_of_length_le (by omega)
    rw [this]
    simp only [go_sem,intS,Int.reduceLT,Int.reduceLE,Int.reduceToNat,Int.reduceAdd,frz,hlt]
    repeat refine ⟨rfl,?_⟩
    refine ret_weak (weak_shut 2 rfl) ?_
    refine ret_pure hx ?_
    simp [go_sem,L24,R24,cWo,cWd,frzAt,pos]
end Go.Proofs.YtfdolehffjmdmaaGreatDoor
/- Words: what a key or a value may be. -/
namespace Go.Proofs.YtfdolehffjmdmaaGreatDoor
set_option linter.unusedSimpArgs false
set_option linter.unusedVariables false
open Go.RowKit
def okc (c:UInt8):Bool:=(decide ((97:Int)≤(c.toNat:Int)) && decide ((c.toNat:Int)≤122)) || (decide ((48:Int)≤(c.toNat:Int)) && decide ((c.toNat:Int)≤57))
def wordL (l:List UInt8):Bool:=l.all okc && decide (1≤l.length) && decide (l.length≤3)
def wordS (s:ByteArray):Bool:=wordL s.data.toList
theorem sz_list (s:ByteArray):s.data.toList.length=s.size:=by show s.data.toList.length=s.data.size; simp
theorem byte_get {s:ByteArray} {k:Nat} (h:k < s.size):s[k]? = some s[k]:=by
 exact getElem?_pos s k h
theorem byte_list {s:ByteArray} {k:Nat} (h:k < s.size):s.data.toList[k]? = some s[k]:=by
 rw [List.getElem?_eq_getElem (by rw [sz_list]; exact h)]
 simp [ByteArray.getElem_eq_getElem_data]
theorem all_take_succ {s:ByteArray} {k:Nat} (h:k < s.size):(s.data.toList.take (k + 1)).all okc=((s.data.toList.take k).all okc && okc s[k]):=by
 rw [List.take_add_one,byte_list h]
 simp [List.all_append]
theorem not_word {s:ByteArray} {k:Nat} (h:k < s.size) (hc:okc s[k]=false):wordS s=false:=by
 have:s.data.toList.all okc=false:=by
  rw [List.all_eq_false]
  exact ⟨s[k],List.mem_of_getElem? (byte_list h),by simp [hc]⟩
 simp [wordS,wordL,this]
theorem word_end {s:ByteArray} (h:s.data.toList.all okc=true):wordS s=(decide ((1:Int)≤(s.size:Int)) && decide ((s.size:Int)≤3)):=by
 rw [wordS,wordL,h,sz_list,Bool.true_and]
 congr 1
 all_goals (rw [Bool.eq_iff_iff,decide_eq_true_iff,decide_eq_true_iff]; omega)
set_option maxRecDepth 10000 in
set_option maxHeartbeats 2000000 in
theorem word_meets (s:ByteArray) (hs:s.size≤1000000000000000):Meets Tryz.prog 40 [.str s] [] (.bool (wordS s)) []:=by
  refine Meets.of_walk Tryz.func40 Tryz.ntmps40 low40 res40 (by simp) fun x hx=>?_
  simp only [go_sem,L40,R40]
  refine loop_inv [0,6,7] 0 (fun m st=>∃ k:Nat,k + m=s.size∧(s.data.toList.take k).all okc=true ∧
    st=⟨mkE .top [(0,.str s),(6,.int .i64 s.size),(7,.int .i64 k)],[]⟩) s.size (by simp [hx]) (by simp) ?_ ?_
  · refine ⟨0,by omega,by simp,?_⟩
    simp [trim_mk,go_sem,subHeap,renObj,pos,List.range_succ]
  · rintro m st ⟨k,hk,hall,rfl⟩
    by_cases hlt:k < s.size
    · have hg:=byte_get hlt
      have hw:=i64_up (k:=k) (by omega)
      have hst:=all_take_succ hlt
      have hnw:=fun h=>not_word (s:=s) (k:=k) hlt h
      generalize s[k]=c at hg hst hnw
      by_cases h1:(97:Int)≤(c.toNat:Int) <;> by_cases h2:(c.toNat:Int)≤122 <;> by_cases h3:(48:Int)≤(c.toNat:Int) <;> by_cases h4:(c.toNat:Int)≤57
      all_goals first
        | (exfalso; omega)
        | (have ho : okc c = true := by simp [okc, h1, h2, h3, h4]
           simp only [go_sem,intS,Int.reduceLT,Int.reduceLE,Int.reduceToNat,Int.reduceAdd,frz,hlt,hg,h1,h2,h3,h4,decide_true,decide_false,hw]
           refine ⟨by simp,m - 1,by omega,k + 1,by omega,by rw [hst,hall,ho]; rfl,?_⟩
           simp [trim_mk,go_sem,subHeap,renObj,pos,List.range_succ]
           done)
        | (have ho : okc c = false := by simp [okc, h1, h2, h3, h4]
           have hno:=hnw ho
           simp only [go_sem,intS,Int.reduceLT,Int.reduceLE,Int.reduceToNat,Int.reduceAdd,frz,hlt,hg,h1,h2,h3,h4,decide_true,decide_false]
           refine ret_pure hx ?_
           simp [go_sem,L40,R40,hno]
           done)
    · have hke:k=s.size:=by omega
      rw [List.take_of_length_le (by rw [sz_list]; omega)] at hall
      have hwe:=word_end hall
      by_cases h1:(1:Int)≤(s.size:Int) <;> by_cases h2:(s.size:Int)≤3
      all_goals
        simp only [go_sem,intS,Int.reduceLT,Int.reduceLE,Int.reduceToNat,Int.reduceAdd,frz,hlt,h1,h2,decide_true,decide_false]
        refine ret_pure hx ?_
        simp [go_sem,L40,R40,hwe,h1,h2]
end Go.Proofs.YtfdolehffjmdmaaGreatDoor
/- Library functions of this seat,told apart by number (what the guide's shelf says of them is used by name). -/
namespace Go.Proofs.YtfdolehffjmdmaaGreatDoor
open Go.Shelf Go.Proofs
def sortOpL_ren:Go.Shelf.Ren:=⟨fun | 6=>92 | 15=>133 | 14=>132 | 28=>166 | 29=>167 | 20=>158 | 21=>159 | 22=>160 | 23=>161 | 24=>162 | 25=>163 | 26=>164 | 27=>165 | 46=>186 | 47=>187 | 48=>188 | 49=>189 | 50=>190 | 57=>202 | n=>n,fun | 22=>127 | 24=>131 | 25=>138 | 3=>3 | 39=>171 | 0=>0 | 53=>206 | 55=>208 | 4=>4 | 46=>200 | 45=>199 | 50=>177 | 5=>5 | 9=>9 | 66=>220 | 70=>224 | 76=>232 | 77=>233 | n=>n,fun n=>n⟩
theorem sortOpL:SlLaysF0.n6 Tryz.prog sortOpL_ren := {
 mixed:=by kernel_rfl,
 f6:=⟨Tryz.f92.name,by decide,Tryz.func92.trans (congrArg some (by kernel_rfl))⟩,
 f14:=⟨Tryz.f132.name,by decide,Tryz.func132.trans (congrArg some (by kernel_rfl))⟩,
 f15:=Tryz.func133.trans (congrArg some (by kernel_rfl)),
 f20:=⟨Tryz.f158.name,by decide,Tryz.func158.trans (congrArg some (by kernel_rfl))⟩,
 f21:=⟨Tryz.f159.name,by decide,Tryz.func159.trans (congrArg some (by kernel_rfl))⟩,
 f22:=⟨Tryz.f160.name,by decide,Tryz.func160.trans (congrArg some (by kernel_rfl))⟩,
 f23:=⟨Tryz.f161.name,by decide,Tryz.func161.trans (congrArg some (by kernel_rfl))⟩,
 f24:=⟨Tryz.f162.name,by decide,Tryz.func162.trans (congrArg some (by kernel_rfl))⟩,
 f25:=⟨Tryz.f163.name,by decide,Tryz.func163.trans (congrArg some (by kernel_rfl))⟩,
 f26:=⟨Tryz.f164.name,by decide,Tryz.func164.trans (congrArg some (by kernel_rfl))⟩,
 f27:=⟨Tryz.f165.name,by decide,Tryz.func165.trans (congrArg some (by kernel_rfl))⟩,
 f28:=Tryz.func166.trans (congrArg some (by kernel_rfl)),
 f29:=Tryz.func167.trans (congrArg some (by kernel_rfl)),
 f46:=⟨Tryz.f186.name,by decide,Tryz.func186.trans (congrArg some (by kernel_rfl))⟩,
 f47:=Tryz.func187.trans (congrArg some (by kernel_rfl)),
 f48:=Tryz.func188.trans (congrArg some (by kernel_rfl)),
 f49:=⟨Tryz.f189.name,by decide,Tryz.func189.trans (congrArg some (by kernel_rfl))⟩,
 f50:=⟨Tryz.f190.name,by decide,Tryz.func190.trans (congrArg some (by kernel_rfl))⟩,
 f57:=⟨Tryz.f202.name,by decide,Tryz.func202.trans (congrArg some (by kernel_rfl))⟩,
 t0:=Tryz.underlying0,
 a0:=Tryz.isAgg0,
 z0:=Tryz.sizeOf0,
 v0:=Tryz.zeroValue0,
 t3:=Tryz.underlying3,
 a3:=Tryz.isAgg3,
 z3:=Tryz.sizeOf3,
 v3:=Tryz.zeroValue3,
 t4:=Tryz.underlying4,
 a4:=Tryz.isAgg4,
 z4:=Tryz.sizeOf4,
 v4:=Tryz.zeroValue4,
 t5:=Tryz.underlying5,
 a5:=Tryz.isAgg5,
 z5:=Tryz.sizeOf5,
 v5:=Tryz.zeroValue5,
 t9:=Tryz.underlying9,
 a9:=Tryz.isAgg9,
 z9:=Tryz.sizeOf9,
 v9:=Tryz.zeroValue9,
 t22:=Tryz.underlying127,
 a22:=Tryz.isAgg127,
 z22:=Tryz.sizeOf127,
 v22:=Tryz.zeroValue127,
 t25:=Tryz.underlying138,
 a25:=Tryz.isAgg138,
 z25:=Tryz.sizeOf138,
 v25:=Tryz.zeroValue138,
 t39:=Tryz.underlying171,
 a39:=Tryz.isAgg171,
 z39:=Tryz.sizeOf171,
 v39:=Tryz.zeroValue171,
 t45:=Tryz.underlying199,
 a45:=Tryz.isAgg199,
 z45:=Tryz.sizeOf199,
 v45:=Tryz.zeroValue199,
 t46:=Tryz.underlying200,
 a46:=Tryz.isAgg200,
 z46:=Tryz.sizeOf200,
 v46:=Tryz.zeroValue200,
 t50:=Tryz.underlying177,
 a50:=Tryz.isAgg177,
 z50:=Tryz.sizeOf177,
 v50:=Tryz.zeroValue177,
 t53:=Tryz.underlying206,
 a53:=Tryz.isAgg206,
 z53:=Tryz.sizeOf206,
 v53:=Tryz.zeroValue206,
 t55:=Tryz.underlying208,
 a55:=Tryz.isAgg208,
 z55:=Tryz.sizeOf208,
 v55:=Tryz.zeroValue208,
 t66:=Tryz.underlying220,
 a66:=Tryz.isAgg220,
 z66:=Tryz.sizeOf220,
 v66:=Tryz.zeroValue220,
 t70:=Tryz.underlying224,
 a70:=Tryz.isAgg224,
 z70:=Tryz.sizeOf224,
 v70:=Tryz.zeroValue224,
 t76:=Tryz.underlying232,
 a76:=Tryz.isAgg232,
 z76:=Tryz.sizeOf232,
 v76:=Tryz.zeroValue232,
 t77:=Tryz.underlying233,
 a77:=Tryz.isAgg233,
 z77:=Tryz.sizeOf233,
 v77:=Tryz.zeroValue233 }
def splitL_ren:Go.Shelf.Ren:=⟨fun | 146=>43 | 221=>96 | 268=>136 | 138=>137 | 143=>138 | 195=>169 | 197=>170 | 218=>171 | 219=>172 | 260=>191 | 217=>192 | 225=>193 | 224=>194 | 267=>195 | 266=>203 | 314=>204 | n=>n,fun | 9=>9 | 31=>27 | 3=>3 | 4=>4 | 0=>0 | 105=>210 | 21=>21 | 5=>5 | 46=>171 | 119=>235 | 139=>238 | 138=>237 | 146=>239 | 51=>206 | n=>n,fun | 1=>0 | 3=>1 | 4=>2 | n=>n⟩
theorem splitL:Lays.n146 Tryz.prog splitL_ren := {
 mixed:=by kernel_rfl,
 f138:=Tryz.func137.trans (congrArg some (by kernel_rfl)),
 f143:=Tryz.func138.trans (congrArg some (by kernel_rfl)),
 f146:=Tryz.func43.trans (congrArg some (by kernel_rfl)),
 f195:=Tryz.func169.trans (congrArg some (by kernel_rfl)),
 f197:=Tryz.func170.trans (congrArg some (by kernel_rfl)),
 f217:=Tryz.func192.trans (congrArg some (by kernel_rfl)),
 f218:=Tryz.func171.trans (congrArg some (by kernel_rfl)),
 f219:=Tryz.func172.trans (congrArg some (by kernel_rfl)),
 f221:=Tryz.func96.trans (congrArg some (by kernel_rfl)),
 f224:=Tryz.func194.trans (congrArg some (by kernel_rfl)),
 f225:=Tryz.func193.trans (congrArg some (by kernel_rfl)),
 f260:=Tryz.func191.trans (congrArg some (by kernel_rfl)),
 f266:=Tryz.func203.trans (congrArg some (by kernel_rfl)),
 f267:=Tryz.func195.trans (congrArg some (by kernel_rfl)),
 f268:=Tryz.func136.trans (congrArg some (by kernel_rfl)),
 f314:=Tryz.func204.trans (congrArg some (by kernel_rfl)),
 t0:=Tryz.underlying0,
 a0:=Tryz.isAgg0,
 z0:=Tryz.sizeOf0,
 v0:=Tryz.zeroValue0,
 t3:=Tryz.underlying3,
 a3:=Tryz.isAgg3,
 z3:=Tryz.sizeOf3,
 v3:=Tryz.zeroValue3,
 t4:=Tryz.underlying4,
 a4:=Tryz.isAgg4,
 z4:=Tryz.sizeOf4,
 v4:=Tryz.zeroValue4,
 t5:=Tryz.underlying5,
 a5:=Tryz.isAgg5,
 z5:=Tryz.sizeOf5,
 v5:=Tryz.zeroValue5,
 t9:=Tryz.underlying9,
 a9:=Tryz.isAgg9,
 z9:=Tryz.sizeOf9,
 v9:=Tryz.zeroValue9,
 t21:=Tryz.underlying21,
 a21:=Tryz.isAgg21,
 z21:=Tryz.sizeOf21,
 v21:=Tryz.zeroValue21,
 t31:=Tryz.underlying27,
 a31:=Tryz.isAgg27,
 z31:=Tryz.sizeOf27,
 v31:=Tryz.zeroValue27,
 t46:=Tryz.underlying171,
 a46:=Tryz.isAgg171,
 z46:=Tryz.sizeOf171,
 v46:=Tryz.zeroValue171,
 t51:=Tryz.underlying206,
 a51:=Tryz.isAgg206,
 z51:=Tryz.sizeOf206,
 v51:=Tryz.zeroValue206,
 t105:=Tryz.underlying210,
 a105:=Tryz.isAgg210,
 z105:=Tryz.sizeOf210,
 v105:=Tryz.zeroValue210,
 t119:=Tryz.underlying235,
 a119:=Tryz.isAgg235,
 z119:=Tryz.sizeOf235,
 t138:=Tryz.underlying237,
 a138:=Tryz.isAgg237,
 z138:=Tryz.sizeOf237,
 v138:=Tryz.zeroValue237,
 t139:=Tryz.underlying238,
 a139:=Tryz.isAgg238,
 z139:=Tryz.sizeOf238,
 v139:=Tryz.zeroValue238,
 t146:=Tryz.underlying239,
 a146:=Tryz.isAgg239,
 z146:=Tryz.sizeOf239,
 v146:=Tryz.zeroValue239,
 g1:=by kernel_rfl,
 g3:=by kernel_rfl,
 g4:=by kernel_rfl }
def cmpL_ren:Go.Shelf.Ren:=⟨fun | 106=>94 | 213=>134 | 265=>168 | n=>n,fun | 9=>9 | 3=>3 | n=>n,fun n=>n⟩
theorem cmpL:Lays.n106 Tryz.prog cmpL_ren := {
 mixed:=by kernel_rfl,
 f106:=Tryz.func94.trans (congrArg some (by kernel_rfl)),
 f213:=Tryz.func134.trans (congrArg some (by kernel_rfl)),
 f265:=Tryz.func168.trans (congrArg some (by kernel_rfl)),
 t3:=Tryz.underlying3,
 a3:=Tryz.isAgg3,
 z3:=Tryz.sizeOf3,
 v3:=Tryz.zeroValue3,
 t9:=Tryz.underlying9,
 a9:=Tryz.isAgg9,
 z9:=Tryz.sizeOf9,
 v9:=Tryz.zeroValue9 }
end Go.Proofs.YtfdolehffjmdmaaGreatDoor
/- strings.Split at a blank: the pieces of a text. -/
namespace Go.Proofs.YtfdolehffjmdmaaGreatDoor
open Go.RowKit Go.Shelf
def spB:ByteArray:=⟨#[32]⟩
def piecesS (s:ByteArray):List ByteArray:=Lib.splitB spB 0 (Lib.countB s spB) s
theorem pieces_len (s:ByteArray):(piecesS s).length=Lib.countB s spB + 1:=Lib.splitB_all spB (by decide) 0 _ s rfl
theorem pieces_le (s:ByteArray):(piecesS s).length≤s.size + 1:=by
 have:=Lib.countB_le spB (by decide) s.size s (Nat.le_refl _)
 rw [pieces_len]; omega
set_option maxHeartbeats 1000000 in
theorem Any.split_sp {P : Program} {ρ : Ren} (L : Lays.n146 P ρ) (hi9 : (P.info? (ρ.t 9)).map (fun i => (i.zero, i.size, i.bytes)) = some (some (.string ByteArray.empty), 1, 16)) (s : ByteArray) (w : World) (hs : s.size < 4294967281) :
    Calls P (ρ.f 146) #[.string s,.string spB] w fun e w' =>
      e = .returned (.slice (some ⟨w.heap.size,0,none⟩) (Lib.countB s spB + 1) (Lib.countB s spB + 1))∧w'=w.alloc (.cells ((piecesS s).map Value.string).toArray (ρ.t 9)):=by
  have h1:1≤spB.size:=by decide
  have hle:=Lib.countB_le spB h1 s.size s (Nat.le_refl _)
  have hlen:=pieces_len s
  have c:=Any.strings_genSplit_core { L with } hi9 s spB 0 (-1) (Lib.countB s spB + 1) w hs h1 (Nat.zero_le _)
    (fun x c hx=>(Any.strings_Index_one { L with } x 32 _).mono fun e w' ⟨he,hw⟩=>⟨by rw [he,← Lib.index_one]; rfl,hw⟩)
    ((Any.strings_Count_one { L with } s 32 w).mono fun e w' ⟨he,hw⟩=>⟨by
      rw [he]
      show _=Ending.returned (Value.int .i64 ((Lib.count s.data.toList [32]:Nat):Int))
      rw [Lib.count_one]; rfl,hw⟩)
    (by decide) (by decide) (by rw [if_pos (by decide)]; omega)
  rw [Nat.add_sub_cancel] at c
  have e1:(Lib.splitB spB 0 (Lib.countB s spB) s).length=Lib.countB s spB + 1:=hlen
  rw [e1] at c
  have e2:Lib.cellsOf (Lib.splitB spB 0 (Lib.countB s spB) s) (Lib.countB s spB + 1)=((Lib.splitB spB 0 (Lib.countB s spB) s).map Value.string).toArray:=by rw [← e1]; exact Lib.cellsOf_full _
  rw [e2] at c
  have t3:=L.t3; have t9:=L.t9; have t31:=L.t31
  have a3:=L.a3; have a9:=L.a9; have a31:=L.a31
  have z3:=L.z3; have v3:=L.v3; have z9:=L.z9; have v9:=L.v9; have z31:=L.z31; have v31:=L.v31
  have e221:∀ args w,(callFunc (ρ.f 221) args).run P w = .ok (.enter (ρ.f 221) args) w:=enters_of L.f221 (by kernel_rfl) rfl
  go_enter L.f146,Body.n146_ntmps ρ
  go_wp2_with (go_at_fn (ρ.f 221); refine c.mono ?_; rintro e w' ⟨rfl,hw⟩; rw [hw])
  go_ret
  exact ⟨rfl,rfl⟩
theorem split_calls (s : ByteArray) (w : World) (hs : s.size < 4294967281) : Calls Tryz.prog 43 #[.string s, .string spB] w fun e w' =>
      e = .returned (.slice (some ⟨w.heap.size,0,none⟩) (piecesS s).length (piecesS s).length)∧w'=w.alloc (.cells ((piecesS s).map Value.string).toArray 9):=by
  rw [pieces_len]
  exact Any.split_sp splitL (by kernel_rfl) s w hs
def cStr (s:ByteArray):List PV := [.str s]
theorem split_meets (s:ByteArray) (hs:s.size < 4294967281):Meets Tryz.prog 43 [.str s,.str spB] [] (.list ((piecesS s).map cStr)) []:=by
 intro x vs hx h0 hp
 obtain ⟨a,b,rfl,-,-⟩:=two_args hp.1
 have h1:RepV (Stab x x.C0 [] x.w0) x.w0 x.C0 (.str s) a:=hp.2 0 _ _ rfl rfl
 have h2:RepV (Stab x x.C0 [] x.w0) x.w0 x.C0 (.str spB) b:=hp.2 1 _ _ rfl rfl
 obtain rfl:=h1.str_inv
 obtain rfl:=h2.str_inv
 refine (split_calls s x.w0 hs).mono fun e w' ⟨he,hw⟩=>?_
 subst he; subst hw
 obtain ⟨k1,k2,k3⟩:=h0.grow (step_alloc x.w0 (.cells ((piecesS s).map Value.string).toArray 9) (may:=fun _=>False))
 have hle:=pieces_le s
 refine ⟨_,x.C0,rfl,k1,.pure ?_⟩
 have hl:(piecesS s).length=((piecesS s).map cStr).length:=by simp
 rw [show (Value.slice (some ⟨x.w0.heap.size,0,none⟩) (piecesS s).length (piecesS s).length)=Value.slice (some ⟨x.w0.heap.size,0,none⟩) ((piecesS s).map cStr).length (piecesS s).length by rw [← hl]]
 have hget:∀ k row (j:Nat) p,((piecesS s).map cStr)[k]? = some row→row[j]? = some p→j=0∧k < (piecesS s).length∧p = .str (nth (piecesS s) k):=by
  intro k row j p a1 a2
  rw [List.getElem?_map] at a1
  obtain ⟨q,hq,rfl⟩:=Option.map_eq_some_iff.1 a1
  have hk:=(List.getElem?_eq_some_iff.1 hq).1
  cases j with
  | zero=>simp [cStr] at a2; refine ⟨rfl,hk,?_⟩; rw [← a2,nth_eq _ _ hk]; rw [List.getElem?_eq_getElem hk] at hq; rw [Option.some.inj hq]
  | succ j=>simp [cStr] at a2
 refine .list _ _ _ 1 (fun k _ => .string (nth (piecesS s) k)) (by simp) (by unfold maxLen; omega) (by omega) (fun row hrow=>by obtain ⟨q,-,rfl⟩:=List.mem_map.1 hrow; rfl) (fun k row j p a1 a2=>?_) (fun k row j p a1 a2=>?_)
 ·
  obtain ⟨rfl,hk,-⟩:=hget k row j p a1 a2
  refine ⟨x.w0.heap.size,0,rfl,stab_new h0 _ _,?_⟩
  rw [cell_of_heap (heap_alloc_new x.w0 _)]
  simp [hk,nth_eq _ _ hk]
 ·
  obtain ⟨rfl,hk,rfl⟩:=hget k row j p a1 a2
  exact .str _
end Go.Proofs.YtfdolehffjmdmaaGreatDoor
/- Library functions of this seat,told apart by number (what the guide's shelf says of them is used by name). -/
namespace Go.Proofs.YtfdolehffjmdmaaGreatDoor
open Go.Shelf Go.Proofs
def joinL_ren:Go.Shelf.Ren:=⟨fun | 156=>115 | 165=>149 | 166=>150 | 169=>151 | 240=>175 | 241=>176 | 276=>197 | 277=>198 | n=>n,fun | 31=>27 | 9=>9 | 3=>3 | 4=>4 | 0=>0 | 20=>20 | 72=>186 | 76=>190 | 70=>183 | 37=>184 | 75=>189 | 127=>214 | 164=>227 | 5=>5 | 80=>192 | n=>n,fun n=>n⟩
theorem joinL:Lays.n156 Tryz.prog joinL_ren := {
 mixed:=by kernel_rfl,
 f156:=Tryz.func115.trans (congrArg some (by kernel_rfl)),
 f165:=Tryz.func149.trans (congrArg some (by kernel_rfl)),
 f166:=Tryz.func150.trans (congrArg some (by kernel_rfl)),
 f169:=Tryz.func151.trans (congrArg some (by kernel_rfl)),
 f240:=Tryz.func175.trans (congrArg some (by kernel_rfl)),
 f241:=Tryz.func176.trans (congrArg some (by kernel_rfl)),
 f276:=Tryz.func197.trans (congrArg some (by kernel_rfl)),
 f277:=Tryz.func198.trans (congrArg some (by kernel_rfl)),
 t0:=Tryz.underlying0,
 a0:=Tryz.isAgg0,
 z0:=Tryz.sizeOf0,
 v0:=Tryz.zeroValue0,
 t3:=Tryz.underlying3,
 a3:=Tryz.isAgg3,
 z3:=Tryz.sizeOf3,
 v3:=Tryz.zeroValue3,
 t4:=Tryz.underlying4,
 a4:=Tryz.isAgg4,
 z4:=Tryz.sizeOf4,
 v4:=Tryz.zeroValue4,
 t9:=Tryz.underlying9,
 a9:=Tryz.isAgg9,
 z9:=Tryz.sizeOf9,
 v9:=Tryz.zeroValue9,
 t20:=Tryz.underlying20,
 a20:=Tryz.isAgg20,
 z20:=Tryz.sizeOf20,
 v20:=Tryz.zeroValue20,
 t31:=Tryz.underlying27,
 a31:=Tryz.isAgg27,
 z31:=Tryz.sizeOf27,
 v31:=Tryz.zeroValue27,
 t37:=Tryz.underlying184,
 a37:=Tryz.isAgg184,
 z37:=Tryz.sizeOf184,
 v37:=Tryz.zeroValue184,
 t70:=Tryz.underlying183,
 a70:=Tryz.isAgg183,
 z70:=Tryz.sizeOf183,
 v70:=Tryz.zeroValue183,
 t72:=Tryz.underlying186,
 a72:=Tryz.isAgg186,
 z72:=Tryz.sizeOf186,
 v72:=Tryz.zeroValue186,
 t75:=Tryz.underlying189,
 a75:=Tryz.isAgg189,
 z75:=Tryz.sizeOf189,
 v75:=Tryz.zeroValue189,
 t76:=Tryz.underlying190,
 a76:=Tryz.isAgg190,
 z76:=Tryz.sizeOf190,
 v76:=Tryz.zeroValue190,
 t127:=Tryz.underlying214,
 a127:=Tryz.isAgg214,
 z127:=Tryz.sizeOf214,
 v127:=Tryz.zeroValue214,
 t164:=Tryz.underlying227,
 a164:=Tryz.isAgg227,
 z164:=Tryz.sizeOf227,
 v164:=Tryz.zeroValue227 }
end Go.Proofs.YtfdolehffjmdmaaGreatDoor
/- strings.Join: texts joined. -/
namespace Go.Proofs.YtfdolehffjmdmaaGreatDoor
open Go.RowKit Go.Shelf
def joinB (l:List ByteArray) (sep:ByteArray):ByteArray:=⟨(Lib.join (l.map (·.data.toList)) sep.data.toList).toArray⟩
theorem step_below {w w':World} (h:Below w.heap.size w w') {may:Nat→Prop}:Step w w' may:=⟨h.size,h.os,h.tape,h.output,fun b hb _=>h.block b hb⟩
theorem joinX:Builder.Extra Tryz.prog joinL_ren := {
 sizeBuilder:=by kernel_rfl,
 liesBuilder:=by kernel_rfl,
 t5:=by kernel_rfl,
 a5:=fun w=>by kernel_rfl,
 z5:=fun w=>by kernel_rfl,
 v5:=fun w=>by kernel_rfl,
 infoByte:=by kernel_rfl,
 cellsByte:=by kernel_rfl,
 sizeByte:=by kernel_rfl,
 neB5:=by decide }
theorem join_meets (l : List ByteArray) (sep : ByteArray) (hN : l.length ≤ 140737488355328) (hs : (Lib.join (l.map (·.data.toList)) sep.data.toList).length ≤ 140737488355328) :
    Meets Tryz.prog 115 [.list (l.map cStr),.str sep] [] (.str (joinB l sep)) []:=by
  intro x vs hx h0 hp
  obtain ⟨a,b,rfl,-,-⟩:=two_args hp.1
  have h1:RepV (Stab x x.C0 [] x.w0) x.w0 x.C0 (.list (l.map cStr)) a:=hp.2 0 _ _ rfl rfl
  have h2:RepV (Stab x x.C0 [] x.w0) x.w0 x.C0 (.str sep) b:=hp.2 1 _ _ rfl rfl
  obtain rfl:=h2.str_inv
  have fin:Calls Tryz.prog 115 #[a,.string sep] x.w0 fun e w'=>e = .returned (.string (joinB l sep))∧Below x.w0.heap.size x.w0 w':=by
    have h3:=h1.list_inv
    generalize hrows:l.map cStr=rows at h3
    cases h3 with
    | list rows ad cp sz xx hc hm hsz hz hll hh =>
      subst hrows
      rw [List.length_map] at *
      cases l with
      | nil=>exact (Any.strings_Join_none joinL joinX ad cp sep x.w0).mono fun e w' ⟨he,hw⟩=>⟨he,hw ▸ Below.refl _ _⟩
      | cons s0 r =>
        have hz1:sz=1:=(hz (cStr s0) (by simp)).symm
        subst hz1
        obtain ⟨bk,o,rfl,hst,-⟩:=hll 0 (cStr s0) 0 (.str s0) rfl rfl
        refine Any.strings_Join joinL joinX bk o cp (s0 :: r) sep x.w0 (fun j s hj=>?_) hst.2.1 hN hc hs
        have hg:((s0 :: r).map cStr)[j]? = some (cStr s):=by rw [List.getElem?_map,hj]; rfl
        obtain ⟨bk',o',e1,-,e2⟩:=hll j (cStr s) 0 (.str s) hg rfl
        cases e1
        have e3:RepV (Stab x x.C0 [] x.w0) x.w0 x.C0 (.str s) (xx j 0) := .pure (hh j (cStr s) 0 (.str s) hg rfl)
        rw [Nat.mul_one,Nat.add_zero,e3.str_inv] at e2
        exact e2
  refine fin.mono fun e w' ⟨he,hw⟩=>?_
  obtain ⟨k1,k2,k3⟩:=h0.grow (step_below hw (may:=fun _=>False))
  exact ⟨_,x.C0,he,k1,.pure (.str _)⟩
end Go.Proofs.YtfdolehffjmdmaaGreatDoor
/- Texts asked by a function; what an entry's text does (fold.Op). -/
namespace Go.Proofs.YtfdolehffjmdmaaGreatDoor
set_option linter.unusedSimpArgs false
set_option linter.unusedVariables false
open Go.RowKit
instance:Inhabited ByteArray:=⟨⟨#[]⟩⟩
theorem indexS_meets (l : List ByteArray) (g : Nat) (caps : List PV) (Hs : List AObj) (p : ByteArray → Bool) (hg : hasBody Tryz.prog g = true) (hl : l.length ≤ 9223372036854775806) (hc : ClosedH Hs caps)
    (hp:∀ e ∈ l,Meets Tryz.prog g (.str e :: caps) Hs (.bool (p e)) Hs) :
    Meets Tryz.prog 97 [.list (l.map cStr),.clo g caps] Hs (.int .i64 (idxF p l 0)) Hs:=by
  refine Meets.of_walk Tryz.func97 Tryz.ntmps97 low97 res97 (by simp) fun x hx=>?_
  simp only [go_sem,L97,R97]
  refine loop_keep [0,1,7,8] (fun n st=>∃ k:Nat,k + n=l.length∧idxF p (l.drop k) k=idxF p l 0 ∧
    st=⟨mkE .top [(0,.list (l.map cStr)),(1,.clo g caps),(7,.int .i64 l.length),(8,.int .i64 k)],Hs⟩) l.length ?_ ?_
  · refine ⟨0,by omega,by simp,?_⟩
    simp [keep_mk,go_sem]
  · rintro n st ⟨k,hk,hi,rfl⟩
    by_cases hlt:k < l.length
    · have hgt:l[k]? = some (nth l k):=nth_get? _ _ hlt
      have wk:=i64_up (k:=k) (by omega)
      rw [idxF_drop p l k hlt] at hi
      simp only [go_sem,hlt,hgt,cStr]
      refine ops_callv rfl hg (.whole (hp (nth l k) (by rw [nth_eq _ _ hlt]; exact List.getElem_mem hlt)) rfl ?_ hc.sub hc.back) ?_
      · simp only [go_sem,cStr]
        rw [hc.caps]
      cases hpk:p (nth l k)
      · rw [if_neg (by simp [hpk])] at hi
        simp only [go_sem,wk]
        exact ⟨n - 1,by omega,k + 1,by omega,hi,by simp [keep_mk,go_sem,cStr]⟩
      · rw [if_pos hpk] at hi
        simp only [go_sem]
        refine ret_scal hx rfl hc.kept ?_
        simp [go_sem,L97,R97,hi]
    · have:l.drop k = []:=List.drop_eq_nil_of_le (by omega)
      rw [this] at hi
      simp only [go_sem,hlt]
      refine ret_scal hx rfl hc.kept ?_
      simp [go_sem,L97,R97,← hi,idxF]
theorem contFS_meets (l : List ByteArray) (g : Nat) (caps : List PV) (Hs : List AObj) (p : ByteArray → Bool) (hg : hasBody Tryz.prog g = true) (hl : l.length ≤ 9223372036854775806) (hc : ClosedH Hs caps)
    (hp:∀ e ∈ l,Meets Tryz.prog g (.str e :: caps) Hs (.bool (p e)) Hs) :
    Meets Tryz.prog 44 [.list (l.map cStr),.clo g caps] Hs (.bool (l.any p)) Hs:=by
  refine Meets.of_walk Tryz.func44 Tryz.ntmps44 low44 res44 (by simp) fun x hx=>?_
  simp only [go_sem,L44,R44]
  refine ops_call (.whole (indexS_meets l g caps Hs p hg hl hc hp) rfl ?_ hc.sub hc.back) ?_
  · simp only [go_sem]
    rw [hc.leaf]
  simp only [go_sem]
  refine ret_scal hx rfl hc.kept ?_
  simp [go_sem,L44,R44,idxF_any]
theorem closedNil:ClosedH [] []:=⟨rfl,rfl,rfl,rfl,rfl⟩
theorem opBad_meets (s:ByteArray) (hs:s.size≤1000000000000000):Meets Tryz.prog 45 [.str s] [] (.bool (!wordS s)) []:=by
 refine Meets.of_walk Tryz.func45 Tryz.ntmps45 low45 res45 (by simp) fun x hx=>?_
 simp only [go_sem,L45,R45]
 refine ops_call (.pure (word_meets s hs)) ?_
 simp only [go_sem]
 refine ret_pure hx ?_
 simp [go_sem,L45,R45]
theorem piece_size (s:ByteArray):∀ (n:Nat) (t:ByteArray) (p:ByteArray),p ∈ Lib.splitB spB 0 n t→p.size≤t.size:=by
 intro n
 induction n with
 | zero=>intro t p h; simp [Lib.splitB] at h; rw [h]; exact Nat.le_refl _
 | succ n ih =>
  intro t p h
  rcases Lib.indexB_cases t spB with hm | ⟨i,hi,hr⟩
  ·
   rw [Lib.splitB_miss _ _ _ _ hm] at h
   simp at h; rw [h]; exact Nat.le_refl _
  ·
   rw [Lib.splitB] at h
   split at h
   ·
    simp at h; rw [h]; exact Nat.le_refl _
   ·
    rcases List.mem_cons.1 h with rfl | h
    ·
     rw [ByteArray.size_extract]; omega
    ·
     have:=ih _ _ h
     rw [ByteArray.size_extract] at this; omega
def putB:ByteArray:=⟨#[112,117,116]⟩
def dropB:ByteArray:=⟨#[100,114,111,112]⟩
def opOf (s:ByteArray):Int × ByteArray × ByteArray:=match piecesS s with
 | [a,b,c]=>if a=putB∧wordS b=true∧wordS c=true then (1,b,c) else (0,⟨#[]⟩,⟨#[]⟩)
 | [a,b]=>if a=dropB∧wordS b=true then (2,b,⟨#[]⟩) else (0,⟨#[]⟩,⟨#[]⟩)
 | _=>(0,⟨#[]⟩,⟨#[]⟩)
def cOp4 (o:Int × ByteArray × ByteArray):List PV := [.int .i64 o.1,.str o.2.1,.str o.2.2,.int .i64 (if o.1=0 then 1 else 0)]
set_option maxRecDepth 10000 in
set_option maxHeartbeats 2000000 in
theorem op_meets (s:ByteArray) (hs:s.size < 4294967281):Meets Tryz.prog 11 [.str s] [] (.tup (cOp4 (opOf s))) []:=by
 have hlen:=pieces_le s
 have hpos:1≤(piecesS s).length:=by rw [pieces_len]; omega
 have hb:∀ p ∈ (piecesS s),p.size≤1000000000000000:=fun p hp=>by have:=piece_size s _ s p hp; omega
 obtain ⟨o,hop⟩:∃ o,opOf s=o:=⟨_,rfl⟩
 rw [hop]
 unfold opOf at hop
 refine Meets.of_walk Tryz.func11 Tryz.ntmps11 low11 res11 (by simp) fun x hx=>?_
 simp only [go_sem,L11,R11]
 have hsp:(⟨#[32]⟩:ByteArray)=spB:=rfl
 rw [hsp]
 refine ops_call (.pure (split_meets s hs)) ?_
 generalize piecesS s=l at hlen hpos hb hop
 match l,hpos with
 | a :: r,_ =>
  have hS:(1≤((r.length + 1:Nat):Int)∧∀ row,row ∈ [PV.str a] :: List.map cStr r→row.length=1)=True:=eq_true ⟨by omega,fun row hr=>by
   rcases List.mem_cons.1 hr with rfl | hr
   ·
    rfl
   ·
    obtain ⟨q,-,rfl⟩:=List.mem_map.1 hr; rfl⟩
  have hT:List.take (((r.length + 1:Nat):Int) - 1).toNat (List.map cStr r)=r.map cStr:=List.take_of_length_le (by rw [List.length_map]; omega)
  have hc:=contFS_meets r 45 [] [] (fun w => !wordS w) (by kernel_rfl) (by simp only [List.length_cons] at hlen; omega) closedNil (fun e he=>opBad_meets e (hb e (List.mem_cons_of_mem _ he)))
  simp only [go_sem,intS,Int.reduceLT,Int.reduceLE,Int.reduceToNat,Int.reduceAdd,frz,List.map_cons,List.length_cons,cStr,hS,hT]
  refine ops_call (.pure hc) ?_
  clear hc hS hT hb hlen
  cases hbad:r.any fun w => !wordS w
  ·
   have hall:∀ w ∈ r,wordS w=true:=fun w hw=>by
    have:=List.any_eq_false.1 hbad w hw
    simpa using this
   match r,hall,hop with
   | [],hall,hop =>
    simp only [go_sem,intS,Int.reduceLT,Int.reduceLE,Int.reduceToNat,Int.reduceAdd,frz,List.map_nil,List.length_nil]
    refine ret_pure hx ?_
    rw [← hop]
    simp [go_sem,L11,R11,cOp4]
   | [b],hall,hop =>
    have w1:=hall b (by simp)
    by_cases h1:a=dropB
    ·
     have h1':(a=(⟨#[100,114,111,112]⟩:ByteArray))=True:=eq_true h1
     simp only [go_sem,intS,Int.reduceLT,Int.reduceLE,Int.reduceToNat,Int.reduceAdd,frz,List.map_cons,List.map_nil,List.length_cons,List.length_nil,cStr,h1']
     refine ret_pure hx ?_
     rw [← hop]
     simp [go_sem,L11,R11,cOp4,h1,w1]
    ·
     have h1':(a=(⟨#[100,114,111,112]⟩:ByteArray))=False:=eq_false h1
     simp only [go_sem,intS,Int.reduceLT,Int.reduceLE,Int.reduceToNat,Int.reduceAdd,frz,List.map_cons,List.map_nil,List.length_cons,List.length_nil,cStr,h1']
     refine ret_pure hx ?_
     rw [← hop]
     simp [go_sem,L11,R11,cOp4,h1]
   | [b,c],hall,hop =>
    have w1:=hall b (by simp)
    have w2:=hall c (by simp)
    by_cases h1:a=putB
    ·
     have h1':(a=(⟨#[112,117,116]⟩:ByteArray))=True:=eq_true h1
     simp only [go_sem,intS,Int.reduceLT,Int.reduceLE,Int.reduceToNat,Int.reduceAdd,frz,List.map_cons,List.map_nil,List.length_cons,List.length_nil,cStr,h1']
     refine ret_pure hx ?_
     rw [← hop]
     simp [go_sem,L11,R11,cOp4,h1,w1,w2]
    ·
     have h1':(a=(⟨#[112,117,116]⟩:ByteArray))=False:=eq_false h1
     simp only [go_sem,intS,Int.reduceLT,Int.reduceLE,Int.reduceToNat,Int.reduceAdd,frz,List.map_cons,List.map_nil,List.length_cons,List.length_nil,cStr,h1']
     refine ret_pure hx ?_
     rw [← hop]
     simp [go_sem,L11,R11,cOp4,h1]
   | b :: c :: d :: q,hall,hop =>
    have n3:¬ (((q.length + 1 + 1 + 1 + 1:Nat):Int)=3):=by omega
    have n2:¬ (((q.length + 1 + 1 + 1 + 1:Nat):Int)=2):=by omega
    simp only [go_sem,intS,Int.reduceLT,Int.reduceLE,Int.reduceToNat,Int.reduceAdd,frz,List.map_cons,List.length_cons,List.length_map,cStr,n3,n2]
    refine ret_pure hx ?_
    rw [← hop]
    simp [go_sem,L11,R11,cOp4]
  ·
   simp only [go_sem,intS,Int.reduceLT,Int.reduceLE,Int.reduceToNat,Int.reduceAdd,frz]
   refine ret_pure hx ?_
   have:o=(0,⟨#[]⟩,⟨#[]⟩):=by
    rw [← hop]
    match r,hbad with
    | [],hbad=>rfl
    | [b],hbad =>
     have:wordS b=false:=by simpa using hbad
     simp [this]
    | [b,c],hbad =>
     have:¬ (wordS b=true∧wordS c=true):=by
      rintro ⟨h1,h2⟩
      simp [h1,h2] at hbad
     simp only
     rw [if_neg (fun h=>this h.2)]
    | b :: c :: d :: q,hbad=>rfl
   rw [this]
   simp [go_sem,L11,R11,cOp4]
end Go.Proofs.YtfdolehffjmdmaaGreatDoor
/- What the entries of a log do (fold.ops),and which of it stands. -/
namespace Go.Proofs.YtfdolehffjmdmaaGreatDoor
set_option linter.unusedSimpArgs false
set_option linter.unusedVariables false
open Go.RowKit
structure FOp where
 id:Id
 k:ByteArray
 v:ByteArray
 p:Bool
deriving Inhabited
def cOp (o:FOp):List PV := [.int .i64 o.id.r,.int .i64 o.id.n,.str o.k,.str o.v,.bool o.p]
def opE (e:Entry):Option FOp:=if (opOf e.t).1=0 then none else some ⟨e.id,(opOf e.t).2.1,(opOf e.t).2.2,decide ((opOf e.t).1=1)⟩
def opsL (l:List Entry) (c:Int):List FOp:=(withC l c).filterMap opE
theorem opOf_kind (s:ByteArray):(opOf s).1=0∨(opOf s).1=1∨(opOf s).1=2:=by
 unfold opOf
 split
 ·
  split
  ·
   exact .inr (.inl rfl)
  ·
   exact .inl rfl
 ·
  split
  ·
   exact .inr (.inr rfl)
  ·
   exact .inl rfl
 ·
  exact .inl rfl
theorem opsL_take {l:List Entry} {k:Nat} (h:k < l.length):(l.take (k + 1)).filterMap opE=(l.take k).filterMap opE ++ (opE (nth l k)).toList:=by
 rw [List.take_add_one,nth_get? _ _ h,List.filterMap_append]
 cases h2:opE (nth l k) <;> simp [h2]
theorem filterMap_len {α β:Type} (f:α→Option β) (l:List α):(l.filterMap f).length≤l.length:=List.length_filterMap_le ..
def standB (ps:List (List Id)) (l:List Entry) (all:List FOp) (o:FOp):Bool:=o.p && !(all.any fun x=>decide (x.k=o.k) && hasI (pastAt ps l x.id) o.id)
set_option maxRecDepth 10000 in
set_option maxHeartbeats 4000000 in
theorem ops_meets (l:List Entry) (c:Int) (h:LogOk l) (hc:wthn c 1 7=true) (ht:∀ e ∈ l,e.t.size≤4294967000):Meets Tryz.prog 85 [.list (l.map cE),.int .i64 c] [] (.list ((opsL l c).map cOp)) []:=by
 have hm:=h.len
 have hwl:=withC_len l c
 have htw:∀ e ∈ withC l c,e.t.size≤4294967000:=fun e he=>ht e (List.mem_filter.1 he).1
 refine Meets.of_walk Tryz.func85 Tryz.ntmps85 low85 res85 (by simp) fun x hx=>?_
 simp only [go_sem,L85,R85]
 refine ops_call (.pure (with_meets l c h hc)) ?_
 simp only [go_sem,List.length_map]
 refine W_weak (weak_own 5 0 131 5 false false rfl (by omega)) ?_
 obtain ⟨W,hW⟩:∃ W,withC l c=W:=⟨_,rfl⟩
 rw [opsL,hW]
 rw [hW] at hwl htw
 refine loop_inv [5,14,15,16] 1 (fun n st=>∃ k v:Nat,k + n=W.length ∧
  st=⟨mkE .top [(5,.arr 0 v),(14,.list (W.map cE)),(15,.int .i64 W.length),(16,.int .i64 k)],[.arr v false false 131 5 (((W.take k).filterMap opE).map cOp)]⟩) W.length (by simp [hx]) (by simp [St.put]) ?_ ?_
 ·
  refine ⟨0,0,by omega,?_⟩
  simp [trim_mk,go_sem,subHeap,renObj,pos,List.range_succ]
 ·
  rintro n st ⟨k,v,hk,rfl⟩
  by_cases hlt:k < W.length
  ·
   have hg:W[k]? = some (nth W k):=nth_get? _ _ hlt
   have wk:=i64_up (k:=k) (by omega)
   have hsz:=htw (nth W k) (List.mem_of_getElem? hg)
   have htk:=opsL_take hlt
   have hlen:=filterMap_len opE (W.take k)
   rw [List.length_take] at hlen
   simp only [go_sem,hlt,hg,cE]
   refine ops_call (.pureE (op_meets (nth W k).t (by omega)) (by simp [go_sem])) ?_
   rcases opOf_kind (nth W k).t with h0 | h1 | h2
   ·
    have hoe:opE (nth W k)=none:=by simp [opE,h0]
    rw [hoe] at htk
    simp only [go_sem,intS,Int.reduceLT,Int.reduceLE,Int.reduceToNat,Int.reduceAdd,frz,cOp4,h0,wk]
    refine ⟨by simp,n - 1,by omega,k + 1,v,by omega,?_⟩
    rw [htk]
    simp [trim_mk,go_sem,subHeap,renObj,pos,List.range_succ]
   ·
    have hoe:opE (nth W k)=some ⟨(nth W k).id,(opOf (nth W k).t).2.1,(opOf (nth W k).t).2.2,true⟩:=by simp [opE,h1]
    rw [hoe] at htk
    simp only [go_sem,intS,Int.reduceLT,Int.reduceLE,Int.reduceToNat,Int.reduceAdd,frz,cOp4,h1,wk]
    rw [app_arr rfl rfl (by simp) (by simp; omega)]
    simp only [go_sem,wk]
    refine ⟨by simp,n - 1,by omega,k + 1,v + 1,by omega,?_⟩
    rw [htk]
    simp [trim_mk,go_sem,subHeap,renObj,renCell,renLeaf,pos,List.range_succ,cOp]
   ·
    have hoe:opE (nth W k)=some ⟨(nth W k).id,(opOf (nth W k).t).2.1,(opOf (nth W k).t).2.2,false⟩:=by simp [opE,h2]
    rw [hoe] at htk
    simp only [go_sem,intS,Int.reduceLT,Int.reduceLE,Int.reduceToNat,Int.reduceAdd,frz,cOp4,h2,wk]
    rw [app_arr rfl rfl (by simp) (by simp; omega)]
    simp only [go_sem,wk]
    refine ⟨by simp,n - 1,by omega,k + 1,v + 1,by omega,?_⟩
    rw [htk]
    simp [trim_mk,go_sem,subHeap,renObj,renCell,renLeaf,pos,List.range_succ,cOp]
  ·
   have:W.take k=W:=List.take_of_length_le (by omega)
   simp only [go_sem,hlt,this]
   refine ret_pure hx ?_
   simp [go_sem,L85,R85,frzAt,pos]
theorem raw11_meets (l : List Entry) (ps : List (List Id)) (o y : FOp) (hl : l.length ≤ 9223372036854775806) (h0 : 0 ≤ findE l y.id) (h1 : findE l y.id < ps.length) (h2 : (pastAt ps l y.id).length ≤ 9223372036854775806) :
    Meets Tryz.prog 90 [.agg (cOp y),.rptr (cOp o),.rptr [pvPasts l ps]] [] (.bool (decide (y.k=o.k) && hasI (pastAt ps l y.id) o.id)) []:=by
  refine Meets.of_walk Tryz.func90 Tryz.ntmps90 low90 res90 (by simp) fun x hx=>?_
  simp only [go_sem,L90,R90,cOp]
  by_cases hk:y.k=o.k
  · simp only [go_sem,hk,decide_true,cOp]
    refine ops_call (.pureE (ahead_meets l ps o.id y.id hl h0 h1 h2) (by simp [go_sem,cId,pvPasts])) ?_
    simp only [go_sem]
    refine ret_pure hx ?_
    simp [go_sem,L90,R90,hk]
  · simp only [go_sem,hk,decide_false,cOp]
    refine ret_pure hx ?_
    simp [go_sem,L90,R90]
end Go.Proofs.YtfdolehffjmdmaaGreatDoor
/- Puts that stand: slices asked by a function at what entries do. -/
namespace Go.Proofs.YtfdolehffjmdmaaGreatDoor
set_option linter.unusedSimpArgs false
set_option linter.unusedVariables false
open Go.RowKit
theorem indexOp_meets (l : List FOp) (g : Nat) (caps : List PV) (Hs : List AObj) (p : FOp → Bool) (hg : hasBody Tryz.prog g = true) (hl : l.length ≤ 9223372036854775806) (hc : ClosedH Hs caps)
    (hp:∀ e ∈ l,Meets Tryz.prog g (.agg (cOp e) :: caps) Hs (.bool (p e)) Hs) :
    Meets Tryz.prog 130 [.list (l.map cOp),.clo g caps] Hs (.int .i64 (idxF p l 0)) Hs:=by
  refine Meets.of_walk Tryz.func130 Tryz.ntmps130 low130 res130 (by simp) fun x hx=>?_
  simp only [go_sem,L130,R130]
  refine loop_keep [0,1,7,8] (fun n st=>∃ k:Nat,k + n=l.length∧idxF p (l.drop k) k=idxF p l 0 ∧
    st=⟨mkE .top [(0,.list (l.map cOp)),(1,.clo g caps),(7,.int .i64 l.length),(8,.int .i64 k)],Hs⟩) l.length ?_ ?_
  · refine ⟨0,by omega,by simp,?_⟩
    simp [keep_mk,go_sem]
  · rintro n st ⟨k,hk,hi,rfl⟩
    by_cases hlt:k < l.length
    · have hgt:l[k]? = some (nth l k):=nth_get? _ _ hlt
      have wk:=i64_up (k:=k) (by omega)
      rw [idxF_drop p l k hlt] at hi
      simp only [go_sem,hlt,hgt,cOp,cId]
      refine ops_callv rfl hg (.whole (hp (nth l k) (by rw [nth_eq _ _ hlt]; exact List.getElem_mem hlt)) rfl ?_ hc.sub hc.back) ?_
      · simp only [go_sem,cOp,cId]
        rw [hc.caps]
      cases hpk:p (nth l k)
      · rw [if_neg (by simp [hpk])] at hi
        simp only [go_sem,wk]
        exact ⟨n - 1,by omega,k + 1,by omega,hi,by simp [keep_mk,go_sem]⟩
      · rw [if_pos hpk] at hi
        simp only [go_sem]
        refine ret_scal hx rfl hc.kept ?_
        simp [go_sem,L130,R130,hi]
    · have:l.drop k = []:=List.drop_eq_nil_of_le (by omega)
      rw [this] at hi
      simp only [go_sem,hlt]
      refine ret_scal hx rfl hc.kept ?_
      simp [go_sem,L130,R130,← hi,idxF]
theorem contFOp_meets (l : List FOp) (g : Nat) (caps : List PV) (Hs : List AObj) (p : FOp → Bool) (hg : hasBody Tryz.prog g = true) (hl : l.length ≤ 9223372036854775806) (hc : ClosedH Hs caps)
    (hp:∀ e ∈ l,Meets Tryz.prog g (.agg (cOp e) :: caps) Hs (.bool (p e)) Hs) :
    Meets Tryz.prog 89 [.list (l.map cOp),.clo g caps] Hs (.bool (l.any p)) Hs:=by
  refine Meets.of_walk Tryz.func89 Tryz.ntmps89 low89 res89 (by simp) fun x hx=>?_
  simp only [go_sem,L89,R89]
  refine ops_call (.whole (indexOp_meets l g caps Hs p hg hl hc hp) rfl ?_ hc.sub hc.back) ?_
  · simp only [go_sem]
    rw [hc.leaf]
  simp only [go_sem]
  refine ret_scal hx rfl hc.kept ?_
  simp [go_sem,L89,R89,idxF_any]
theorem closedCaps {caps:List PV} (h1:caps.map (renLeaf true (pos (List.range 0)) (frzAt false []))=caps) (h2:caps.map (ren true (pos (List.range 0)) (frzAt false []))=caps):ClosedH [] caps:=⟨h1,h2,rfl,rfl,rfl⟩
theorem fraw1_meets (l : List Entry) (ps : List (List Id)) (all : List FOp) (o : FOp) (hl : l.length ≤ 9223372036854775806) (ha : all.length ≤ 9223372036854775806)
    (h:∀ y ∈ all,0≤findE l y.id∧findE l y.id < ps.length∧(pastAt ps l y.id).length≤9223372036854775806) :
    Meets Tryz.prog 88 [.agg (cOp o),.rptr [.list (all.map cOp)],.rptr [pvPasts l ps]] [] (.bool (!standB ps l all o)) []:=by
  have hc:=contFOp_meets all 90 [.rptr (cOp o),.rptr [pvPasts l ps]] [] (fun y=>decide (y.k=o.k) && hasI (pastAt ps l y.id) o.id) (by kernel_rfl) ha
    (closedCaps (by simp [renLeaf,cOp,pvPasts]) (by simp [ren,renT,renCell,renLeaf,cOp,pvPasts])) (fun y hy=>raw11_meets l ps o y hl (h y hy).1 (h y hy).2.1 (h y hy).2.2)
  refine Meets.of_walk Tryz.func88 Tryz.ntmps88 low88 res88 (by simp) fun x hx=>?_
  simp only [go_sem,L88,R88,cOp]
  cases hp:o.p
  · simp only [go_sem]
    refine ret_pure hx ?_
    simp [go_sem,L88,R88,standB,hp]
  · simp only [go_sem]
    refine ops_call (.lookE hc rfl (by simp [go_sem,lookF,lookN,cOp,pvPasts,hp])) ?_
    simp only [go_sem]
    refine ret_pure hx ?_
    simp [go_sem,L88,R88,standB,hp]
end Go.Proofs.YtfdolehffjmdmaaGreatDoor
/- Contracts of functions whose last pieces are no lowered code: these are shown by hand. -/
namespace Go.Proofs.YtfdolehffjmdmaaGreatDoor
open Go.RowKit
def flatC:Code→List Code
 | .seq a b=>flatC a ++ flatC b
 | c => [c]
def lowAll (P:Program) (nt:Nat):List Code→Option (List LC)
 | []=>some []
 | c :: l=>match lowerCode P nt c,lowAll P nt l with
  | some a,some r=>some (a :: r)
  | _,_=>none
def WPL (P:Program):List Code→(Exit→Act→World→Prop)→Act→World→Prop
 | [],Q,a,w=>Q .normal a w
 | c :: l,Q,a,w=>c.wp P (Exit.then (WPL P l Q) Q) a w
section
variable {P:Program} {x:Cx} {nt:Nat} {st:St}
theorem then_mono {n n':Act→World→Prop} {Q Q':Exit→Act→World→Prop} (hn:∀ a w,n a w→n' a w) (hq:∀ e a w,Q e a w→Q' e a w) (e:Exit) (a:Act) (w:World) (h:Exit.then n Q e a w):Exit.then n' Q' e a w:=by
 cases e with
 | normal=>exact hn _ _ h
 | _=>exact hq _ _ _ h
theorem WPL_mono:∀ {l:List Code} {Q Q':Exit→Act→World→Prop} {a:Act} {w:World},WPL P l Q a w→(∀ e a w,Q e a w→Q' e a w)→WPL P l Q' a w
 | [],_,_,_,_,h,hq=>hq _ _ _ h
 | c :: l,Q,Q',a,w,h,hq=>wp_mono (c:=c) h fun e a' w' h'=>then_mono (fun _ _ h2=>WPL_mono (l:=l) h2 hq) hq e a' w' h'
theorem WPL_app:∀ {l1 l2:List Code} {Q:Exit→Act→World→Prop} {a:Act} {w:World},WPL P (l1 ++ l2) Q a w→WPL P l1 (Exit.then (WPL P l2 Q) Q) a w
  | [],_,_,_,_,h=>h
  | c :: l1, l2, Q, a, w, h => wp_mono (c := c) h fun e a' w' h' => by
      cases e with
      | normal=>exact WPL_app (l1:=l1) h'
      | _=>exact h'
theorem WPL_join:∀ {l1 l2:List Code} {Q:Exit→Act→World→Prop} {a:Act} {w:World},WPL P l1 (Exit.then (WPL P l2 Q) Q) a w→WPL P (l1 ++ l2) Q a w
  | [],_,_,_,_,h=>h
  | c :: l1, l2, Q, a, w, h => wp_mono (c := c) h fun e a' w' h' => by
      cases e with
      | normal=>exact WPL_join (l1:=l1) h'
      | _=>exact h'
theorem wp_one {c:Code} {Q:Exit→Act→World→Prop} {a:Act} {w:World} (h:WPL P [c] Q a w):c.wp P Q a w:=wp_mono (c:=c) h fun e a' w' h'=>by cases e <;> exact h'
theorem wp_flat:∀ {c:Code} {Q:Exit→Act→World→Prop} {a:Act} {w:World},WPL P (flatC c) Q a w→c.wp P Q a w
 | .seq c1 c2,Q,a,w,h=>by
  rw [flatC] at h
  refine wp_seq (wp_flat (c:=c1) (WPL_mono (WPL_app h) fun e a' w' h'=>?_))
  cases e with
  | normal=>exact wp_flat (c:=c2) h'
  | _=>exact h'
 | .skip,_,_,_,h=>wp_one h
 | .region ..,_,_,_,h=>wp_one h
 | .cond ..,_,_,_,h=>wp_one h
 | .block ..,_,_,_,h=>wp_one h
 | .loop ..,_,_,_,h=>wp_one h
 | .exit ..,_,_,_,h=>wp_one h
 | .ret,_,_,_,h=>wp_one h
 | .rangeFunc ..,_,_,_,h=>wp_one h
 | .scope ..,_,_,_,h=>wp_one h
 | .label ..,_,_,_,h=>wp_one h
 | .goto ..,_,_,_,h=>wp_one h
 | .refuse ..,_,_,_,h=>wp_one h
theorem WPL_low:∀ {l:List Code} {ll:List LC} {Q:AE→St→Prop} {st:St} {a:Act} {w:World},lowAll P nt l=some ll→WL P x nt ll Q st→Rel x nt st a w→WPL P l (postOf x nt Q) a w
 | [],ll,Q,st,a,w,h,hw,hr=>by cases h; exact ⟨st,hw,hr⟩
 | c :: l,ll,Q,st,a,w,h,hw,hr=>by
  rw [lowAll] at h
  split at h <;> try (cases h; done)
  rename_i lc r h1 h2
  cases h
  refine wp_mono (hw c h1 a w hr) fun e a' w' hq=>?_
  cases e with
  | normal=>obtain ⟨st',g1,g2⟩:=hq; exact WPL_low (l:=l) h2 g1 g2
  | exit id=>exact hq
  | ret=>exact hq
  | goto l=>exact hq.elim
  | panic ch=>exact hq.elim
  | outgrown=>exact hq.elim
theorem wl_value {ops:Array Oper} {Q:Exit→Act→World→Prop} {o:Oper} {rest:List Oper} {a:Act} {w w':World} {v:Value} (hg:o.guard=none) (hex:(execOp a.eval o).run P w = .ok (.value v) w') (h:wpList P ops Q rest (a.put o.dst v) w'):wpList P ops Q (o :: rest) a w:=by
 unfold wpList
 rw [if_pos (by simp [Region.wanted,hg])]
 refine .inl ?_
 unfold Oper.wp
 rw [hex]
 exact h
theorem Meets.of_code {f : Nat} {fn : Func} {c : Code} {lrs : List LRes} {args : List PV} {Hs Hs' : List AObj} {r : PV} {nt : Nat} (hf : P.funcs[f]? = some fn) (hnt : fn.ntmps = nt) (hb : fn.body = some c) (hres : lowerRes P fn.results.toList = some lrs)
    (hargs:args.length≤nt)
    (h:∀ x:Cx,x.H0=Hs→∀ a w,Rel x nt (St.init args Hs) a w→c.wp P (postOf x nt (retQ x nt lrs r Hs')) a w):Meets P f args Hs r Hs':=by
  intro x vs hx hr hp
  have hvl:vs.size=args.length:=by have:=hp.1; simpa using this
  refine calls_of_wp hf hb ?_
  have hrel:Rel x nt (St.init args Hs) { tmps:=vs ++ Array.replicate (fn.ntmps - vs.size) Go.undef,defers := [] } x.w0:=by
    refine ⟨⟨x.C0,hr,fun t=>?_⟩,rfl,by simp; omega⟩
    simp only [St.init]
    by_cases ht:t < args.length
    · have e1:args[t]? = some args[t]:=List.getElem?_eq_getElem ht
      have e2:vs.toList[t]? = some vs[t]:=by simp [ht,hvl]
      have:=hp.2 t _ _ e1 e2
      simp only [List.getD,e1,Option.getD_some]
      rw [show (vs ++ Array.replicate (fn.ntmps - vs.size) Go.undef).getD t Go.undef=vs[t] by
        simp [Array.getD,Array.getElem_append,hvl,ht]; omega]
      exact this
    · simp only [List.getD,List.getElem?_eq_none (by omega:args.length≤t),Option.getD_none]
      rw [show (vs ++ Array.replicate (fn.ntmps - vs.size) Go.undef).getD t Go.undef=Go.undef by
        simp only [Array.getD]
        split
        · rw [Array.getInternal_eq_getElem,Array.getElem_append_right (by omega)]; simp
        · rfl]
      exact .undef
  have fin:∀ st a w,(∃ st' keep,Weak x nt st st'∧Ends x lrs keep r Hs' st')→Rel x nt st a w→a.defers = []∧∃ v,(results fn a.tmps).run P w = .ok v w∧∃ v1 C',Ending.returned v = .returned v1∧HR x C' Hs' w∧RepV (Stab x C' Hs' w) w C' r v1:=by
    intro st a w ⟨st',keep,hwk,ps,h1,h2,h3,h4,h5,h6⟩ hrel
    replace hrel:=hwk a w hrel
    obtain ⟨⟨C,hr1,he⟩,hdf,hsz⟩:=hrel
    obtain ⟨us,k1,k2⟩:=evalRes_run hr1 he hres h1
    refine ⟨hdf,if h:us.toArray.size=1 then us.toArray[0] else .tuple us.toArray,?_,if h:us.toArray.size=1 then us.toArray[0] else .tuple us.toArray,C.sub (List.range x.H0.length ++ keep),rfl,?_⟩
    · have hm:(fn.results.mapM (resVal a.tmps)).run P w = .ok us.toArray w:=by
        rw [Array.mapM_eq_mapM_toList]
        simp [k1]
      have hq:results fn a.tmps=(do let vs ← fn.results.mapM (resVal a.tmps); pure (if h:vs.size=1 then vs[0] else .tuple vs)):=rfl
      rw [hq,Sem.run_bind,hm,Result.andThen_ok,Sem.run_pure]
    · have hlen:(List.range x.H0.length ++ keep).Nodup:=by
        refine List.nodup_append.2 ⟨List.nodup_range,h2,fun a ha b hb e=>?_⟩
        have:=List.mem_range.1 ha
        have:=(h3 b hb).1
        omega
      obtain ⟨q1, q2⟩ := hr1.restrict (ks := List.range x.H0.length ++ keep) hlen (fun k hk => by
          rcases List.mem_append.1 hk with h | h
          · have:=List.mem_range.1 h; omega
          · exact (h3 k h).2) (fun i hi=>by rw [List.getElem?_append_left (by simpa using hi),List.getElem?_range hi])
      subst h5
      subst h6
      exact ⟨q1,renT_rep q2 (tupOf_rep k2)⟩
  refine wp_mono (h x hx _ _ hrel) fun e a w hq=>?_
  cases e with
  | normal=>obtain ⟨st,g1,g2⟩:=hq; exact fin st a w g1 g2
  | ret=>obtain ⟨st,g1,g2⟩:=hq; exact fin st a w g1 g2
  | exit id=>obtain ⟨st,g1,g2⟩:=hq; exact g1.elim
  | goto l=>exact hq.elim
  | panic ch=>exact hq.elim
  | outgrown=>exact hq.elim
theorem Meets.of_tail {f : Nat} {fn : Func} {c : Code} {l1 l2 : List Code} {ll : List LC} {lrs : List LRes} {args : List PV} {Hs Hs' : List AObj} {r : PV} {nt : Nat} (hf : P.funcs[f]? = some fn) (hnt : fn.ntmps = nt) (hb : fn.body = some c) (hfl : flatC c = l1 ++ l2)
    (hlow:lowAll P nt l1=some ll) (hres:lowerRes P fn.results.toList=some lrs) (hargs:args.length≤nt) (K:Cx→St→Prop)
    (h:∀ x:Cx,x.H0=Hs→WL P x nt ll (thenQ (K x) (retQ x nt lrs r Hs')) ⟨mkE .undef (idxE 0 args),Hs⟩)
    (hK:∀ x:Cx,x.H0=Hs→∀ st,K x st→∀ a w,Rel x nt st a w→WPL P l2 (postOf x nt (retQ x nt lrs r Hs')) a w):Meets P f args Hs r Hs' :=
  Meets.of_code hf hnt hb hres hargs fun x hx a w hr=>wp_flat (by
    rw [hfl]
    refine WPL_join (WPL_mono (WPL_low hlow (h x hx) (by rw [← init_mk]; exact hr)) fun e a' w' hq=>?_)
    cases e with
    | normal=>obtain ⟨st,g1,g2⟩:=hq; exact hK x hx st g1 a' w' g2
    | exit id=>exact hq
    | ret=>exact hq
    | goto l=>exact hq
    | panic ch=>exact hq
    | outgrown=>exact hq)
end
end Go.Proofs.YtfdolehffjmdmaaGreatDoor
/- Lowered pieces of functions whose last pieces are shown by hand (printed by a program). -/
namespace Go.Proofs.YtfdolehffjmdmaaGreatDoor
set_option maxRecDepth 100000 in
def LL86:List LC := [(.reg none [.q 4 (.mv (.val .nilsl))]),(.reg none [.q 8 (.mv (.tmp 0)),.q 9 (.mv (.tmp 1)),.q 10 (.call 130 [.tmp 8,.tmp 9] 0),.q 5 (.mv (.tmp 10))]),(.reg none [.q 11 (.mv (.tmp 5)),.q 12 (.bin .eql (.tmp 11) (.val (.int .i64 (-1))))]),(.cond (.tmp 12) (.seq (.reg none [.q 13 (.mv (.tmp 0)),.q 4 (.mv (.tmp 13))]) .ret) .skip),(.reg none [.q 14 (.mv (.tmp 5)),.q 15 (.bin .add (.tmp 14) (.val (.int .i64 1))),.q 6 (.mv (.tmp 15))]),(.block 0 (.loop (.seq (.seq (.reg none [.q 16 (.mv (.tmp 6)),.q 17 (.mv (.tmp 0)),.q 18 (.len false (.tmp 17)),.q 19 (.bin .lss (.tmp 16) (.tmp 18))]) (.cond (.tmp 19) .skip (.exit 0))) (.seq (.block 1 (.seq (.reg none [.q 22 (.mv (.tmp 0)),.q 23 (.mv (.tmp 6)),.q 24 (.iaddrS 5 (.tmp 22) (.tmp 23)),.q 25 (.load 5 true (.tmp 24)),.q 7 (.alloc [.int .i64 0,.int .i64 0,.str ⟨#[]⟩,.str ⟨#[]⟩,(.bool false)]),.s (.store 5 (.tmp 7) (.tmp 25))]) (.seq (.reg none [.q 26 (.mv (.tmp 1)),.q 27 (.load 5 true (.tmp 7)),.q 28 (.callv (.tmp 26) [.tmp 27]),.q 29 (.not (.tmp 28))]) (.cond (.tmp 29) (.seq (.reg none [.q 30 (.mv (.tmp 0)),.q 31 (.mv (.tmp 5)),.q 32 (.load 5 true (.tmp 7)),.q 33 (.iaddrS 5 (.tmp 30) (.tmp 31)),.s (.store 5 (.tmp 33) (.tmp 32))]) (.reg none [.q 34 (.mv (.tmp 5)),.q 35 (.bin .add (.tmp 34) (.val (.int .i64 1))),.q 5 (.mv (.tmp 35))])) .skip)))) (.reg none [.q 20 (.mv (.tmp 6)),.q 21 (.bin .add (.tmp 20) (.val (.int .i64 1))),.q 6 (.mv (.tmp 21))])))))]
def R86:List LRes := [.tmp 4]
theorem lowl86:lowAll Tryz.prog 42 ((flatC (Tryz.f86.body.getD .skip)).take 6)=some LL86:=by kernel_rfl
theorem body86:Tryz.f86.body=some (Tryz.f86.body.getD .skip):=by kernel_rfl
theorem res86:lowerRes Tryz.prog Tryz.f86.results.toList=some R86:=by kernel_rfl
end Go.Proofs.YtfdolehffjmdmaaGreatDoor
/- slices.DeleteFunc at what entries do: what is left stands in the same array. -/
namespace Go.Proofs.YtfdolehffjmdmaaGreatDoor
set_option linter.unusedSimpArgs false
set_option linter.unusedVariables false
open Go.RowKit
theorem filter_take {α:Type} [Inhabited α] {l:List α} {k:Nat} (p:α→Bool) (h:k < l.length):(l.take (k + 1)).filter p=(l.take k).filter p ++ if p (nth l k)=true then [nth l k] else []:=by
 rw [List.take_add_one,nth_get? _ _ h,List.filter_append]
 by_cases h2:p (nth l k)=true <;> simp [h2]
def delTail : List Code := [.region 11 #[⟨some 36, .move (.tmp 0), 127, "slices.go:253", #[], none⟩, ⟨some 37, .move (.tmp 5), 3, "slices.go:253", #[], none⟩, ⟨some 38, .slice 127 (.tmp 36) (some (.tmp 37)) none none, 127, "slices.go:253", #[⟨0, .data⟩, ⟨1, .data⟩], none⟩, ⟨none, .call ⟨.builtin .clear, #[.tmp 38], #[127]⟩, 0, "slices.go:253", #[⟨2, .data⟩], none⟩] false,
 .region 12 #[⟨some 39, .move (.tmp 0), 127, "slices.go:254", #[], none⟩, ⟨some 40, .move (.tmp 5), 3, "slices.go:254", #[], none⟩, ⟨some 41, .slice 127 (.tmp 39) none (some (.tmp 40)) none, 127, "slices.go:254", #[⟨0, .data⟩, ⟨1, .data⟩], none⟩, ⟨some 4, .assign (.tmp 41), 127, "slices.go:254", #[⟨2, .data⟩, ⟨0, .phase⟩, ⟨1, .phase⟩, ⟨2, .phase⟩], none⟩] false, .ret]
theorem und_ops:Tryz.prog.underlying 127=some (.slice 131):=by kernel_rfl
set_option maxHeartbeats 2000000 in
theorem del_tail {x : Cx} {st : St} {rows : List (List PV)} {v i : Nat} (h0 : st.env 0 = .arr 0 v) (h5 : st.env 5 = .int .i64 i) (hh : st.heap = [.arr v true false 131 5 rows]) (hi : i < rows.length)
    {Q:AE→St→Prop} (hQ:∀ st':St,st'.env 4 = .arr 0 (v + 1)→st'.heap = [.arr (v + 1) true false 131 5 (rows.take i)]→Q .ret st'):∀ a w,Rel x 42 st a w→WPL Tryz.prog delTail (postOf x 42 Q) a w:=by
  intro a w ⟨⟨C,hr,he⟩,hdf,hsz⟩
  have e0:=he 0
  have e5:=he 5
  rw [h0] at e0
  rw [h5] at e5
  have e5:=e5.int_inv
  rw [hh] at hr
  obtain ⟨q1,q2,q3⟩:=hr.row (id:=0) rfl (by rw [hh] at e0; exact e0)
  rcases q3 with ⟨-,rfl⟩ | ⟨g,cap,cur,r1,r2,r3,r4,r5,r6⟩
  · simp at hi
  have hcell:∀ t,t < rows.length * 5→(x.w0=x.w0)∧(w.cell? ⟨g,t,none⟩).isSome=true∧w.frozen? ⟨g,t,none⟩=false:=by
    intro t ht
    have:t < cur.size:=by rw [r5]; omega
    exact ⟨rfl,by simp [World.cell?,r2,this],by simp [World.frozen?,r2]⟩
  obtain ⟨z,hz1,hz2,hz3⟩:∃ z,(∀ w,(zeroValue 131).run Tryz.prog w = .ok z w)∧z.cells.size=5∧∀ u ∈ z.cells,u.oneCell'=true:=⟨.agg #[.int .i64 0,.int .i64 0,.string ⟨#[]⟩,.string ⟨#[]⟩,.bool false],fun w=>by kernel_rfl,rfl,by
    intro u hu
    simp [Value.cells] at hu
    rcases hu with rfl | rfl | rfl | rfl <;> rfl⟩
  obtain ⟨zs,hzl,hcl⟩:=run_clear_cells (P:=Tryz.prog) w 127 131 0 z und_ops hz1 hz3 g (i * 5) (rows.length - i) (cap - i) (by omega)
    (fun j hj=>(hcell (i * 5 + j) (by rw [hz2] at hj; omega)).2.1) (fun j hj=>(hcell (i * 5 + j) (by rw [hz2] at hj; omega)).2.2)
  rw [hz2] at hzl
  obtain ⟨cs',c1,c2,c3⟩:=setCells_heap g zs (i * 5) w cur r2 (by rw [hzl,r5]; omega)
  have hown:(C.sv 0).ownBlock=some g:=by rw [← q1,r1]; rfl
  obtain ⟨C',k1,k2,k3⟩:=hr.rerow (id:=0) (v':=v + 1) (g':=g) (cap':=cap) (rows':=rows.take i) (cur':=cs') rfl (setCells_step g zs (i * 5) w hown) (.inl hown) (.inr (by omega)) c1
    (by rw [List.length_take]; omega) r4 (by rw [c2,r5]) (fun row hrow=>q2 row (List.mem_of_mem_take hrow)) (fun k row j p u a1 a2 a3=>by
      rw [List.getElem?_take] at a1
      split at a1
      · rename_i hk
        have hj:j < 5:=by rw [← q2 row (List.mem_of_getElem? a1)]; exact (List.getElem?_eq_some_iff.1 a2).1
        rw [c3,if_neg (by omega)] at a3
        obtain ⟨y,y1,y2,y3⟩:=r6 k row j p a1 a2
        rw [y1] at a3; cases a3
        exact ⟨y2,y3⟩
      · cases a1)
  rw [List.length_take,Nat.min_eq_left (by omega)] at k3
  have g0:∀ (b:Act),b.tmps.size=42→∀ (d:Nat) (u:Value) (t:Nat),d < 42→(b.put (some d) u).tmps.getD t Go.undef=if t=d then u else b.tmps.getD t Go.undef:=by
    intro b hb d u t hd
    simp only [Act.put]
    by_cases e:t=d
    · subst e; simp [Array.getD,hb,hd]
    · rw [if_neg e]
      by_cases ht:t < b.tmps.size
      · simp [Array.getD,ht,Array.getElem_setIfInBounds_ne,Ne.symm e]
      · simp [Array.getD,ht]
  have gs:∀ (b:Act),b.tmps.size=42→∀ d u,(b.put d u).tmps.size=42:=by
    intro b hb d u
    cases d <;> simp [Act.put,hb]
  have hu0:a.tmps.getD 0 Go.undef = .slice (some ⟨g,0,none⟩) rows.length cap:=r1
  obtain ⟨a1,ha1⟩:∃ a1,a.put (some 36) (.slice (some ⟨g,0,none⟩) rows.length cap)=a1:=⟨_,rfl⟩
  have s1:a1.tmps.size=42:=by rw [← ha1]; exact gs _ hsz _ _
  have t1:∀ t,a1.tmps.getD t Go.undef=if t=36 then .slice (some ⟨g,0,none⟩) rows.length cap else a.tmps.getD t Go.undef:=fun t=>by rw [← ha1]; exact g0 _ hsz _ _ _ (by omega)
  obtain ⟨a2,ha2⟩:∃ a2,a1.put (some 37) (.int .i64 i)=a2:=⟨_,rfl⟩
  have s2:a2.tmps.size=42:=by rw [← ha2]; exact gs _ s1 _ _
  have t2:∀ t,a2.tmps.getD t Go.undef=if t=37 then .int .i64 i else a1.tmps.getD t Go.undef:=fun t=>by rw [← ha2]; exact g0 _ s1 _ _ _ (by omega)
  obtain ⟨a3,ha3⟩:∃ a3,a2.put (some 38) (.slice (some ⟨g,i * 5,none⟩) (rows.length - i) (cap - i))=a3:=⟨_,rfl⟩
  have s3:a3.tmps.size=42:=by rw [← ha3]; exact gs _ s2 _ _
  have t3:∀ t,a3.tmps.getD t Go.undef=if t=38 then .slice (some ⟨g,i * 5,none⟩) (rows.length - i) (cap - i) else a2.tmps.getD t Go.undef:=fun t=>by rw [← ha3]; exact g0 _ s2 _ _ _ (by omega)
  refine wp_region_list ?_
  refine wl_value (w':=w) (v := .slice (some ⟨g,0,none⟩) rows.length cap) rfl (by simp only [execOp,Act.eval,hu0,Sem.run_pure]) ?_
  rw [ha1]
  refine wl_value (w':=w) (v := .int .i64 i) rfl (by simp only [execOp,Act.eval,t1,e5,Sem.run_pure,Nat.reduceEqDiff,if_false]) ?_
  rw [ha2]
  refine wl_value (w':=w) (v := .slice (some ⟨g,i * 5,none⟩) (rows.length - i) (cap - i)) rfl ?_ ?_
  · have e1:a2.eval (.tmp 36) = .slice (some ⟨g,0,none⟩) rows.length cap:=by simp only [Act.eval,t2,t1,Nat.reduceEqDiff,if_false,if_true]
    have e2:a2.eval (.tmp 37) = .int .i64 i:=by simp only [Act.eval,t2,if_true]
    have hb:(Instr.sliceBounds true rows.length cap (some (.int .i64 (i:Int))) none none).run Tryz.prog w = .ok (i,rows.length,cap) w:=by
      simp [Instr.sliceBounds,Instr.sliceBound,asIntOf]
      omega
    simp only [execOp,Option.map_some,Option.map_none,e1,e2,Instr.sliceAt,Instr.slice,Sem.run_bind,run_underlying und_ops,Result.andThen_ok,hb,sizeOf_run (show sizeP Tryz.prog 131=some 5 by kernel_rfl),Sem.run_pure]
    rw [if_neg (by omega)]
    simp [Addr.add]
    try omega
  rw [ha3]
  refine wl_value (w':=w.setCells g (i * 5) zs) (v := .tuple #[]) rfl ?_ ?_
  · have e1:a3.eval (.tmp 38) = .slice (some ⟨g,i * 5,none⟩) (rows.length - i) (cap - i):=by simp only [Act.eval,t3,if_true]
    simp only [execOp,resolve,Sem.run_bind,Sem.run_pure,Result.andThen_ok,invoke,builtin,List.map_toArray,List.map_cons,List.map_nil,e1,hcl]
  obtain ⟨w1,hw1⟩:∃ w1,w.setCells g (i * 5) zs=w1:=⟨_,rfl⟩
  rw [hw1] at k1 k2 k3 ⊢
  have ha4:a3.put none (.tuple #[])=a3:=rfl
  rw [ha4]
  have u0:a3.tmps.getD 0 Go.undef = .slice (some ⟨g,0,none⟩) rows.length cap:=by rw [t3,if_neg (by omega),t2,if_neg (by omega),t1,if_neg (by omega)]; exact hu0
  have u5:a3.tmps.getD 5 Go.undef = .int .i64 i:=by rw [t3,if_neg (by omega),t2,if_neg (by omega),t1,if_neg (by omega)]; exact e5
  obtain ⟨b1,hb1⟩:∃ b1,a3.put (some 39) (.slice (some ⟨g,0,none⟩) rows.length cap)=b1:=⟨_,rfl⟩
  have s4:b1.tmps.size=42:=by rw [← hb1]; exact gs _ s3 _ _
  have t4:∀ t,b1.tmps.getD t Go.undef=if t=39 then .slice (some ⟨g,0,none⟩) rows.length cap else a3.tmps.getD t Go.undef:=fun t=>by rw [← hb1]; exact g0 _ s3 _ _ _ (by omega)
  obtain ⟨b2,hb2⟩:∃ b2,b1.put (some 40) (.int .i64 i)=b2:=⟨_,rfl⟩
  have s5:b2.tmps.size=42:=by rw [← hb2]; exact gs _ s4 _ _
  have t5:∀ t,b2.tmps.getD t Go.undef=if t=40 then .int .i64 i else b1.tmps.getD t Go.undef:=fun t=>by rw [← hb2]; exact g0 _ s4 _ _ _ (by omega)
  obtain ⟨b3,hb3⟩:∃ b3,b2.put (some 41) (.slice (some ⟨g,0,none⟩) i cap)=b3:=⟨_,rfl⟩
  have s6:b3.tmps.size=42:=by rw [← hb3]; exact gs _ s5 _ _
  have t6:∀ t,b3.tmps.getD t Go.undef=if t=41 then .slice (some ⟨g,0,none⟩) i cap else b2.tmps.getD t Go.undef:=fun t=>by rw [← hb3]; exact g0 _ s5 _ _ _ (by omega)
  show Code.wp Tryz.prog _ _ a3 w1
  refine wp_region_list ?_
  refine wl_value (w':=w1) (v := .slice (some ⟨g,0,none⟩) rows.length cap) rfl (by simp only [execOp,Act.eval,u0,Sem.run_pure]) ?_
  rw [hb1]
  refine wl_value (w':=w1) (v := .int .i64 i) rfl (by simp only [execOp,Act.eval,t4,u5,Sem.run_pure,Nat.reduceEqDiff,if_false]) ?_
  rw [hb2]
  refine wl_value (w':=w1) (v := .slice (some ⟨g,0,none⟩) i cap) rfl ?_ ?_
  · have e1:b2.eval (.tmp 39) = .slice (some ⟨g,0,none⟩) rows.length cap:=by simp only [Act.eval,t5,t4,Nat.reduceEqDiff,if_false,if_true]
    have e2:b2.eval (.tmp 40) = .int .i64 i:=by simp only [Act.eval,t5,if_true]
    have hb:(Instr.sliceBounds true rows.length cap none (some (.int .i64 (i:Int))) none).run Tryz.prog w1 = .ok (0,i,cap) w1:=by
      simp [Instr.sliceBounds,Instr.sliceBound,asIntOf]
      omega
    simp only [execOp,Option.map_some,Option.map_none,e1,e2,Instr.sliceAt,Instr.slice,Sem.run_bind,run_underlying und_ops,Result.andThen_ok,hb,sizeOf_run (show sizeP Tryz.prog 131=some 5 by kernel_rfl),Sem.run_pure]
    rw [if_neg (by omega)]
    simp [Addr.add]
  rw [hb3]
  refine wl_value (w':=w1) (v := .slice (some ⟨g,0,none⟩) i cap) rfl (by simp only [execOp,Act.eval,t6,Sem.run_pure,if_true]) ?_
  show Code.wp Tryz.prog .ret _ _ w1
  refine wp_ret ?_
  refine ⟨⟨fun t=>if t=4 then .arr 0 (v + 1) else .top,[.arr (v + 1) true false 131 5 (rows.take i)]⟩,hQ _ rfl rfl,⟨C',k1,fun t=>?_⟩,?_,gs _ s6 _ _⟩
  · rw [g0 _ s6 _ _ _ (by omega)]
    by_cases e:t=4
    · rw [if_pos e]; simp only [e,if_true]; exact k3
    · rw [if_neg e]; simp only [e,if_false]; exact .any
  · have pd:∀ (b:Act) (d:Option Nat) (u:Value),(b.put d u).defers=b.defers:=fun b d u=>by cases d <;> rfl
    rw [pd,← hb3,pd,← hb2,pd,← hb1,pd,← ha3,pd,← ha2,pd,← ha1,pd]
    exact hdf
theorem idxF_at {α:Type} [Inhabited α] (p:α→Bool):∀ (l:List α) (k:Nat),l.any p=true→∃ j,j < l.length∧idxF p l k=((k + j:Nat):Int)∧p (nth l j)=true∧∀ q,q ∈ l.take j→p q=false
 | [],k,h=>by simp at h
 | y :: l,k,h=>by
  cases hy:p y
  ·
   have h':l.any p=true:=by simpa [hy] using h
   obtain ⟨j,h1,h2,h3,h4⟩:=idxF_at p l (k + 1) h'
   refine ⟨j + 1,by simp; omega,by rw [idxF,if_neg (by simp [hy]),h2]; congr 1; omega,h3,fun q hq=>?_⟩
   rw [List.take_succ_cons] at hq
   rcases List.mem_cons.1 hq with rfl | hq
   ·
    exact hy
   ·
    exact h4 q hq
  ·
   exact ⟨0,by simp,by rw [idxF,if_pos hy]; simp,hy,fun q hq=>by simp at hq⟩
set_option maxRecDepth 10000 in
set_option maxHeartbeats 4000000 in
theorem delF_meets (l : List FOp) (g : Nat) (caps : List PV) (p : FOp → Bool) (v : Nat) (hg : hasBody Tryz.prog g = true) (hl : l.length ≤ 1000000) (hc : ClosedH [] caps)
    (hcl:∀ nl f fz,caps.map (renLeaf nl f fz)=caps∧caps.map (ren nl f fz)=caps∧caps.map (renCell nl f fz)=caps) (hp:∀ o ∈ l,Meets Tryz.prog g (.agg (cOp o) :: caps) [] (.bool (p o)) []) :
    ∃ v',Meets Tryz.prog 86 [.arr 0 v,.clo g caps] [.arr v true false 131 5 (l.map cOp)] (.arr 0 v') [.arr v' true false 131 5 ((l.filter fun o => !p o).map cOp)]:=by
  have hix:=indexOp_meets l g caps [] p hg (by omega) hc hp
  cases ha:l.any p
  · have hm1:idxF p l 0 = -1:=by
      rcases idxF_ge p l 0 with ⟨h1,-⟩ | ⟨-,h2⟩
      · exact h1
      · rw [h2] at ha; cases ha
    have hf:(l.filter fun o => !p o)=l:=List.filter_eq_self.2 fun o ho=>by
      have:=List.any_eq_false.1 ha o ho
      simpa using this
    rw [hf]
    rw [hm1] at hix
    refine ⟨v,?_⟩
    refine Meets.of_tail Tryz.func86 Tryz.ntmps86 body86 (List.take_append_drop _ _).symm lowl86 res86 (by simp) (fun _ _=>False) (fun x hx=>?_) (fun _ _ _ h=>h.elim)
    refine WL_walk ?_
    simp only [go_sem,LL86]
    refine ops_call (.scalarE hix rfl (by simp [go_sem,frzAt,pos,hcl])) ?_
    simp only [go_sem]
    refine ret_keep [] (by simp) (by simp) (by simp [hx]) ?_ ?_
    · simp [go_sem,R86,hx,pos]
    · simp [subHeap,renObj,hx,pos,go_sem,List.range_succ]
  · obtain ⟨k0,d1,d2,d3,d4⟩:=idxF_at p l 0 ha
    rw [Nat.zero_add] at d2
    rw [d2] at hix
    refine ⟨v + 1,?_⟩
    refine Meets.of_tail Tryz.func86 Tryz.ntmps86 body86 (List.take_append_drop _ _).symm lowl86 res86 (by simp) (fun _ st=>∃ (r:List FOp) (i:Nat),i < r.length∧st.env 0 = .arr 0 v∧st.env 5 = .int .i64 i∧st.heap = [.arr v true false 131 5 (r.map cOp)]∧r.take i=l.filter fun o => !p o) (fun x hx=>?_) (fun x hx st ⟨r,i,q1,q2,q3,q4,q5⟩=>?_)
    · refine WL_walk ?_
      have hk0:((k0:Int) = -1)=False:=eq_false (by omega)
      have wk0:=i64_up (k:=k0) (by omega)
      simp only [go_sem,LL86]
      refine ops_call (.scalarE hix rfl (by simp [go_sem,frzAt,pos,hcl])) ?_
      simp only [go_sem,hk0,wk0]
      refine loop_inv [0,1,5,6] 1 (fun n st=>∃ (r:List FOp) (i j:Nat),j + n=l.length∧i < j∧r.length=l.length∧r.take i=(l.take j).filter (fun o => !p o)∧r.drop j=l.drop j ∧
        st=⟨mkE .top [(0,.arr 0 v),(1,.clo g caps),(5,.int .i64 i),(6,.int .i64 j)],[.arr v true false 131 5 (r.map cOp)]⟩) (l.length - (k0 + 1)) (by simp [hx]) (by simp) ?_ ?_
      · refine ⟨l,k0,k0 + 1,by omega,by omega,rfl,?_,rfl,?_⟩
        · rw [filter_take _ d1,if_neg (by simp [d3]),List.append_nil]
          exact (List.filter_eq_self.2 fun q hq=>by simp [d4 q hq]).symm
        · simp [trim_mk,go_sem,subHeap,renObj,renCell,renLeaf,pos,List.range_succ,hcl]
      · rintro n st ⟨r,i,j,hj,hij,hrl,hrt,hrd,rfl⟩
        by_cases hlt:j < l.length
        · have hgj:r[j]? = some (nth l j):=by
            have:(r.drop j)[0]? = (l.drop j)[0]? := by rw [hrd]
            rw [List.getElem?_drop,List.getElem?_drop,Nat.add_zero] at this
            rw [this]; exact nth_get? _ _ hlt
          have hgi:r[i]? = some (nth r i):=nth_get? _ _ (by omega)
          have hjr:j < r.length:=by omega
          have hir:i < r.length:=by omega
          have wj:=i64_up (k:=j) (by omega)
          have wi:=i64_up (k:=i) (by omega)
          have hpe:=hp (nth l j) (List.mem_of_getElem? (nth_get? _ _ hlt))
          have hft:=filter_take (fun o => !p o) hlt
          have hdd:r.drop (j + 1)=l.drop (j + 1):=by rw [← List.drop_drop,hrd,List.drop_drop]
          simp only [go_sem,List.length_map,hjr,hgj,cOp,List.getElem?_map,Option.map_some]
          refine ops_callv rfl hg (.scalarE hpe rfl (by simp [go_sem,frzAt,pos,hcl,cOp])) ?_
          cases hpk:p (nth l j)
          · simp only [go_sem,intS,Int.reduceLT,Int.reduceLE,Int.reduceToNat,Int.reduceAdd,frz,frz,PV.isPure,List.length_map,hjr,hir,hgi,cOp,List.getElem?_map,Option.map_some,wj,wi]
            refine ⟨by simp,n - 1,by omega,r.set i (nth l j),i + 1,j + 1,by omega,by omega,by simp [hrl],?_,?_,?_⟩
            · rw [hft,if_pos (by simp [hpk]),← hrt,List.take_add_one,List.take_set_of_le (Nat.le_refl _),List.getElem?_set_self hir]
              rfl
            · rw [List.drop_set_of_lt (by omega),hdd]
            · simp [trim_mk,go_sem,subHeap,renObj,renCell,renLeaf,pos,List.range_succ,hcl,List.map_set,cOp]
          · simp only [go_sem,wj]
            refine ⟨by simp,n - 1,by omega,r,i,j + 1,by omega,by omega,hrl,?_,hdd,?_⟩
            · rw [hft,if_neg (by simp [hpk]),List.append_nil,hrt]
            · simp [trim_mk,go_sem,subHeap,renObj,renCell,renLeaf,pos,List.range_succ,hcl]
        · have hjr:¬ j < r.length:=by omega
          simp only [go_sem,List.length_map,hjr]
          refine ⟨r,i,by omega,rfl,rfl,rfl,?_⟩
          rw [hrt,List.take_of_length_le (by omega)]
    · rw [← q5]
      refine del_tail (rows:=r.map cOp) (i:=i) q2 q3 q4 (by simpa using q1) (fun st' g1 g2=>?_)
      refine ret_keep [] (by simp) (by simp) (by simp [hx,g2]) ?_ ?_
      · simp [go_sem,R86,hx,pos,g1]
      · simp [subHeap,renObj,hx,pos,go_sem,List.range_succ,g2,List.map_take]
end Go.Proofs.YtfdolehffjmdmaaGreatDoor
/- slices.SortFunc at what entries do,by key and value. -/
namespace Go.Proofs.YtfdolehffjmdmaaGreatDoor
open Go.RowKit Go.Shelf
/-! texts in order -/
theorem cb_refl:∀ l:List UInt8,Lib.compareBytes l l=0
 | []=>rfl
 | a :: l=>by
  have h:¬ a < a:=by rw [UInt8.lt_iff_toNat_lt]; omega
  rw [Lib.compareBytes,if_neg h,if_neg h]
  exact cb_refl l
theorem cb_zero:∀ {a b:List UInt8},Lib.compareBytes a b=0→a=b
 | [],[],_=>rfl
 | [],_ :: _,h=>by simp [Lib.compareBytes] at h
 | _ :: _,[],h=>by simp [Lib.compareBytes] at h
 | x :: a,y :: b,h=>by
  rw [Lib.compareBytes] at h
  split at h
  ·
   simp at h
  ·
   split at h
   ·
    simp at h
   ·
    rename_i h1 h2
    rw [UInt8.lt_iff_toNat_lt] at h1 h2
    rw [cb_zero h,UInt8.toNat.inj (show x.toNat=y.toNat by omega)]
theorem cb_swap:∀ (a b:List UInt8),Lib.compareBytes b a = - Lib.compareBytes a b
 | [],[]=>rfl
 | [],_ :: _=>rfl
 | _ :: _,[]=>rfl
 | x :: a,y :: b=>by
  rw [Lib.compareBytes,Lib.compareBytes]
  by_cases h1:x < y
  ·
   have h2:¬ y < x:=by rw [UInt8.lt_iff_toNat_lt] at h1 ⊢; omega
   rw [if_neg h2,if_pos h1,if_pos h1]; rfl
  ·
   by_cases h2:y < x
   ·
    rw [if_pos h2,if_neg h1,if_pos h2]
   ·
    rw [if_neg h2,if_neg h1,if_neg h1,if_neg h2]
    exact cb_swap a b
theorem cb_trans:∀ {a b c:List UInt8},Lib.compareBytes a b < 0→Lib.compareBytes b c < 0→Lib.compareBytes a c < 0
 | [],[],_,h,_=>by simp [Lib.compareBytes] at h
 | [],_ :: _,[],_,h=>by simp [Lib.compareBytes] at h
 | [],_ :: _,_ :: _,_,_=>by simp [Lib.compareBytes]
 | _ :: _,[],_,h,_=>by simp [Lib.compareBytes] at h
 | _ :: _,_ :: _,[],_,h=>by simp [Lib.compareBytes] at h
 | x :: a,y :: b,z :: c,h,g=>by
  rw [Lib.compareBytes] at h g ⊢
  by_cases h1:x < y
  ·
   by_cases g1:y < z
   ·
    have:x < z:=by rw [UInt8.lt_iff_toNat_lt] at h1 g1 ⊢; omega
    rw [if_pos this]; decide
   ·
    rw [if_neg g1] at g
    by_cases g2:z < y
    ·
     rw [if_pos g2] at g; simp at g
    ·
     have:x < z:=by rw [UInt8.lt_iff_toNat_lt] at h1 g1 g2 ⊢; omega
     rw [if_pos this]; decide
  ·
   rw [if_neg h1] at h
   by_cases h2:y < x
   ·
    rw [if_pos h2] at h; simp at h
   ·
    rw [if_neg h2] at h
    have e:x=y:=by
     rw [UInt8.lt_iff_toNat_lt] at h1 h2
     exact UInt8.toNat.inj (by omega)
    subst e
    by_cases g1:x < z
    ·
     rw [if_pos g1]; decide
    ·
     rw [if_neg g1] at g ⊢
     by_cases g2:z < x
     ·
      rw [if_pos g2] at g; simp at g
     ·
      rw [if_neg g2] at g ⊢
      exact cb_trans h g
def cmpB (a b:ByteArray):Int:=Lib.compareBytes a.data.toList b.data.toList
theorem cmpB_refl (a:ByteArray):cmpB a a=0:=cb_refl _
theorem cmpB_zero {a b:ByteArray} (h:cmpB a b=0):a=b:=by
 apply ByteArray.ext
 exact Array.toList_inj.1 (cb_zero h)
theorem cmpB_swap (a b:ByteArray):cmpB b a = - cmpB a b:=cb_swap _ _
theorem cmpB_trans {a b c:ByteArray} (h:cmpB a b < 0) (g:cmpB b c < 0):cmpB a c < 0:=cb_trans h g
def cmpP (x y:ByteArray × ByteArray):Int:=if cmpB x.1 y.1=0 then cmpB x.2 y.2 else cmpB x.1 y.1
theorem cmpP_zero {x y:ByteArray × ByteArray} (h:cmpP x y=0):x=y:=by
 unfold cmpP at h
 split at h
 ·
  rename_i h1; exact Prod.ext (cmpB_zero h1) (cmpB_zero h)
 ·
  contradiction
theorem cmpP_swap (x y:ByteArray × ByteArray):cmpP y x = - cmpP x y:=by
 unfold cmpP
 have h1:=cmpB_swap x.1 y.1
 have h2:=cmpB_swap x.2 y.2
 split <;> split <;> omega
theorem cmpP_trans {x y z:ByteArray × ByteArray} (h:cmpP x y < 0) (g:cmpP y z < 0):cmpP x z < 0:=by
 unfold cmpP at h g ⊢
 by_cases h1:cmpB x.1 y.1=0
 ·
  rw [if_pos h1] at h
  have e1:=cmpB_zero h1
  by_cases g1:cmpB y.1 z.1=0
  ·
   rw [if_pos g1] at g
   rw [e1,if_pos g1]
   exact cmpB_trans h g
  ·
   rw [if_neg g1] at g
   rw [e1,if_neg g1]; exact g
 ·
  rw [if_neg h1] at h
  by_cases g1:cmpB y.1 z.1=0
  ·
   have e1:=cmpB_zero g1
   rw [← e1,if_neg h1]; exact h
  ·
   rw [if_neg g1] at g
   have:=cmpB_trans h g
   rw [if_neg (by omega)]; exact this
def FOp.kv (o:FOp):ByteArray × ByteArray:=(o.k,o.v)
def cmpOp (x y:FOp):Int:=cmpP x.kv y.kv
theorem swoOp:Go.Sort.SWO (ltOf cmpOp) where
 irrefl:=fun x=>by
  have:cmpP x.kv x.kv=0:=by have:=cmpP_swap x.kv x.kv; omega
  simp [ltOf,cmpOp,this]
 trans:=fun x y z h1 h2=>by
  unfold ltOf cmpOp at *
  exact decide_eq_true (cmpP_trans (of_decide_eq_true h1) (of_decide_eq_true h2))
 ntrans:=fun x y z h1 h2=>by
  unfold ltOf cmpOp at *
  have h1:=of_decide_eq_false h1
  have h2:=of_decide_eq_false h2
  apply decide_eq_false
  have a:=cmpP_swap x.kv y.kv
  have b:=cmpP_swap y.kv z.kv
  have c:=cmpP_swap x.kv z.kv
  intro h
  by_cases e1:cmpP x.kv y.kv=0
  ·
   rw [cmpP_zero e1] at h; omega
  ·
   by_cases e2:cmpP y.kv z.kv=0
   ·
    rw [← cmpP_zero e2] at h; omega
   ·
    have:=cmpP_trans (x:=z.kv) (y:=y.kv) (z:=x.kv) (by omega) (by omega)
    omega
def eOp (o:FOp):List Value := [.int .i64 o.id.r,.int .i64 o.id.n,.string o.k,.string o.v,.bool o.p]
theorem flat_op:Flat cOp eOp 5 where
 k0:=by omega
 len:=fun _=>rfl
 lenp:=fun _=>rfl
 one:=fun o v hv=>by
  simp [eOp] at hv
  rcases hv with rfl | rfl | rfl | rfl | rfl <;> rfl
 fit:=fun S w a j p h=>by
  rcases j with _ | _ | _ | _ | _ | j
  ·
   cases h; exact .int _ _
  ·
   cases h; exact .int _ _
  ·
   cases h; exact .str _
  ·
   cases h; exact .str _
  ·
   cases h; exact .bool _
  ·
   simp [cOp] at h
 back:=fun S w a j p u h hr=>by
  rcases j with _ | _ | _ | _ | _ | j
  ·
   cases h; cases hr; rfl
  ·
   cases h; cases hr; rfl
  ·
   cases h; cases hr; rfl
  ·
   cases h; cases hr; rfl
  ·
   cases h; cases hr; rfl
  ·
   simp [cOp] at h
noncomputable def sortF (l:List FOp):List FOp:=(Go.Sort.pdq (ltOf cmpOp) l.toArray 0 l.toArray.size (Lib.bitLen l.toArray.size) true true).toList
theorem sortF_spec (l:List FOp):(sortF l).Perm l∧(sortF l).Pairwise fun x y=>¬ cmpOp y x < 0:=by
 obtain ⟨h1,h2⟩:=Go.Sort.pdq_sorts (ltOf cmpOp) swoOp l.toArray 0 l.toArray.size (Lib.bitLen l.toArray.size) true true (Nat.zero_le _) (Nat.le_refl _) (Or.inl rfl)
 obtain ⟨a1,-,a3⟩:=h1
 have e1:∀ d:Array FOp,d.size=l.toArray.size→d.extract 0 l.toArray.size=d:=fun d hd=>by rw [← hd]; exact Array.extract_size
 rw [e1 _ a1,e1 _ rfl] at a3
 refine ⟨by simpa [sortF] using a3,?_⟩
 rw [List.pairwise_iff_getElem]
 intro i j hi hj hij
 have hi':i < (Go.Sort.pdq (ltOf cmpOp) l.toArray 0 l.toArray.size (Lib.bitLen l.toArray.size) true true).size:=by simpa [sortF] using hi
 have hj':j < (Go.Sort.pdq (ltOf cmpOp) l.toArray 0 l.toArray.size (Lib.bitLen l.toArray.size) true true).size:=by simpa [sortF] using hj
 have:=h2 i j (Nat.zero_le _) hij (by rw [← a1]; exact hj')
 rw [getElem!_pos _ i hi',getElem!_pos _ j hj'] at this
 simpa [ltOf,sortF] using this
theorem compare_calls (a b:ByteArray) (w:World):Calls Tryz.prog 94 #[.string a,.string b] w fun e w'=>e = .returned (.int .i64 (cmpB a b))∧w'=w:=Any.strings_Compare cmpL a b w
theorem cmpOp_calls (a b:FOp) (w:World):Calls Tryz.prog 93 #[.agg (eOp a).toArray,.agg (eOp b).toArray] w fun e w'=>e = .returned (.int .i64 (cmpOp a b))∧∃ q os',w'=Go.Sort.grow (w.drewN q) os':=by
 unfold eOp
 go_enter Tryz.func93,Tryz.ntmps93
 go_wp2_with (go_at_call 94; refine (compare_calls _ _ _).mono ?_; rintro e w' ⟨rfl,rfl⟩)
 ·
  go_ret
  have h:(cmpB a.k b.k != 0)=true:=by assumption
  exact ⟨ret_int (by exact (if_neg (show ¬ cmpB a.k b.k=0 by simpa using h)).symm),0,_,by rw [Go.Sort.alloc_eq_grow,Go.Sort.alloc_eq_grow,Go.Sort.grow_grow]; rfl⟩
 ·
  go_ret
  have h:(cmpB a.k b.k != 0)=false:=by assumption
  exact ⟨ret_int (by exact (if_pos (show cmpB a.k b.k=0 by simpa using h)).symm),0,_,by rw [Go.Sort.alloc_eq_grow,Go.Sort.alloc_eq_grow,Go.Sort.grow_grow]; rfl⟩
theorem cmpLaysOp (blk off size:Nat) (w:World):CmpLays Tryz.prog 93 #[] eOp 5 cmpOp blk off size w:=fun _ _ _ _ a b=>cmpOp_calls a b _
theorem sortOps_meets (l : List FOp) (v T : Nat) (hl : l.length < 4611686018427387904) :
    Meets Tryz.prog 92 [.arr 0 v,.clo 93 []] [.arr v true false T 5 (l.map cOp)] (.tup []) [.arr v true false T 5 ((sortF l).map cOp)]:=by
  intro x vs hx h0 hp
  obtain ⟨a,b,rfl,h1,h2⟩:=two_args hp.1
  have ha:=hp.2 0 _ _ rfl h1
  have hb:=hp.2 1 _ _ rfl h2
  obtain ⟨ws,rfl,hw,-⟩:=hb.clo_inv
  obtain rfl:ws = []:=List.length_eq_zero_iff.1 hw
  obtain ⟨e1,e2,e3⟩:=h0.row (id:=0) rfl ha
  have hsl:(sortF l).length=l.length:=(sortF_spec l).1.length_eq
  rcases e3 with ⟨rfl,hnil⟩ | ⟨g,cap,cur,rfl,hc,hcap,hm,hz,hrow⟩
  · have:l = []:=by simpa using hnil
    subst this
    have hs0:sortF [] = []:=List.length_eq_zero_iff.1 hsl
    refine (AnyF.slices_SortFunc_none sortOpL none 0 (.func (.func 93) #[] #[]) x.w0).mono ?_
    rintro e w' ⟨rfl,rfl⟩
    exact ⟨_,x.C0,rfl,by simpa [hs0] using h0,.tup [] [] rfl (fun j p u h=>by simp at h)⟩
  · have eg:∀ args w,(callFunc 93 args).run Tryz.prog w = .ok (.enter 93 args) w:=enters_of Tryz.func93 (by kernel_rfl) rfl
    have hH:=flat_op.holds l hc hrow
    have hlt:g < x.w0.heap.size:=(Array.getElem?_eq_some_iff.1 hc).1
    have key:=AnyQ.slices_SortFunc_eq sortOpL 5 (fun _=>by kernel_rfl) (fun _=>by kernel_rfl) eOp flat_op.len flat_op.one cmpOp swoOp 93 #[] g 0 cap l.toArray x.w0 eg (cmpLaysOp g 0 _ x.w0) hH hlt (by simpa using hl)
    rw [List.length_map] at *
    refine key.mono ?_
    rintro e w' ⟨rfl,n,os,rfl⟩
    have hd:Go.Sort.pdq (ltOf cmpOp) l.toArray 0 l.toArray.size (Lib.bitLen l.toArray.size) true true=(sortF l).toArray:=by simp [sortF]
    rw [hd]
    obtain ⟨cur',c1,c2,c3,c4⟩:=row_world eOp 5 x.w0 g n (sortF l).toArray os hc
    have hown:(x.C0.sv 0).ownBlock=some g:=by rw [← e1]; rfl
    obtain ⟨C',k1,k2,k3⟩:=h0.rerow (id:=0) (v':=v) (g':=g) (cap':=cap) (rows':=(sortF l).map cOp) (cur':=cur') rfl (by
      refine ⟨c4.size,c4.os,c4.tape,c4.output,fun b hb hne=>c4.blk b hb fun e=>hne (by rw [hown,e])⟩) (.inl hown) (.inl ⟨rfl,by rw [← e1,List.length_map,hsl]⟩) c1 (by rw [List.length_map,hsl]; exact hcap) hm (by rw [c2,hz])
      (fun row hr=>by obtain ⟨y,-,rfl⟩:=List.mem_map.1 hr; rfl) (flat_op.rep c3 (l:=sortF l) (sortF l).length (fun i hi=>by
        rw [List.getElem?_eq_getElem hi]
        simp [hi]) rfl (by simp))
    exact ⟨_,C',rfl,k1,.tup [] [] rfl (fun j p u h=>by simp at h)⟩
end Go.Proofs.YtfdolehffjmdmaaGreatDoor
/- The map of a log (fold.Raw). -/
namespace Go.Proofs.YtfdolehffjmdmaaGreatDoor
set_option linter.unusedSimpArgs false
set_option linter.unusedVariables false
open Go.RowKit
theorem weak_puF {x : Cx} {nt : Nat} {st : St} (id : Nat) {v T sz : Nat} {sto : Bool} {rows rows' : List (List PV)} (h : st.heap[id]? = some (.arr v sto true T sz rows)) (hf : rows.map (·.map (frz st.heap)) = rows') (hp : rows'.all (fun r => r.all PV.isPure) = true) :
    Weak x nt st ⟨st.env,st.heap.set id (.arr v false false T sz rows')⟩:=by
  subst hf
  intro a w ⟨⟨C,hr,he⟩,hdf,hs⟩
  obtain ⟨k1,k2⟩:=hr.change (C':=C) (ob' := .arr v false false T sz (rows.map (·.map (frz st.heap)))) h (step_refl w) rfl (fun _=>rfl) (fun _ _=>⟨rfl,rfl⟩) (.inl ⟨rfl,rfl⟩)
    (fun b o _ hf hb=>by have:=hf hb; simp at this) (fun b o _ _=>rfl) (fun b h => .inl h)
    (fun hm hmp=>by
      obtain ⟨o1,o2,o3,xs,o4,o5⟩:=hr.obj id _ h
      refine ⟨o1,o2,fun row hrow=>?_,xs,by simpa using o4,fun k row j p u a b c=>?_⟩
      · obtain ⟨r,hr1,rfl⟩:=List.mem_map.1 hrow
        simpa using o3 r hr1
      · obtain ⟨r,hr1,rfl⟩:=map_get a
        obtain ⟨q,hq1,rfl⟩:=map_get b
        obtain ⟨e1,e2⟩:=o5 k r j q u hr1 hq1 c
        refine ⟨e1,?_⟩
        simp only [Bool.false_eq_true,if_false,if_true] at e2 ⊢
        refine hmp _ _ ((frz_rep hr e2).pureOf ?_)
        have h1:=List.all_eq_true.1 hp _ (List.mem_map.2 ⟨r,List.mem_of_getElem? hr1,rfl⟩)
        exact List.all_eq_true.1 h1 _ (List.mem_map.2 ⟨q,List.mem_of_getElem? hq1,rfl⟩))
  exact ⟨⟨C,k1,fun u=>k2 _ _ (he u)⟩,hdf,hs⟩
abbrev KV:=ByteArray × List ByteArray
def cPair (p:KV):List PV := [.str p.1,.list (p.2.map cStr)]
def grp1 (out:List KV) (o:ByteArray × ByteArray):List KV:=match out.getLast? with
 | some p=>if p.1=o.1 then (if p.2.any (fun s=>decide (o.2=s))=true then out else out.dropLast ++ [(p.1,p.2 ++ [o.2])]) else out ++ [(o.1,[o.2])]
 | none => [(o.1,[o.2])]
theorem grp1_in {o:List KV} {key v:ByteArray} {vs:List ByteArray} (h:(vs.any fun x=>decide (v=x))=true):grp1 (o ++ [(key,vs)]) (key,v)=o ++ [(key,vs)]:=by
 rw [grp1,List.getLast?_concat]
 simp only [if_true]
 rw [if_pos h]
theorem grp1_app {o:List KV} {key v:ByteArray} {vs:List ByteArray} (h:(vs.any fun x=>decide (v=x))=false):grp1 (o ++ [(key,vs)]) (key,v)=o ++ [(key,vs ++ [v])]:=by
 rw [grp1,List.getLast?_concat]
 simp only [if_true]
 rw [if_neg (by simp [h]),List.dropLast_concat]
theorem grp1_new {o:List KV} {key k v:ByteArray} {vs:List ByteArray} (h:¬ key=k):grp1 (o ++ [(key,vs)]) (k,v)=(o ++ [(key,vs)]) ++ [(k,[v])]:=by
 rw [grp1,List.getLast?_concat]
 simp only [if_neg h]
def grpL (l:List (ByteArray × ByteArray)):List KV:=l.foldl grp1 []
def standsL (l:List Entry) (c:Int):List FOp:=(opsL l c).filter (standB (pasts l) l (opsL l c))
noncomputable def rawL (l:List Entry) (c:Int):List KV:=grpL ((sortF (standsL l c)).map FOp.kv)
theorem grpL_take {l:List FOp} {k:Nat} (h:k < l.length):grpL ((l.take (k + 1)).map FOp.kv)=grp1 (grpL ((l.take k).map FOp.kv)) (nth l k).kv:=by
 rw [grpL,List.take_add_one,nth_get? _ _ h,Option.toList_some,List.map_append,List.foldl_append]
 rfl
theorem indexStr_meets (l:List ByteArray) (y:ByteArray) (hl:l.length≤9223372036854775806):Meets Tryz.prog 135 [.list (l.map cStr),.str y] [] (.int .i64 (idxF (fun x=>decide (y=x)) l 0)) []:=by
 refine Meets.of_walk Tryz.func135 Tryz.ntmps135 low135 res135 (by simp) fun x hx=>?_
 simp only [go_sem,L135,R135]
 refine loop_inv [0,1,7,8] 0 (fun n st=>∃ k:Nat,k + n=l.length∧idxF (fun x=>decide (y=x)) (l.drop k) k=idxF (fun x=>decide (y=x)) l 0 ∧
  st=⟨mkE .top [(0,.list (l.map cStr)),(1,.str y),(7,.int .i64 l.length),(8,.int .i64 k)],[]⟩) l.length (by simp [hx]) (by simp) ?_ ?_
 ·
  refine ⟨0,by omega,by simp,?_⟩
  simp [trim_mk,go_sem,subHeap,renObj,pos,List.range_succ]
 ·
  rintro n st ⟨k,hk,hi,rfl⟩
  by_cases hlt:k < l.length
  ·
   have hg:l[k]? = some (nth l k):=nth_get? _ _ hlt
   have wk:=i64_up (k:=k) (by omega)
   rw [idxF_drop _ l k hlt] at hi
   by_cases he:y=nth l k
   ·
    simp only [go_sem,hlt,hg,cStr,he,decide_true]
    refine ret_pure hx ?_
    simp [he] at hi
    simp [go_sem,L135,R135,hi,he]
   ·
    simp only [go_sem,hlt,hg,cStr,he,wk,decide_false]
    refine ⟨by simp,n - 1,by omega,k + 1,by omega,by simpa [he] using hi,?_⟩
    simp [trim_mk,go_sem,subHeap,renObj,pos,List.range_succ]
  ·
   have:l.drop k = []:=List.drop_eq_nil_of_le (by omega)
   rw [this] at hi
   simp only [go_sem,hlt]
   refine ret_pure hx ?_
   simp [go_sem,L135,R135,← hi,idxF]
theorem containsStr_meets (l:List ByteArray) (y:ByteArray) (hl:l.length≤9223372036854775806):Meets Tryz.prog 95 [.list (l.map cStr),.str y] [] (.bool (l.any fun x=>decide (y=x))) []:=by
 refine Meets.of_walk Tryz.func95 Tryz.ntmps95 low95 res95 (by simp) fun x hx=>?_
 simp only [go_sem,L95,R95]
 refine ops_call (.pureE (indexStr_meets l y hl) (by simp [go_sem])) ?_
 simp only [go_sem]
 refine ret_pure hx ?_
 simp [go_sem,L95,R95,idxF_any]
theorem cloneOps_meets (rows:List (List PV)) (hz:∀ row ∈ rows,row.length=5) (hb:rows.length * 56≤140737488355328):Meets Tryz.prog 87 [.list rows] [] (.arr 0 1) [.arr 1 true false 131 5 rows]:=by
 refine Meets.of_walk Tryz.func87 Tryz.ntmps87 low87 res87 (by simp) fun x hx=>?_
 simp only [go_sem,L87,R87]
 refine ops_isnil rfl fun b hb'=>?_
 cases b
 ·
  simp only [go_sem]
  rw [app_arr rfl rfl hz (by simpa using hb)]
  simp only [go_sem]
  refine ret_keep [0] (by simp) (by simp [hx]) (by simp [hx]) ?_ ?_
  ·
   simp [go_sem,L87,R87,hx,pos]
  ·
   simp [subHeap,renObj,hx]
 ·
  simp only [go_sem]
  refine ret_weak (weak_own 2 1 131 5 true false rfl (by omega)) ?_
  have:rows = []:=hb' rfl
  subst this
  rw [put_mk]
  refine ret_keep [0] (by simp) (by simp [hx]) (by simp [hx]) ?_ ?_
  ·
   simp [go_sem,L87,R87,hx,pos]
  ·
   simp [subHeap,renObj,hx]
end Go.Proofs.YtfdolehffjmdmaaGreatDoor
/- The map of a log (fold.Raw),the walk. -/
namespace Go.Proofs.YtfdolehffjmdmaaGreatDoor
set_option linter.unusedSimpArgs false
set_option linter.unusedVariables false
open Go.RowKit
theorem weak_eqF {x:Cx} {nt:Nat} {st st1 st2:St} (h:st=st1) (hw:Weak x nt st1 st2):Weak x nt st st2:=h ▸ hw
theorem opsL_mem {l:List Entry} {c:Int} {y:FOp} (h:y ∈ opsL l c):∃ e ∈ l,y.id=e.id∧meetB e.c c=true∧opE e=some y:=by
 obtain ⟨e,he,hs⟩:=List.mem_filterMap.1 h
 refine ⟨e,(List.mem_filter.1 he).1,?_,(List.mem_filter.1 he).2,hs⟩
 unfold opE at hs
 split at hs
 ·
  cases hs
 ·
  cases hs; rfl
theorem opsL_len (l:List Entry) (c:Int):(opsL l c).length≤l.length:=by
 have a:=filterMap_len opE (withC l c)
 have b:=withC_len l c
 unfold opsL; omega
theorem stands_len (l:List Entry) (c:Int):(standsL l c).length≤l.length:=by
 have a:=opsL_len l c
 have:(standsL l c).length≤(opsL l c).length:=List.length_filter_le ..
 omega
theorem findE_mem {l:List Entry} {e:Entry} (h:e ∈ l):0≤findE l e.id:=Int.not_lt.1 fun hlt=>findE_neg.1 hlt e h rfl
theorem stand_of {l:List Entry} {c:Int} (h:LogOk l) {y:FOp} (hy:y ∈ opsL l c):0≤findE l y.id∧findE l y.id < (pasts l).length∧(pastAt (pasts l) l y.id).length≤9223372036854775806:=by
 have hm:=h.len
 obtain ⟨e,he,hi,-⟩:=opsL_mem hy
 have h0:0≤findE l y.id:=by rw [hi]; exact findE_mem he
 obtain ⟨k,f1,f2,f3⟩:=findE_spec h0
 have hpl:(pastAt (pasts l) l y.id).length≤40:=by rw [pastAt_eq,f1,Int.toNat_natCast]; exact pastOf_len h f2
 exact ⟨h0,by simp [pasts]; omega,by omega⟩
set_option maxRecDepth 20000 in
set_option maxHeartbeats 8000000 in
theorem fraw_meets (l:List Entry) (c:Int) (h:LogOk l) (hc:wthn c 1 7=true) (ht:∀ e ∈ l,e.t.size≤4294967000):Meets Tryz.prog 39 [.list (l.map cE),.int .i64 c] [] (.list ((rawL l c).map cPair)) []:=by
  have hm:=h.len
  have hol:=opsL_len l c
  have hsl:=stands_len l c
  obtain ⟨v1,hdel⟩:=delF_meets (opsL l c) 88 [.rptr [.list ((opsL l c).map cOp)],.rptr [pvPasts l (pasts l)]] (fun o => !standB (pasts l) l (opsL l c) o) 1 (by kernel_rfl) (by omega)
    (closedCaps (by simp [renLeaf,pvPasts]) (by simp [ren,renT,renCell,renLeaf,pvPasts])) (fun nl f fz=>⟨by simp [renLeaf,pvPasts],by simp [ren,renT,renCell,renLeaf,pvPasts],by simp [renCell,renLeaf,pvPasts]⟩)
    (fun o ho=>fraw1_meets l (pasts l) (opsL l c) o (by omega) (by omega) (fun y hy=>stand_of h hy))
  have hff:((opsL l c).filter fun o => !!standB (pasts l) l (opsL l c) o)=standsL l c:=by
    rw [standsL]; congr 1; funext o; simp
  rw [hff] at hdel
  have hsort:=sortOps_meets (standsL l c) v1 131 (by omega)
  have hfl:(sortF (standsL l c)).length=(standsL l c).length:=(sortF_spec _).1.length_eq
  have hcl:=cloneOps_meets ((opsL l c).map cOp) (fun row hr=>by obtain ⟨o,-,rfl⟩:=List.mem_map.1 hr; rfl) (by rw [List.length_map]; omega)
  refine Meets.of_parts Tryz.func39 Tryz.ntmps39 low39 res39 (by simp) fun x hx=>?_
  simp only [LC.flat,L39,R39,List.cons_append,List.nil_append]
  refine WL_join 3 [5,6] 2 (fun st=>st=⟨mkE .top [(6,.rptr [.list ((opsL l c).map cOp)]),(5,.rptr [pvPasts l (pasts l)]),(5,.ptr 0 0),(6,.ptr 1 0)],[.gone,.gone]⟩) (by simp [hx]) (by simp) ?_ ?_
  · simp only [go_sem,L39,R39,List.take_succ_cons,List.take_zero]
    refine ops_call (.pureE (before_meets l h) (by simp [go_sem])) ?_
    simp only [go_sem,pvPasts]
    refine ops_call (.pureE (ops_meets l c h hc ht) (by simp [go_sem])) ?_
    simp only [go_sem,pvPasts]
    rw [join_normal]
    refine ⟨by simp,_,?_,rfl⟩
    have e:=weak_rptr (x:=x) (nt:=79) (st:=⟨mkE .top [(5,.ptr 0 0),(6,.ptr 1 0)],[.box [pvPasts l (pasts l)],.box [.list ((opsL l c).map cOp)]]⟩) (cells' := [pvPasts l (pasts l)]) (H' := [.gone,.box [.list ((opsL l c).map cOp)]]) 5 0 rfl rfl (by simp [frz,pvPasts]) (by simp [PV.isPure,pvPasts]) rfl
    have e2:=weak_rptr (x:=x) (nt:=79) (st:=⟨mkE .top [(5,.rptr [pvPasts l (pasts l)]),(5,.ptr 0 0),(6,.ptr 1 0)],[.gone,.box [.list ((opsL l c).map cOp)]]⟩) (cells' := [.list ((opsL l c).map cOp)]) (H' := [.gone,.gone]) 6 1 rfl rfl (by simp [frz]) (by simp [PV.isPure]) rfl
    rw [put_mk] at e e2
    refine Weak.trans (weak_eqF ?_ e) e2
    simp [trim_mk,go_sem,subHeap,renObj,renCell,renLeaf,pos,List.range_succ,pvPasts]
  · rintro st rfl
    refine WL_walk ?_
    simp only [go_sem,L39,R39,List.drop_succ_cons,List.drop_zero]
    refine ops_call (.heapE [] (r' := .arr 2 1) (H' := [.gone,.gone,.arr 1 true false 131 5 ((opsL l c).map cOp)]) hcl (by simp) (by simp) (by simp [go_sem]) rfl rfl rfl) ?_
    simp only [go_sem]
    refine ops_call (.heapE [2] (r' := .arr 2 v1) (H' := [.gone,.gone,.arr v1 true false 131 5 ((standsL l c).map cOp)]) hdel (by simp) (by simp) (by simp [go_sem,pos,pvPasts]) (by simp [subHeap,renObj,go_sem,pos]) (by simp [renT,ren,renCell,renLeaf,backF,backId]) (by simp [merge,mergeObj,callId,renObj,pos,go_sem,List.range_succ,backF,backId])) ?_
    simp only [go_sem]
    refine ops_call (.heapE [2] (r' := .tup []) (H' := [.gone,.gone,.arr v1 true false 131 5 ((sortF (standsL l c)).map cOp)]) hsort (by simp) (by simp) (by simp [go_sem,pos]) (by simp [subHeap,renObj,go_sem,pos]) rfl (by simp [merge,mergeObj,callId,renObj,pos,go_sem,List.range_succ,backF,backId])) ?_
    simp only [go_sem,List.length_map]
    obtain ⟨S,hS⟩:∃ S,sortF (standsL l c)=S:=⟨_,rfl⟩
    have hraw:rawL l c=grpL (S.map FOp.kv):=by rw [rawL,hS]
    rw [hS] at hfl
    rw [hS,hraw]
    refine loop_sel (fun n st=>∃ k vo:Nat,k + n=S.length ∧
      ((grpL ((S.take k).map FOp.kv) = []∧k=0∧st=⟨mkE .top [(7,.arr 0 v1),(8,.arr 1 vo),(23,.arr 0 v1),(24,.int .i64 S.length),(25,.int .i64 k)],[.arr v1 true false 131 5 (S.map cOp),.arr vo true true 81 2 []]⟩) ∨
       ∃ (o:List KV) (key:ByteArray) (vs:List ByteArray) (v2:Nat),grpL ((S.take k).map FOp.kv)=o ++ [(key,vs)]∧(o.length + 1≤k∧vs.length≤k) ∧
        st=⟨mkE .top [(7,.arr 0 v1),(8,.arr 1 vo),(23,.arr 0 v1),(24,.int .i64 S.length),(25,.int .i64 k)],[.arr v1 true false 131 5 (S.map cOp),.arr vo true true 81 2 (o.map cPair ++ [[.str key,.arr 2 v2]]),.arr v2 true false 9 1 (vs.map cStr)]⟩)) S.length ?_ ?_
    · refine ⟨_,Weak.trans (weak_own 8 0 81 2 true true rfl (by omega)) (weak_sel [7,8,23,24,25] [2,3] (by simp) (by simp [St.put]) (by simp [hx])),0,0,by omega,.inl ⟨rfl,rfl,?_⟩⟩
      rw [put_mk]
      simp [sel_mk,go_sem,subHeap,renObj,pos,List.range_succ]
    · rintro n st ⟨k,vo,hk,hI⟩
      by_cases hlt:k < S.length
      · have hg:S[k]? = some (nth S k):=nth_get? _ _ hlt
        have wk:=i64_up (k:=k) (by omega)
        have hst:=grpL_take hlt
        rcases hI with ⟨hg0,rfl,rfl⟩ | ⟨o,key,vs,v2,hgo,hlen,rfl⟩
        · rw [hg0] at hst
          have h0:((0:Int) < (S.length:Int))=True:=eq_true (by omega)
          have hneg:IntKind.i64.wrap ((0:Int) - 1) = -1:=by decide
          have hneg2:((-1:Int) < 0)=True:=eq_true (by decide)
          have w1:IntKind.i64.wrap ((0:Int) + 1)=1:=by decide
          simp only [go_sem,intS,Int.reduceLT,Int.reduceLE,Int.reduceToNat,Int.reduceAdd,frz,List.length_map,hlt,hg,h0,hneg,hneg2,List.getElem?_map,Option.map_some,cOp,List.length_nil,PV.isPure,List.all_cons,List.all_nil]
          rw [app_arrI rfl rfl (by simp) (by simp)]
          have w2:IntKind.i64.wrap (1:Int)=1:=by decide
          simp only [go_sem,intS,Int.reduceLT,Int.reduceLE,Int.reduceToNat,Int.reduceAdd,frz,w1,w2]
          refine ⟨n - 1,_,by omega,weak_sel [7,8,23,24,25] [0,1,3] (by simp) (by simp) (by simp [hx]),1,vo + 1,by omega,.inr ⟨[],(nth S 0).k,[(nth S 0).v],0,?_,by simp,?_⟩⟩
          · rw [hst]; rfl
          · simp [sel_mk,go_sem,subHeap,renObj,renCell,renLeaf,pos,List.range_succ,cStr]
        · rw [hgo] at hst
          have hL:(List.map cPair o ++ [[PV.str key,PV.arr 2 v2]]).length=o.length + 1:=by simp
          have hw1:IntKind.i64.wrap (((o.length + 1:Nat):Int) - 1)=(o.length:Int):=by rw [IntWalk.i64_in _ (by omega)]; omega
          have hng:((o.length:Int) < 0)=False:=eq_false (by omega)
          have hge:(List.map cPair o ++ [[PV.str key,PV.arr 2 v2]])[o.length]? = some [PV.str key,PV.arr 2 v2]:=by
            rw [List.getElem?_append_right (by simp)]; simp
          have hlo:o.length < o.length + 1:=by omega
          simp only [go_sem,intS,Int.reduceLT,Int.reduceLE,Int.reduceToNat,Int.reduceAdd,frz,List.length_map,hlt,hg,List.getElem?_map,Option.map_some,cOp,hL,hw1,hng,hge,hlo]
          by_cases hk2:key=(nth S k).k
          · simp only [go_sem,intS,Int.reduceLT,Int.reduceLE,Int.reduceToNat,Int.reduceAdd,frz,hk2,decide_true,hL,hw1,hng,hge,hlo]
            subst hk2
            simp only [go_sem,intS,Int.reduceLT,Int.reduceLE,Int.reduceToNat,Int.reduceAdd,frz,hL,hw1,hng,hge,hlo]
            refine ops_call (.scalarE (containsStr_meets vs (nth S k).v (by omega)) rfl (by simp [go_sem,frzAt,pos])) ?_
            cases hct:vs.any fun x=>decide ((nth S k).v=x)
            · simp only [go_sem,intS,Int.reduceLT,Int.reduceLE,Int.reduceToNat,Int.reduceAdd,frz,hL,hw1,hng,hge,hlo,PV.isPure,List.all_cons,List.all_nil]
              rw [app_arr rfl rfl (by simp) (by simp; omega)]
              simp only [go_sem,intS,Int.reduceLT,Int.reduceLE,Int.reduceToNat,Int.reduceAdd,frz,hL,hw1,hng,hge,hlo,wk,true_or,or_true,Option.map_some]
              repeat refine ⟨rfl,?_⟩
              try simp only [go_sem,intS,Int.reduceLT,Int.reduceLE,Int.reduceToNat,Int.reduceAdd,frz,wk]
              refine ⟨n - 1,_,by omega,weak_sel [7,8,23,24,25] [0,1,2] (by simp) (by simp) (by simp [hx]),k + 1,vo,by omega,.inr ⟨o,(nth S k).k,vs ++ [(nth S k).v],v2 + 1,?_,by simp; omega,?_⟩⟩
              · rw [hst]; exact grp1_app hct
              · simp [sel_mk,go_sem,subHeap,renObj,renCell,renLeaf,pos,List.range_succ,cStr,cPair,frzAt]
            · simp only [go_sem,intS,Int.reduceLT,Int.reduceLE,Int.reduceToNat,Int.reduceAdd,frz,wk]
              refine ⟨n - 1,_,by omega,weak_sel [7,8,23,24,25] [0,1,2] (by simp) (by simp) (by simp [hx]),k + 1,vo,by omega,.inr ⟨o,(nth S k).k,vs,v2,?_,by omega,?_⟩⟩
              · rw [hst]; exact grp1_in hct
              · simp [sel_mk,go_sem,subHeap,renObj,renCell,renLeaf,pos,List.range_succ,cStr,cPair,frzAt]
          · simp only [go_sem,intS,Int.reduceLT,Int.reduceLE,Int.reduceToNat,Int.reduceAdd,frz,hk2,decide_false,hL,hw1,hng,hge,hlo,PV.isPure,List.all_cons,List.all_nil]
            rw [app_arrI rfl rfl (by simp) (by simp; omega)]
            simp only [go_sem,intS,Int.reduceLT,Int.reduceLE,Int.reduceToNat,Int.reduceAdd,frz,wk]
            refine ⟨n - 1,_,by omega,weak_sel [7,8,23,24,25] [0,1,4] (by simp) (by simp) (by simp [hx]),k + 1,vo + 1,by omega,.inr ⟨o ++ [(key,vs)],(nth S k).k,[(nth S k).v],0,?_,by simp; omega,?_⟩⟩
            · rw [hst]; exact grp1_new hk2
            · simp [sel_mk,go_sem,subHeap,renObj,renCell,renLeaf,pos,List.range_succ,cStr,cPair,frzAt]
      · have hkS:k=S.length:=by omega
        have hkn:¬ ((k:Int) < (S.length:Int)):=by omega
        rw [List.take_of_length_le (by omega)] at hI
        rcases hI with ⟨hg0,rfl,rfl⟩ | ⟨o,key,vs,v2,hgo,hlen,rfl⟩
        · rw [hg0]
          simp only [go_sem,intS,Int.reduceLT,Int.reduceLE,Int.reduceToNat,Int.reduceAdd,frz,hkn,hlt]
          have h0:((0:Int) < (S.length:Int))=False:=eq_false (by omega)
          simp only [go_sem,intS,Int.reduceLT,Int.reduceLE,Int.reduceToNat,Int.reduceAdd,frz,h0]
          refine ret_weak (weak_puF 1 (rows' := []) rfl rfl rfl) ?_
          refine ret_pure hx ?_
          simp [go_sem,L39,R39,frzAt,pos]
        · rw [hgo]
          simp only [go_sem,intS,Int.reduceLT,Int.reduceLE,Int.reduceToNat,Int.reduceAdd,frz,hkn,hlt]
          refine ret_weak (Weak.trans (weak_sel [4] [0,1] (by simp) (by simp) (by simp [hx])) (weak_puF 1 (v:=vo) (T:=81) (sz:=2) (sto:=true) (rows:=(o ++ [(key,vs)]).map cPair) (rows':=(o ++ [(key,vs)]).map cPair) ?_ ?_ ?_)) ?_
          · simp [sel_mk,go_sem,subHeap,renObj,renCell,renLeaf,pos,List.range_succ,cPair,frzAt]
          · simp [cPair,frz]
          · simp [cPair,PV.isPure]
          refine ret_pure hx ?_
          simp [sel_mk,go_sem,L39,R39,frzAt,pos,subHeap]
end Go.Proofs.YtfdolehffjmdmaaGreatDoor
/- The map of a log,and the values of a key (fold.Map,Get). -/
namespace Go.Proofs.YtfdolehffjmdmaaGreatDoor
set_option linter.unusedSimpArgs false
set_option linter.unusedVariables false
open Go.RowKit
def mapErr (l:List Entry) (c:Int):Int:=if checkLog l=0 then (if wthn c 1 7=true then 0 else 3) else checkLog l
noncomputable def mapL (l:List Entry) (c:Int):List KV:=if mapErr l c=0 then rawL l c else []
theorem mapErr_ok {l:List Entry} {c:Int}:mapErr l c=0↔LogOk l∧wthn c 1 7=true:=by
 unfold mapErr
 rw [← log_ok]
 split
 ·
  split <;> simp_all
 ·
  simp_all
theorem log_t {l:List Entry} (h:LogOk l):∀ e ∈ l,e.t.size≤12:=fun e he=>by
 obtain ⟨k,hk,rfl⟩:=List.getElem_of_mem he
 have:=h.chk k hk
 rw [nth_eq _ _ hk] at this
 exact (check_ok_bounds this).2.2.1
theorem map_meets (l:List Entry) (c:Int) (hl:l.length≤9223372036854775806):Meets Tryz.prog 9 [.list (l.map cE),.int .i64 c] [] (.tup [.list ((mapL l c).map cPair),.int .i64 (mapErr l c)]) []:=by
 refine Meets.of_walk Tryz.func9 Tryz.ntmps9 low9 res9 (by simp) fun x hx=>?_
 simp only [go_sem,L9,R9]
 refine ops_call (.pureE (dagCheck_meets l hl) (by simp [go_sem])) ?_
 by_cases h1:checkLog l=0
 ·
  simp only [go_sem,h1]
  refine ops_call (.pureE (colors_meets c) (by simp [go_sem])) ?_
  cases h2:wthn c 1 7
  ·
   have he:mapErr l c=3:=by simp [mapErr,h1,h2]
   simp only [go_sem,intS,Int.reduceLT,Int.reduceLE,Int.reduceToNat,Int.reduceAdd,frz]
   refine ret_pure hx ?_
   simp [go_sem,L9,R9,he,mapL]
  ·
   have he:mapErr l c=0:=by simp [mapErr,h1,h2]
   have hok:=log_ok.1 h1
   simp only [go_sem,intS,Int.reduceLT,Int.reduceLE,Int.reduceToNat,Int.reduceAdd,frz]
   refine ops_call (.pureE (fraw_meets l c hok h2 (fun e hem=>by have:=log_t hok e hem; omega)) (by simp [go_sem])) ?_
   simp only [go_sem]
   refine ret_pure hx ?_
   simp [go_sem,L9,R9,he,mapL]
 ·
  have he:mapErr l c=checkLog l:=by simp [mapErr,h1]
  simp only [go_sem,h1]
  refine ret_pure hx ?_
  simp [go_sem,L9,R9,he,h1,mapL]
instance:Inhabited KV:=⟨(⟨#[]⟩,[])⟩
theorem grp1_len (out:List KV) (o:ByteArray × ByteArray):(grp1 out o).length≤out.length + 1:=by
 unfold grp1
 split
 ·
  split
  ·
   split
   ·
    omega
   ·
    rename_i p hp _ _
    have:out ≠ []:=by intro e; rw [e] at hp; simp at hp
    have:=List.length_pos_iff.2 this
    simp
    try omega
  ·
   simp
 ·
  simp
theorem grpL_len (l:List (ByteArray × ByteArray)):(grpL l).length≤l.length:=by
 have key:∀ (l:List (ByteArray × ByteArray)) (out:List KV),(l.foldl grp1 out).length≤out.length + l.length:=by
  intro l
  induction l with
  | nil=>intro out; simp
  | cons o l ih=>intro out; have a:=ih (grp1 out o); have b:=grp1_len out o; simp only [List.foldl_cons,List.length_cons]; omega
 have:=key l []
 simpa [grpL] using this
theorem rawL_len (l:List Entry) (c:Int):(rawL l c).length≤l.length:=by
 have a:=grpL_len ((sortF (standsL l c)).map FOp.kv)
 have b:=(sortF_spec (standsL l c)).1.length_eq
 have d:=stands_len l c
 rw [List.length_map] at a
 unfold rawL; omega
end Go.Proofs.YtfdolehffjmdmaaGreatDoor
/- Maps written as texts (desk.written,the law text's TextOf). -/
namespace Go.Proofs.YtfdolehffjmdmaaGreatDoor
set_option linter.unusedSimpArgs false
set_option linter.unusedVariables false
open Go.RowKit
def commaB:ByteArray:=⟨#[44]⟩
def eqB:ByteArray:=⟨#[61]⟩
def semiB:ByteArray:=⟨#[59]⟩
def nilB:ByteArray:=⟨#[]⟩
def wrPart (p:KV):ByteArray:=joinB [p.1,eqB,joinB p.2 commaB,semiB] nilB
def wrL (m:List KV):ByteArray:=m.foldl (fun s p=>s ++ wrPart p) nilB
def okM (m:List KV):Prop:=m.length≤1000∧∀ p ∈ m,p.1.size≤3∧p.2.length≤1000000∧∀ v ∈ p.2,v.size≤3
theorem joinB_data (l:List ByteArray) (sep:ByteArray):(joinB l sep).data.toList=Lib.join (l.map (·.data.toList)) sep.data.toList:=by simp [joinB]
theorem lens_le {l:List ByteArray} (h:∀ v ∈ l,v.size≤3):Lib.lens (l.map (·.data.toList))≤3 * l.length:=by
 induction l with
 | nil=>simp [Lib.lens]
 | cons x l ih =>
  have h1:=ih fun v hv=>h v (List.mem_cons_of_mem _ hv)
  have h2:x.data.toList.length≤3:=by rw [sz_list]; exact h x List.mem_cons_self
  simp only [Lib.lens,List.map_cons,List.sum_cons,List.length_cons] at h1 ⊢
  omega
theorem join_le {l:List ByteArray} (h:∀ v ∈ l,v.size≤3):(Lib.join (l.map (·.data.toList)) commaB.data.toList).length≤4 * l.length:=by
 cases l with
 | nil=>simp [Lib.join_nil]
 | cons x r =>
  have h1:=lens_le h
  rw [List.map_cons] at h1
  rw [List.map_cons,Lib.join_length,List.length_map]
  have:commaB.data.toList.length=1:=rfl
  rw [this]
  simp only [List.length_cons] at h1 ⊢
  omega
theorem part_data (p:KV):(wrPart p).data.toList=p.1.data.toList ++ (61 :: ((joinB p.2 commaB).data.toList ++ [59])):=by
 rw [wrPart,joinB_data]
 simp [Lib.join_cons,Lib.joinTail,eqB,semiB,nilB]
theorem part_join (p:KV):(Lib.join ([p.1,eqB,joinB p.2 commaB,semiB].map (·.data.toList)) nilB.data.toList).length=(wrPart p).size:=by
 rw [← joinB_data,sz_list]; rfl
theorem part_le {p:KV} (h1:p.1.size≤3) (h2:p.2.length≤1000000) (h3:∀ v ∈ p.2,v.size≤3):(wrPart p).size≤4000005:=by
 rw [← sz_list,part_data]
 have:=join_le h3
 rw [← joinB_data] at this
 have e:=sz_list p.1
 simp only [List.length_append,List.length_cons,List.length_nil]
 omega
theorem wr_take {m:List KV} {k:Nat} (h:k < m.length):wrL (m.take (k + 1))=wrL (m.take k) ++ wrPart (nth m k):=by
 rw [List.take_add_one,nth_get? _ _ h,wrL,List.foldl_append]; rfl
theorem wr_le {m:List KV} (h:okM m):∀ k,k≤m.length→(wrL (m.take k)).size≤4000005 * k
 | 0,_=>by show (wrL []).size≤0; exact Nat.le_refl _
 | k + 1,hk=>by
  have ih:=wr_le h k (by omega)
  obtain ⟨a,b,c⟩:=h.2 _ (nthM (by omega:k < m.length))
  have:=part_le a b c
  rw [wr_take (by omega),ByteArray.size_append]
  omega
theorem put_meets (s : ByteArray) (l : List ByteArray) (v T : Nat) (hl : l.length ≤ 140737488355328) (hj : (Lib.join (l.map (·.data.toList)) nilB.data.toList).length ≤ 140737488355328) (hs : s.size ≤ 140737488355328) :
    Meets Tryz.prog 114 [.arr 1 v,.ptr 0 0] [.box [.str s],.arr v true false T 1 (l.map cStr)] (.tup []) [.box [.str (s ++ joinB l nilB)],.arr v true false T 1 (l.map cStr)]:=by
  have hz:s.size + (joinB l nilB).size≤4611686018427387904:=by rw [← sz_list (joinB l nilB),joinB_data]; omega
  refine Meets.of_walk Tryz.func114 Tryz.ntmps114 low114 res114 (by simp) fun x hx=>?_
  simp only [go_sem,L114,R114]
  refine ops_call (.scalarE (join_meets l nilB hl hj) rfl (by simp [go_sem,frzAt,pos,nilB])) ?_
  simp only [go_sem,hz]
  repeat refine ⟨rfl,?_⟩
  refine end_keep [] (by simp) (by simp) (by simp [hx]) ?_ ?_
  · simp [go_sem,L114,R114,hx]
  · simp [go_sem,hx,subHeap,renObj,pos,List.range_succ]
set_option maxHeartbeats 4000000 in
theorem written_meets (m:List KV) (h:okM m):Meets Tryz.prog 68 [.list (m.map cPair)] [] (.str (wrL m)) []:=by
 have hlen:=h.1
 refine Meets.of_walk Tryz.func68 Tryz.ntmps68 low68 res68 (by simp) fun x hx=>?_
 simp only [go_sem,L68,R68]
 refine loop_inv [3,4,8,9,10] 1 (fun q st=>∃ k:Nat,k + q=m.length ∧
  st=⟨mkE .top [(3,.ptr 0 0),(4,.clo 114 [.ptr 0 0]),(8,.list (m.map cPair)),(9,.int .i64 m.length),(10,.int .i64 k)],[.box [.str (wrL (m.take k))]]⟩) m.length (by simp [hx]) (by simp) ?_ ?_
 ·
  refine ⟨0,by omega,?_⟩
  simp [trim_mk,go_sem,subHeap,renObj,renCell,renLeaf,pos,List.range_succ,wrL,nilB]
 ·
  rintro q st ⟨k,hk,rfl⟩
  by_cases hlt:k < m.length
  ·
   have hg:m[k]? = some (nth m k):=nth_get? _ _ hlt
   have wk:=i64_up (k:=k) (by omega)
   obtain ⟨a,b,c⟩:=h.2 _ (nthM hlt)
   have hwl:=wr_le h k (by omega)
   have hst:=wr_take hlt
   have hj:=join_le c
   have hpl:=part_le a b c
   generalize nth m k=p at *
   simp only [go_sem,hlt,hg,cPair]
   refine ops_call (.pureE (join_meets p.2 commaB (by omega) (by omega)) (by simp [go_sem,commaB])) ?_
   simp only [go_sem]
   have hput:=put_meets (wrL (m.take k)) [p.1,eqB,joinB p.2 commaB,semiB] 0 9 (by simp) (by rw [part_join]; omega) (by omega)
   refine ops_callv rfl (by kernel_rfl) (.heapE [0,2] (r' := .tup []) (H' := [.box [.str (wrL (m.take k) ++ wrPart p)],.box (cPair p),.arr 0 true false 9 1 ([p.1,eqB,joinB p.2 commaB,semiB].map cStr)]) hput (by simp) (by simp) (by simp [go_sem,pos]) ?_ ?_ ?_) ?_
   ·
    simp [subHeap,renObj,renCell,renLeaf,pos,cStr,eqB,semiB]
   ·
    simp [renT,ren,renCell,renLeaf]
   ·
    simp [merge,mergeObj,callId,backF,backId,renObj,renCell,renLeaf,pos,List.range_succ,wrPart,cPair]
   simp only [go_sem,wk]
   refine ⟨by simp,q - 1,by omega,k + 1,by omega,?_⟩
   simp [trim_mk,go_sem,subHeap,renObj,renCell,renLeaf,pos,List.range_succ,hst]
  ·
   have:m.take k=m:=List.take_of_length_le (by omega)
   rw [this]
   simp only [go_sem,hlt]
   refine ret_pure hx ?_
   simp [go_sem,L68,R68]
end Go.Proofs.YtfdolehffjmdmaaGreatDoor
/- What a text does,told by its pieces: plain laws. -/
namespace Go.Proofs.YtfdolehffjmdmaaGreatDoor
open Go.RowKit
theorem word_len {s:ByteArray} (h:wordS s=true):1≤s.size∧s.size≤3:=by
 simp only [wordS,wordL,Bool.and_eq_true,decide_eq_true_eq,sz_list] at h
 exact ⟨h.1.2,h.2⟩
end Go.Proofs.YtfdolehffjmdmaaGreatDoor
/- What a text does,in the law text's words (OpOf). -/
namespace Go.Proofs.YtfdolehffjmdmaaGreatDoor
set_option linter.unusedSimpArgs false
set_option linter.unusedVariables false
open Go.RowKit
end Go.Proofs.YtfdolehffjmdmaaGreatDoor
/- The law text's own words for maps: SameTexts,SameMap,withText. -/
namespace Go.Proofs.YtfdolehffjmdmaaGreatDoor
set_option linter.unusedSimpArgs false
set_option linter.unusedVariables false
open Go.RowKit
def wtStep (s:ByteArray) (r:List ByteArray × Bool) (y:ByteArray):List ByteArray × Bool :=
 ((if r.2=false∧leB s y=true then r.1 ++ [s] else r.1) ++ (if y=s then [] else [y]),r.2 || leB s y)
def wtF (s:ByteArray) (l:List ByteArray):List ByteArray × Bool:=l.foldl (wtStep s) ([],false)
def withT (l:List ByteArray) (s:ByteArray):List ByteArray:=if (wtF s l).2=true then (wtF s l).1 else (wtF s l).1 ++ [s]
end Go.Proofs.YtfdolehffjmdmaaGreatDoor
/- The law text's own words for maps: ValuesOf,MapOf. -/
namespace Go.Proofs.YtfdolehffjmdmaaGreatDoor
set_option linter.unusedSimpArgs false
set_option linter.unusedVariables false
open Go.RowKit
def condR (l:List Entry) (c:Int) (key:ByteArray) (i:Nat):Bool:=decide ((opOf (nth l i).t).1=1) && (decide ((opOf (nth l i).t).2.1=key) && meetB (nth l i).c c)
def blkR (l:List Entry) (c:Int) (key:ByteArray) (i n:Nat):Bool:=decide (¬ (opOf (nth l n).t).1=0) && (decide ((opOf (nth l n).t).2.1=key) && (meetB (nth l n).c c && nth (marksOf l n) i))
def standR (l:List Entry) (c:Int) (key:ByteArray) (i k:Nat):Bool:=(List.range k).all fun n => !blkR l c key i n
def valStep (l:List Entry) (c:Int) (key:ByteArray) (out:List ByteArray) (i:Nat):List ByteArray:=if (condR l c key i && standR l c key i l.length)=true then withT out (opOf (nth l i).t).2.2 else out
def valsTo (l:List Entry) (c:Int) (key:ByteArray) (k:Nat):List ByteArray:=(List.range k).foldl (valStep l c key) []
def valsR (l:List Entry) (c:Int) (key:ByteArray):List ByteArray:=valsTo l c key l.length
theorem valsTo_succ (l:List Entry) (c:Int) (key:ByteArray) (k:Nat):valsTo l c key (k + 1)=valStep l c key (valsTo l c key k) k:=by
 rw [valsTo,List.range_succ,List.foldl_append]; rfl
end Go.Proofs.YtfdolehffjmdmaaGreatDoor
/- Texts put in order: plain laws. -/
namespace Go.Proofs.YtfdolehffjmdmaaGreatDoor
open Go.RowKit
theorem less_cb:∀ a b:List UInt8,Go.Op.bytesLess a b=decide (Lib.compareBytes a b < 0)
 | [],[]=>rfl
 | [],_ :: _=>rfl
 | _ :: _,[]=>rfl
 | x :: a,y :: b=>by
  rw [Go.Op.bytesLess,Lib.compareBytes]
  by_cases h1:x < y
  ·
   rw [if_pos h1]; simp [h1]
  ·
   rw [if_neg h1]
   by_cases h2:y < x
   ·
    have:¬ x=y:=by intro e; rw [e] at h1 h2; exact h1 h2
    rw [if_pos h2]; simp [h1,this]
   ·
    have:x=y:=by
     rw [UInt8.lt_iff_toNat_lt] at h1 h2
     exact UInt8.toNat.inj (by omega)
    rw [if_neg h2,less_cb a b]
    simp [h1,this]
theorem leB_cmp (a b:ByteArray):leB a b=decide (cmpB a b≤0):=by
 have ha:a.toList=a.data.toList:=ByteArray.toList_eq a
 have hb:b.toList=b.data.toList:=ByteArray.toList_eq b
 rw [leB,ha,hb,less_cb]
 unfold cmpB
 by_cases h:Lib.compareBytes a.data.toList b.data.toList < 0
 ·
  simp [h]; omega
 ·
  by_cases h2:Lib.compareBytes a.data.toList b.data.toList=0
  ·
   have:=cb_zero h2
   simp [this,cb_refl]
  ·
   have:¬ a.data.toList=b.data.toList:=fun e=>h2 (by rw [e]; exact cb_refl _)
   have h3:¬ Lib.compareBytes a.data.toList b.data.toList≤0:=by omega
   have h4:¬ a.data=b.data:=fun e=>this (by rw [e])
   simp [h,h4,h3]
def Up (l:List ByteArray):Prop:=l.Pairwise fun a b=>cmpB a b < 0
def insT (s:ByteArray):List ByteArray→List ByteArray
 | [] => [s]
 | y :: l=>if cmpB s y < 0 then s :: y :: l else if y=s then s :: l else y :: insT s l
theorem wt_true (s:ByteArray):∀ (l r:List ByteArray),l.foldl (wtStep s) (r,true)=(r ++ l.filter (fun y => !decide (y=s)),true)
 | [],r=>by simp
 | y :: l,r=>by
  rw [List.foldl_cons]
  by_cases h:y=s
  ·
   have:wtStep s (r,true) y=(r,true):=by simp [wtStep,h]
   rw [this,wt_true s l r]; simp [h]
  ·
   have:wtStep s (r,true) y=(r ++ [y],true):=by simp [wtStep,h]
   rw [this,wt_true s l _]; simp [h]
theorem wt_false (s:ByteArray):∀ (l r:List ByteArray),Up l→(if (l.foldl (wtStep s) (r,false)).2=true then (l.foldl (wtStep s) (r,false)).1 else (l.foldl (wtStep s) (r,false)).1 ++ [s])=r ++ insT s l
 | [],r,_=>by simp [insT]
 | y :: l,r,hu=>by
  obtain ⟨h1,h2⟩:=List.pairwise_cons.1 hu
  rw [List.foldl_cons,insT]
  by_cases hle:leB s y=true
  ·
   have hc:cmpB s y≤0:=by rw [leB_cmp] at hle; exact of_decide_eq_true hle
   have hf:l.filter (fun y => !decide (y=s))=l:=List.filter_eq_self.2 fun z hz=>by
    have hyz:=h1 z hz
    have:z≠s:=by
     rintro rfl
     have:=cmpB_swap z y
     omega
    simp [this]
   by_cases hy:y=s
   ·
    have h0:¬ cmpB s y < 0:=by rw [hy,cmpB_refl]; omega
    have:wtStep s (r,false) y=(r ++ [s],true):=by
     rw [wtStep]; simp [hle,hy]
     rw [← hy]; rw [hy] at hle ⊢; simp [hle]
    rw [this,wt_true,hf,if_neg h0,if_pos hy]
    simp
   ·
    have h0:cmpB s y < 0:=by
     rcases Int.lt_or_eq_of_le hc with h | h
     ·
      exact h
     ·
      exact (hy (cmpB_zero h).symm).elim
    have:wtStep s (r,false) y=(r ++ [s] ++ [y],true):=by rw [wtStep]; simp [hle,hy]
    rw [this,wt_true,hf,if_pos h0]
    simp
  ·
   have hle':leB s y=false:=by simpa using hle
   have hc:¬ cmpB s y≤0:=by rw [leB_cmp] at hle'; exact of_decide_eq_false hle'
   have hy:¬ y=s:=by rintro rfl; rw [cmpB_refl] at hc; omega
   have:wtStep s (r,false) y=(r ++ [y],false):=by rw [wtStep]; simp [hle',hy]
   rw [this,wt_false s l _ h2,if_neg (by omega),if_neg hy]
   simp
theorem withT_ins {l:List ByteArray} (s:ByteArray) (h:Up l):withT l s=insT s l:=by
 have:=wt_false s l [] h
 rw [withT,wtF,this]; simp
theorem ins_mem (s:ByteArray):∀ {l:List ByteArray} {z:ByteArray},z ∈ insT s l↔z=s∨z ∈ l
 | [],z=>by simp [insT]
 | y :: l,z=>by
  rw [insT]
  split
  ·
   simp
  ·
   split
   ·
    rename_i h; subst h; simp
   ·
    rw [List.mem_cons,ins_mem s,List.mem_cons]
    constructor
    ·
     rintro (h | h | h)
     ·
      exact .inr (.inl h)
     ·
      exact .inl h
     ·
      exact .inr (.inr h)
    ·
     rintro (h | h | h)
     ·
      exact .inr (.inl h)
     ·
      exact .inl h
     ·
      exact .inr (.inr h)
theorem ins_up (s:ByteArray):∀ {l:List ByteArray},Up l→Up (insT s l)
 | [],_=>by simp [Up,insT]
 | y :: l,hu=>by
  obtain ⟨h1,h2⟩:=List.pairwise_cons.1 hu
  rw [insT]
  split
  ·
   rename_i h
   refine List.pairwise_cons.2 ⟨fun z hz=>?_,hu⟩
   rcases List.mem_cons.1 hz with rfl | hz
   ·
    exact h
   ·
    exact cmpB_trans h (h1 z hz)
  ·
   split
   ·
    rename_i h; subst h; exact hu
   ·
    rename_i h0 hy
    refine List.pairwise_cons.2 ⟨fun z hz=>?_,ins_up s h2⟩
    rcases (ins_mem s).1 hz with rfl | hz
    ·
     have a:=cmpB_swap y z
     by_cases e:cmpB y z=0
     ·
      exact (hy (cmpB_zero e)).elim
     ·
      omega
    ·
     exact h1 z hz
theorem insT_len (s:ByteArray):∀ l:List ByteArray,(insT s l).length≤l.length + 1
 | []=>by simp [insT]
 | y :: l=>by
  rw [insT]
  split
  ·
   simp
  ·
   split
   ·
    simp
   ·
    have:=insT_len s l
    simp; omega
theorem strict_eq {α:Type} {r:α→α→Prop} (hi:∀ x,¬ r x x) (ht:∀ x y z,r x y→r y z→r x z):∀ {a b:List α},a.Pairwise r→b.Pairwise r→(∀ x,x ∈ a↔x ∈ b)→a=b
 | [],[],_,_,_=>rfl
 | [],y :: b,_,_,h=>by have:=(h y).2 (by simp); simp at this
 | x :: a,[],_,_,h=>by have:=(h x).1 (by simp); simp at this
 | x :: a,y :: b,h1,h2,h=>by
  obtain ⟨a1,a2⟩:=List.pairwise_cons.1 h1
  obtain ⟨b1,b2⟩:=List.pairwise_cons.1 h2
  have e:x=y:=by
   rcases List.mem_cons.1 ((h x).1 (by simp)) with e | hx
   ·
    exact e
   ·
    rcases List.mem_cons.1 ((h y).2 (by simp)) with e | hy
    ·
     exact e.symm
    ·
     exact (hi _ (ht _ _ _ (b1 x hx) (a1 y hy))).elim
  subst e
  rw [strict_eq hi ht a2 b2 fun z=>?_]
  constructor
  ·
   intro hz
   rcases List.mem_cons.1 ((h z).1 (List.mem_cons_of_mem _ hz)) with rfl | hz'
   ·
    exact (hi _ (a1 _ hz)).elim
   ·
    exact hz'
  ·
   intro hz
   rcases List.mem_cons.1 ((h z).2 (List.mem_cons_of_mem _ hz)) with rfl | hz'
   ·
    exact (hi _ (b1 _ hz)).elim
   ·
    exact hz'
theorem up_eq {a b:List ByteArray} (h1:Up a) (h2:Up b) (h:∀ x,x ∈ a↔x ∈ b):a=b :=
 strict_eq (r:=fun a b=>cmpB a b < 0) (fun x=>by rw [cmpB_refl]; omega) (fun x y z=>cmpB_trans) h1 h2 h
structure GoodM (m:List KV):Prop where
 keys:m.Pairwise fun p q=>cmpB p.1 q.1 < 0
 vals:∀ p ∈ m,Up p.2∧p.2 ≠ []
def inM (m:List KV) (k v:ByteArray):Prop:=∃ p ∈ m,p.1=k∧v ∈ p.2
theorem GoodM.one {m:List KV} (h:GoodM m) {p q:KV} (hp:p ∈ m) (hq:q ∈ m) (e:p.1=q.1):p=q:=by
 obtain ⟨i,hi,rfl⟩:=List.getElem_of_mem hp
 obtain ⟨j,hj,rfl⟩:=List.getElem_of_mem hq
 have hk:=List.pairwise_iff_getElem.1 h.keys
 rcases Nat.lt_trichotomy i j with hij | rfl | hij
 ·
  have:=hk i j hi hj hij; rw [e,cmpB_refl] at this; omega
 ·
  rfl
 ·
  have:=hk j i hj hi hij; rw [e,cmpB_refl] at this; omega
theorem good_eq {a b:List KV} (ha:GoodM a) (hb:GoodM b) (h:∀ k v,inM a k v↔inM b k v):a=b:=by
 have half:∀ {a b:List KV},GoodM a→GoodM b→(∀ k v,inM a k v↔inM b k v)→∀ p ∈ a,p ∈ b:=by
  intro a b ha hb h p hp
  obtain ⟨hu,hne⟩:=ha.vals p hp
  obtain ⟨v,hv⟩:=List.exists_mem_of_ne_nil _ hne
  obtain ⟨q,hq,hk,-⟩:=(h p.1 v).1 ⟨p,hp,rfl,hv⟩
  have:p.2=q.2:=up_eq hu (hb.vals q hq).1 fun x=>by
   constructor
   ·
    intro hx
    obtain ⟨q',hq',hk',hx'⟩:=(h p.1 x).1 ⟨p,hp,rfl,hx⟩
    rw [hb.one hq hq' (by rw [hk,hk'])]; exact hx'
   ·
    intro hx
    obtain ⟨p',hp',hk',hx'⟩:=(h p.1 x).2 ⟨q,hq,hk,hx⟩
    rw [ha.one hp hp' hk'.symm]; exact hx'
  rw [show p=q from Prod.ext hk.symm this]; exact hq
 refine strict_eq (r:=fun p q:KV=>cmpB p.1 q.1 < 0) (fun x=>by rw [cmpB_refl]; omega) (fun x y z=>cmpB_trans) ha.keys hb.keys fun p=>⟨half ha hb h p,half hb ha (fun k v=>(h k v).symm) p⟩
end Go.Proofs.YtfdolehffjmdmaaGreatDoor
/- The law text's map (MapOf). -/
namespace Go.Proofs.YtfdolehffjmdmaaGreatDoor
set_option linter.unusedSimpArgs false
set_option linter.unusedVariables false
open Go.RowKit
theorem valsTo_up (l:List Entry) (c:Int) (key:ByteArray):∀ k,Up (valsTo l c key k)∧(valsTo l c key k).length≤k
 | 0=>⟨by simp [valsTo,Up],by simp [valsTo]⟩
 | k + 1=>by
  obtain ⟨h1,h2⟩:=valsTo_up l c key k
  rw [valsTo_succ,valStep]
  split
  ·
   rw [withT_ins _ h1]
   exact ⟨ins_up _ h1,by have:=insT_len (opOf (nth l k).t).2.2 (valsTo l c key k); omega⟩
  ·
   exact ⟨h1,by omega⟩
theorem valsTo_mem {l:List Entry} {c:Int} {key v:ByteArray}:∀ {k:Nat},v ∈ valsTo l c key k↔∃ i,i < k∧condR l c key i=true∧standR l c key i l.length=true∧v=(opOf (nth l i).t).2.2
 | 0=>by simp [valsTo]
 | k + 1=>by
  rw [valsTo_succ,valStep]
  split
  ·
   rename_i hc
   rw [Bool.and_eq_true] at hc
   rw [withT_ins _ (valsTo_up l c key k).1,ins_mem,valsTo_mem]
   constructor
   ·
    rintro (h | ⟨i,h1,h2⟩)
    ·
     exact ⟨k,by omega,hc.1,hc.2,h⟩
    ·
     exact ⟨i,by omega,h2⟩
   ·
    rintro ⟨i,h1,h2,h3,h4⟩
    by_cases e:i=k
    ·
     subst e; exact .inl h4
    ·
     exact .inr ⟨i,by omega,h2,h3,h4⟩
  ·
   rename_i hc
   rw [valsTo_mem]
   constructor
   ·
    rintro ⟨i,h1,h2⟩; exact ⟨i,by omega,h2⟩
   ·
    rintro ⟨i,h1,h2,h3,h4⟩
    by_cases e:i=k
    ·
     subst e; exact (hc (by rw [h2,h3]; rfl)).elim
    ·
     exact ⟨i,by omega,h2,h3,h4⟩
def keyStep (ks:List ByteArray) (e:Entry):List ByteArray:=if (opOf e.t).1=1 then withT ks (opOf e.t).2.1 else ks
def keysTo (l:List Entry):List ByteArray:=l.foldl keyStep []
theorem keysTo_app (l:List Entry) (e:Entry):keysTo (l ++ [e])=keyStep (keysTo l) e:=by rw [keysTo,List.foldl_append]; rfl
theorem keysTo_take {l:List Entry} {k:Nat} (h:k < l.length):keysTo (l.take (k + 1))=keyStep (keysTo (l.take k)) (nth l k):=by
 rw [List.take_add_one,nth_get? _ _ h,Option.toList_some,keysTo_app]
theorem keysTo_up {l:List Entry}:∀ k,k≤l.length→Up (keysTo (l.take k))∧(keysTo (l.take k)).length≤k
 | 0,_=>⟨by simp [keysTo,Up],by simp [keysTo]⟩
 | k + 1,h=>by
  obtain ⟨h1,h2⟩:=keysTo_up (l:=l) k (by omega)
  rw [keysTo_take (by omega),keyStep]
  split
  ·
   rw [withT_ins _ h1]
   exact ⟨ins_up _ h1,by have:=insT_len (opOf (nth l k).t).2.1 (keysTo (l.take k)); omega⟩
  ·
   exact ⟨h1,by omega⟩
theorem keysTo_mem {l:List Entry} {v:ByteArray}:∀ {k:Nat},k≤l.length→(v ∈ keysTo (l.take k)↔∃ i,i < k∧(opOf (nth l i).t).1=1∧v=(opOf (nth l i).t).2.1)
 | 0,_=>by simp [keysTo]
 | k + 1,h=>by
  rw [keysTo_take (by omega),keyStep]
  split
  ·
   rename_i hc
   rw [withT_ins _ (keysTo_up k (by omega)).1,ins_mem,keysTo_mem (by omega)]
   constructor
   ·
    rintro (h | ⟨i,h1,h2⟩)
    ·
     exact ⟨k,by omega,hc,h⟩
    ·
     exact ⟨i,by omega,h2⟩
   ·
    rintro ⟨i,h1,h2,h3⟩
    by_cases e:i=k
    ·
     subst e; exact .inl h3
    ·
     exact .inr ⟨i,by omega,h2,h3⟩
  ·
   rename_i hc
   rw [keysTo_mem (by omega)]
   constructor
   ·
    rintro ⟨i,h1,h2⟩; exact ⟨i,by omega,h2⟩
   ·
    rintro ⟨i,h1,h2,h3⟩
    by_cases e:i=k
    ·
     subst e; exact (hc h2).elim
    ·
     exact ⟨i,by omega,h2,h3⟩
def mapOne (l:List Entry) (c:Int) (key:ByteArray):Option KV:=if valsR l c key = [] then none else some (key,valsR l c key)
def mapR (l:List Entry) (c:Int):List KV:=(keysTo l).filterMap (mapOne l c)
end Go.Proofs.YtfdolehffjmdmaaGreatDoor
/- The map of a log is the law text's map: plain law. -/
namespace Go.Proofs.YtfdolehffjmdmaaGreatDoor
open Go.RowKit
theorem grp_step {m : List KV} {k v : ByteArray} (h : GoodM m) (hle : ∀ p ∈ m, ∀ y ∈ p.2, cmpP (p.1, y) (k, v) ≤ 0) :
    GoodM (grp1 m (k,v))∧∀ k' v',inM (grp1 m (k,v)) k' v'↔inM m k' v'∨(k'=k∧v'=v):=by
  cases hl:m.getLast? with
  | none =>
    have hm:m = []:=List.getLast?_eq_none_iff.1 hl
    subst hm
    have e:grp1 [] (k,v) = [(k,[v])]:=rfl
    rw [e]
    refine ⟨⟨by simp,fun p hp=>?_⟩,fun k' v'=>?_⟩
    · obtain rfl:p=(k,[v]):=by simpa using hp
      exact ⟨by simp [Up],by simp⟩
    · simp only [inM,List.mem_singleton,List.not_mem_nil,false_and,exists_false,false_or]
      constructor
      · rintro ⟨p,rfl,h1,h2⟩
        exact ⟨h1.symm,by simpa using h2⟩
      · rintro ⟨h1,h2⟩
        exact ⟨_,rfl,h1.symm,by simpa using h2⟩
  | some p =>
    obtain ⟨o,rfl⟩:=List.getLast?_eq_some_iff.1 hl
    obtain ⟨key,vs⟩:=p
    obtain ⟨k1,k2,k3⟩:=List.pairwise_append.1 h.keys
    have hp:(key,vs) ∈ o ++ [(key,vs)]:=by simp
    obtain ⟨u1,u2⟩:=h.vals _ hp
    simp only at u1 u2
    by_cases hk:key=k
    · subst hk
      have hvle:∀ y ∈ vs,cmpB y v≤0:=fun y hy=>by
        have:=hle _ hp y hy
        rw [cmpP,if_pos (cmpB_refl _)] at this
        exact this
      cases hv:vs.any fun x=>decide (v=x)
      · rw [grp1_app hv]
        have hlt:∀ y ∈ vs,cmpB y v < 0:=fun y hy=>by
          have h1:=hvle y hy
          have h2:=List.any_eq_false.1 hv y hy
          have h3:¬ cmpB y v=0:=fun e=>h2 (by rw [cmpB_zero e]; simp)
          omega
        refine ⟨⟨?_,fun p hp'=>?_⟩,fun k' v'=>?_⟩
        · refine List.pairwise_append.2 ⟨k1,by simp,fun a ha b hb=>?_⟩
          obtain rfl:b=(key,vs ++ [v]):=by simpa using hb
          exact k3 a ha (key,vs) (by simp)
        · rcases List.mem_append.1 hp' with h1 | h1
          · exact h.vals p (List.mem_append_left _ h1)
          · obtain rfl:p=(key,vs ++ [v]):=by simpa using h1
            refine ⟨List.pairwise_append.2 ⟨u1,by simp,fun a ha b hb=>?_⟩,by simp⟩
            obtain rfl:b=v:=by simpa using hb
            exact hlt a ha
        · constructor
          · rintro ⟨p,hp',e1,e2⟩
            rcases List.mem_append.1 hp' with h1 | h1
            · exact .inl ⟨p,List.mem_append_left _ h1,e1,e2⟩
            · obtain rfl:p=(key,vs ++ [v]):=by simpa using h1
              rcases List.mem_append.1 e2 with e2 | e2
              · exact .inl ⟨_,hp,e1,e2⟩
              · exact .inr ⟨e1.symm,by simpa using e2⟩
          · rintro (⟨p,hp',e1,e2⟩ | ⟨rfl,rfl⟩)
            · rcases List.mem_append.1 hp' with h1 | h1
              · exact ⟨p,List.mem_append_left _ h1,e1,e2⟩
              · obtain rfl:p=(key,vs):=by simpa using h1
                exact ⟨(key,vs ++ [v]),by simp,e1,List.mem_append_left _ e2⟩
            · exact ⟨(k',vs ++ [v']),by simp,rfl,by simp⟩
      · rw [grp1_in hv]
        refine ⟨h,fun k' v'=>?_⟩
        constructor
        · exact .inl
        · rintro (h1 | ⟨rfl,rfl⟩)
          · exact h1
          · obtain ⟨y,hy,e⟩:=List.any_eq_true.1 hv
            have e:v'=y:=by simpa using e
            exact ⟨_,hp,rfl,by rw [e]; exact hy⟩
    · rw [grp1_new hk]
      have hlast:cmpB key k < 0:=by
        obtain ⟨y,hy⟩:=List.exists_mem_of_ne_nil _ u2
        have:=hle _ hp y hy
        have h0:¬ cmpB key k=0:=fun e=>hk (cmpB_zero e)
        rw [cmpP,if_neg h0] at this
        simp only at this
        omega
      refine ⟨⟨?_,fun p hp'=>?_⟩,fun k' v'=>?_⟩
      · refine List.pairwise_append.2 ⟨h.keys,by simp,fun a ha b hb=>?_⟩
        obtain rfl:b=(k,[v]):=by simpa using hb
        rcases List.mem_append.1 ha with h1 | h1
        · exact cmpB_trans (k3 a h1 (key,vs) (by simp)) hlast
        · obtain rfl:a=(key,vs):=by simpa using h1
          exact hlast
      · rcases List.mem_append.1 hp' with h1 | h1
        · exact h.vals p h1
        · obtain rfl:p=(k,[v]):=by simpa using h1
          exact ⟨by simp [Up],by simp⟩
      · constructor
        · rintro ⟨p,hp',e1,e2⟩
          rcases List.mem_append.1 hp' with h1 | h1
          · exact .inl ⟨p,h1,e1,e2⟩
          · obtain rfl:p=(k,[v]):=by simpa using h1
            exact .inr ⟨e1.symm,by simpa using e2⟩
        · rintro (⟨p,hp',e1,e2⟩ | ⟨rfl,rfl⟩)
          · exact ⟨p,List.mem_append_left _ hp',e1,e2⟩
          · exact ⟨(k',[v']),by simp,rfl,by simp⟩
theorem grp_good:∀ (n:Nat) (L:List (ByteArray × ByteArray)),L.length=n→(L.Pairwise fun x y=>¬ cmpP y x < 0)→GoodM (grpL L)∧∀ k v,inM (grpL L) k v↔(k,v) ∈ L
 | 0,L,hn,_=>by
  obtain rfl:L = []:=List.length_eq_zero_iff.1 hn
  exact ⟨⟨by simp [grpL],fun p hp=>by simp [grpL] at hp⟩,fun k v=>by simp [grpL,inM]⟩
 | n + 1,L,hn,hL=>by
  have hne:L ≠ []:=by intro e; rw [e] at hn; simp at hn
  obtain ⟨L0,x,rfl⟩:∃ L0 x,L=L0 ++ [x]:=⟨L.dropLast,L.getLast hne,(List.dropLast_concat_getLast hne).symm⟩
  obtain ⟨p1,-,p3⟩:=List.pairwise_append.1 hL
  obtain ⟨g1,g2⟩:=grp_good n L0 (by simpa using hn) p1
  obtain ⟨k,v⟩:=x
  have e:grpL (L0 ++ [(k,v)])=grp1 (grpL L0) (k,v):=by rw [grpL,List.foldl_append]; rfl
  have hst:=grp_step (k:=k) (v:=v) g1 (fun p hp y hy=>by
   have hm:(p.1,y) ∈ L0:=(g2 p.1 y).1 ⟨p,hp,rfl,hy⟩
   have:=p3 _ hm (k,v) (by simp)
   have h2:=cmpP_swap (p.1,y) (k,v)
   omega)
  rw [e]
  refine ⟨hst.1,fun k' v'=>?_⟩
  rw [hst.2,g2,List.mem_append,List.mem_singleton,Prod.mk.injEq]
theorem raw_good (l:List Entry) (c:Int):GoodM (rawL l c)∧∀ k v,inM (rawL l c) k v↔∃ o ∈ standsL l c,o.k=k∧o.v=v:=by
 obtain ⟨h1,h2⟩:=sortF_spec (standsL l c)
 obtain ⟨g1,g2⟩:=grp_good _ ((sortF (standsL l c)).map FOp.kv) rfl (List.pairwise_map.2 h2)
 refine ⟨g1,fun k v=>?_⟩
 rw [rawL,g2,List.mem_map]
 constructor
 ·
  rintro ⟨o,ho,e⟩
  simp only [FOp.kv,Prod.mk.injEq] at e
  exact ⟨o,h1.mem_iff.1 ho,e⟩
 ·
  rintro ⟨o,ho,e⟩
  exact ⟨o,h1.mem_iff.2 ho,by simp only [FOp.kv,Prod.mk.injEq]; exact e⟩
theorem mapR_good (l:List Entry) (c:Int):GoodM (mapR l c)∧∀ k v,inM (mapR l c) k v↔∃ i,i < l.length∧condR l c k i=true∧standR l c k i l.length=true∧v=(opOf (nth l i).t).2.2:=by
 have hup:=(keysTo_up l.length (Nat.le_refl _)).1
 rw [List.take_length] at hup
 refine ⟨⟨?_,fun p hp=>?_⟩,fun k v=>?_⟩
 ·
  refine List.pairwise_filterMap.2 (hup.imp fun {a b} hab x hx y hy=>?_)
  unfold mapOne at hx hy
  split at hx
  ·
   cases hx
  ·
   split at hy
   ·
    cases hy
   ·
    cases hx; cases hy; exact hab
 ·
  obtain ⟨k,-,hk⟩:=List.mem_filterMap.1 hp
  unfold mapOne at hk
  split at hk
  ·
   cases hk
  ·
   rename_i hne
   cases hk
   exact ⟨(valsTo_up l c k l.length).1,hne⟩
 ·
  constructor
  ·
   rintro ⟨p,hp,rfl,hv⟩
   obtain ⟨k,-,hk⟩:=List.mem_filterMap.1 hp
   unfold mapOne at hk
   split at hk
   ·
    cases hk
   ·
    cases hk
    exact valsTo_mem.1 hv
  ·
   rintro ⟨i,h1,h2,h3,h4⟩
   have hv:v ∈ valsR l c k:=valsTo_mem.2 ⟨i,h1,h2,h3,h4⟩
   have hne:valsR l c k ≠ []:=List.ne_nil_of_mem hv
   have hcr:=h2
   simp only [condR,Bool.and_eq_true,decide_eq_true_eq] at hcr
   have hk:k ∈ keysTo l:=by
    have:=(keysTo_mem (l:=l) (v:=k) (Nat.le_refl _)).2 ⟨i,h1,hcr.1,hcr.2.1.symm⟩
    rwa [List.take_length] at this
   exact ⟨(k,valsR l c k),List.mem_filterMap.2 ⟨k,hk,by rw [mapOne,if_neg hne]⟩,rfl,hv⟩
theorem memN {l:List Entry} {e:Entry}:e ∈ l↔∃ k,k < l.length∧nth l k=e:=by
 constructor
 ·
  intro h
  obtain ⟨k,hk,rfl⟩:=List.getElem_of_mem h
  exact ⟨k,hk,nth_eq _ _ hk⟩
 ·
  rintro ⟨k,hk,rfl⟩
  rw [nth_eq _ _ hk]; exact List.getElem_mem hk
theorem ops_iff {l:List Entry} {c:Int} {o:FOp}:o ∈ opsL l c↔∃ i,i < l.length∧meetB (nth l i).c c=true∧(opOf (nth l i).t).1≠0∧o=⟨(nth l i).id,(opOf (nth l i).t).2.1,(opOf (nth l i).t).2.2,decide ((opOf (nth l i).t).1=1)⟩:=by
 constructor
 ·
  intro h
  obtain ⟨e,he,hi,hm,hs⟩:=opsL_mem h
  obtain ⟨i,hi',rfl⟩:=memN.1 he
  unfold opE at hs
  split at hs
  ·
   cases hs
  ·
   rename_i hne; cases hs; exact ⟨i,hi',hm,hne,rfl⟩
 ·
  rintro ⟨i,hi,hm,hne,rfl⟩
  refine List.mem_filterMap.2 ⟨nth l i,List.mem_filter.2 ⟨memN.2 ⟨i,hi,rfl⟩,hm⟩,?_⟩
  rw [opE,if_neg hne]
theorem past_mark {l:List Entry} (h:LogOk l) {i n:Nat} (hi:i < l.length) (hn:n < l.length):hasI (pastAt (pasts l) l (nth l n).id) (nth l i).id=nth (marksOf l n) i:=by
 rw [pastAt_eq,h.find hn,Int.toNat_natCast,Bool.eq_iff_iff,hasI_iff,marksOf_iff h hn hi]
theorem raw_map {l:List Entry} {c:Int} (h:LogOk l):mapR l c=rawL l c:=by
 obtain ⟨a1,a2⟩:=mapR_good l c
 obtain ⟨b1,b2⟩:=raw_good l c
 refine good_eq a1 b1 fun k v=>?_
 rw [a2,b2]
 constructor
 ·
  rintro ⟨i,hi,hc,hs,rfl⟩
  simp only [condR,Bool.and_eq_true,decide_eq_true_eq] at hc
  obtain ⟨c1,c2,c3⟩:=hc
  refine ⟨⟨(nth l i).id,(opOf (nth l i).t).2.1,(opOf (nth l i).t).2.2,decide ((opOf (nth l i).t).1=1)⟩,List.mem_filter.2 ⟨ops_iff.2 ⟨i,hi,c3,by omega,rfl⟩,?_⟩,c2,rfl⟩
  rw [standB]
  simp only [c1,decide_true,Bool.true_and,Bool.not_eq_true',List.any_eq_false,Bool.and_eq_true,decide_eq_true_eq,not_and,Bool.not_eq_true]
  intro y hy hyk
  obtain ⟨n,hn,m1,m2,rfl⟩:=ops_iff.1 hy
  rw [past_mark h hi hn]
  have:=List.all_eq_true.1 hs n (List.mem_range.2 hn)
  simp only at hyk
  have hb:blkR l c k i n=false:=by simpa using this
  cases hm:nth (marksOf l n) i
  ·
   rfl
  ·
   simp [blkR,m1,m2,hm,hyk,c2] at hb
 ·
  rintro ⟨o,ho,rfl,rfl⟩
  obtain ⟨ho,hsb⟩:=List.mem_filter.1 ho
  obtain ⟨i,hi,m1,m2,rfl⟩:=ops_iff.1 ho
  rw [standB] at hsb
  simp only [Bool.and_eq_true,decide_eq_true_eq,Bool.not_eq_true',List.any_eq_false,not_and,Bool.not_eq_true] at hsb
  obtain ⟨s1,s2⟩:=hsb
  refine ⟨i,hi,by simp [condR,s1,m1],?_,rfl⟩
  refine List.all_eq_true.2 fun n hn=>?_
  have hn:=List.mem_range.1 hn
  cases hb:blkR l c (opOf (nth l i).t).2.1 i n
  ·
   rfl
  ·
   exfalso
   simp only [blkR,Bool.and_eq_true,decide_eq_true_eq] at hb
   obtain ⟨d1,d2,d3,d4⟩:=hb
   have:=s2 _ (ops_iff.2 ⟨n,hn,d3,d1,rfl⟩) d2
   simp only at this
   rw [past_mark h hi hn,d4] at this
   cases this
end Go.Proofs.YtfdolehffjmdmaaGreatDoor
/- What must be in any case of sites; SiteTells,as a contract. -/
namespace Go.Proofs.YtfdolehffjmdmaaGreatDoor
set_option linter.unusedSimpArgs false
set_option linter.unusedVariables false
open Go.RowKit
end Go.Proofs.YtfdolehffjmdmaaGreatDoor
/- DagHeads,as a contract. -/
namespace Go.Proofs.YtfdolehffjmdmaaGreatDoor
set_option linter.unusedSimpArgs false
set_option linter.unusedVariables false
open Go.RowKit
end Go.Proofs.YtfdolehffjmdmaaGreatDoor
/- SiteLinks,as a contract. -/
namespace Go.Proofs.YtfdolehffjmdmaaGreatDoor
set_option linter.unusedSimpArgs false
set_option linter.unusedVariables false
open Go.RowKit
structure Tail (A B:List Entry) (f:Entry) (d:Int):Prop where
 a:LogOk A
 b:LogOk B
 at_:nth A B.length=f
 lt:B.length < A.length
 eq:∀ k,k < B.length→nth A k=nth B k
 past:∀ k,k < B.length→pastOf A k=pastOf B k
 ls:f.ls=sortI (headsC B d)
theorem Tail.head {A B:List Entry} {f:Entry} {d:Int} (h:Tail A B f d) {x:Id} (hx:x ∈ f.ls):∃ k,k < B.length∧(nth A k).id=x∧meetB (nth B k).c d=true∧∀ i,i < B.length→meetB (nth B i).c d=true→x ∉ pastOf A i:=by
 rw [h.ls] at hx
 obtain ⟨k,a,b,c,e⟩:=(mem_headsC h.b).1 (sortI_mem.1 hx)
 exact ⟨k,a,by rw [h.eq k a]; exact b,c,fun i hi hm=>by rw [h.past i hi]; exact e i hi hm⟩
theorem Tail.apart {A B:List Entry} {f:Entry} {d:Int} (h:Tail A B f d) {x:Id} (hx:x ∈ f.ls):∃ k,pastErr A x=0∧pastIds A x=pastOf A k∧(pastOf A k).length≤40∧∀ y ∈ f.ls,hasI (pastOf A k) y=false:=by
 obtain ⟨k,hk,rfl,hm,-⟩:=h.head hx
 have hka:k < A.length:=by have:=h.lt; omega
 obtain ⟨p1,p2⟩:=past_at (log_ok.2 h.a) hka
 refine ⟨k,p1,p2,pastOf_len h.a hka,fun y hy=>?_⟩
 obtain ⟨k',hk',-,-,hn⟩:=h.head hy
 cases e:hasI (pastOf A k) y
 ·
  rfl
 ·
  exact (hn k hk hm (hasI_iff.1 e)).elim
end Go.Proofs.YtfdolehffjmdmaaGreatDoor
/- Maps hang on the set of entries; what one who knows all puts or drops: plain laws. -/
namespace Go.Proofs.YtfdolehffjmdmaaGreatDoor
open Go.RowKit
def standE (l:List Entry) (c:Int) (e:Entry):Prop:=(opOf e.t).1=1∧meetB e.c c=true∧∀ n,n < l.length→(opOf (nth l n).t).1≠0→(opOf (nth l n).t).2.1=(opOf e.t).2.1→meetB (nth l n).c c=true→e.id ∉ pastOf l n
theorem raw_iff {l:List Entry} {c:Int} (h:LogOk l) {k v:ByteArray}:inM (rawL l c) k v↔∃ i,i < l.length∧standE l c (nth l i)∧(opOf (nth l i).t).2.1=k∧(opOf (nth l i).t).2.2=v:=by
 rw [(raw_good l c).2]
 have hp:∀ n,n < l.length→pastAt (pasts l) l (nth l n).id=pastOf l n:=fun n hn=>by rw [pastAt_eq,h.find hn,Int.toNat_natCast]
 constructor
 ·
  rintro ⟨o,ho,rfl,rfl⟩
  obtain ⟨ho,hsb⟩:=List.mem_filter.1 ho
  obtain ⟨i,hi,m1,m2,rfl⟩:=ops_iff.1 ho
  rw [standB] at hsb
  simp only [Bool.and_eq_true,decide_eq_true_eq,Bool.not_eq_true',List.any_eq_false,not_and,Bool.not_eq_true] at hsb
  obtain ⟨s1,s2⟩:=hsb
  refine ⟨i,hi,⟨s1,m1,fun n hn b1 b2 b3 hm=>?_⟩,rfl,rfl⟩
  have:=s2 _ (ops_iff.2 ⟨n,hn,b3,b1,rfl⟩) b2
  simp only at this
  rw [hp n hn,← Bool.not_eq_true,hasI_iff] at this
  exact this hm
 ·
  rintro ⟨i,hi,⟨s1,s2,s3⟩,rfl,rfl⟩
  refine ⟨⟨(nth l i).id,(opOf (nth l i).t).2.1,(opOf (nth l i).t).2.2,decide ((opOf (nth l i).t).1=1)⟩,List.mem_filter.2 ⟨ops_iff.2 ⟨i,hi,s2,by omega,rfl⟩,?_⟩,rfl,rfl⟩
  rw [standB]
  simp only [s1,decide_true,Bool.true_and,Bool.not_eq_true',List.any_eq_false,Bool.and_eq_true,decide_eq_true_eq,not_and,Bool.not_eq_true]
  intro y hy hyk
  obtain ⟨n,hn,m1,m2,rfl⟩:=ops_iff.1 hy
  simp only at hyk ⊢
  rw [hp n hn,← Bool.not_eq_true,hasI_iff]
  exact s3 n hn m2 hyk m1
section
variable {lg:List Entry} {f:Entry} {c:Int}
end
end Go.Proofs.YtfdolehffjmdmaaGreatDoor
/- Texts of logs (desk.Text,Same; the law text's TextOf). -/
namespace Go.Proofs.YtfdolehffjmdmaaGreatDoor
set_option linter.unusedSimpArgs false
set_option linter.unusedVariables false
open Go.RowKit
theorem op_words {t:ByteArray} (h:(opOf t).1≠0):(opOf t).2.1.size≤3∧(opOf t).2.2.size≤3:=by
 unfold opOf at h ⊢
 split
 ·
  split
  ·
   rename_i hc
   have a:=word_len hc.2.1
   have b:=word_len hc.2.2
   exact ⟨a.2,b.2⟩
  ·
   rename_i hc
   simp [*] at h
 ·
  split
  ·
   rename_i hc
   have a:=word_len hc.2
   exact ⟨a.2,Nat.zero_le _⟩
  ·
   rename_i hc
   simp [*] at h
 ·
  simp [*] at h
theorem raw_ok {l:List Entry} (c:Int) (h:LogOk l):okM (rawL l c):=by
 have hm:=h.len
 have hr:=rawL_len l c
 have hin:∀ k v,inM (rawL l c) k v→k.size≤3∧v.size≤3:=fun k v hv=>by
  obtain ⟨i,-,⟨s1,-,-⟩,e1,e2⟩:=(raw_iff h).1 hv
  obtain ⟨a,b⟩:=op_words (t:=(nth l i).t) (by omega)
  rw [e1] at a
  rw [e2] at b
  exact ⟨a,b⟩
 refine ⟨by omega,fun p hp=>?_⟩
 obtain ⟨hu,hne⟩:=(raw_good l c).1.vals p hp
 obtain ⟨v,hv⟩:=List.exists_mem_of_ne_nil _ hne
 refine ⟨(hin p.1 v ⟨p,hp,rfl,hv⟩).1,?_,fun v hv=>(hin p.1 v ⟨p,hp,rfl,hv⟩).2⟩
 have hp2:=hp
 rw [← raw_map h] at hp2
 obtain ⟨k',-,h2⟩:=List.mem_filterMap.1 hp2
 unfold mapOne at h2
 split at h2
 ·
  cases h2
 ·
  cases h2
  have:=(valsTo_up l c k' l.length).2
  show (valsTo l c k' l.length).length≤_
  omega
noncomputable def textL (l:List Entry) (c:Int):ByteArray:=if mapErr l c=0 then wrL (rawL l c) else nilB
theorem text_meets (l:List Entry) (c:Int) (hl:l.length≤9223372036854775806):Meets Tryz.prog 25 [.list (l.map cE),.int .i64 c] [] (.tup [.str (textL l c),.int .i64 (mapErr l c)]) []:=by
 refine Meets.of_walk Tryz.func25 Tryz.ntmps25 low25 res25 (by simp) fun x hx=>?_
 simp only [go_sem,L25,R25]
 refine ops_call (.pureE (map_meets l c hl) (by simp [go_sem])) ?_
 by_cases h:mapErr l c=0
 ·
  obtain ⟨hok,-⟩:=mapErr_ok.1 h
  have e1:mapL l c=rawL l c:=by rw [mapL,if_pos h]
  have e2:textL l c=wrL (rawL l c):=by rw [textL,if_pos h]
  rw [e1,e2,h]
  simp only [go_sem,intS,Int.reduceLT,Int.reduceLE,Int.reduceToNat,Int.reduceAdd,frz]
  refine ops_call (.pureE (written_meets (rawL l c) (raw_ok c hok)) (by simp [go_sem])) ?_
  simp only [go_sem,intS,Int.reduceLT,Int.reduceLE,Int.reduceToNat,Int.reduceAdd,frz]
  refine ret_pure hx ?_
  simp [go_sem,L25,R25]
 ·
  have e2:textL l c=nilB:=by rw [textL,if_neg h]
  rw [e2]
  simp only [go_sem,intS,Int.reduceLT,Int.reduceLE,Int.reduceToNat,Int.reduceAdd,frz,h]
  refine ret_pure hx ?_
  simp [go_sem,L25,R25,nilB]
def sameErr (ss:List Si) (ys:List (List Entry)) (c:Int):Int:=if woErr ss ys=0 then (if wthn c 1 7=true then 0 else 3) else woErr ss ys
noncomputable def sameT (p q:List Entry) (c:Int):Bool:=decide (wrL (rawL p c)=wrL (rawL q c))
noncomputable def sameOf (ss:List Si) (ys:List (List Entry)) (c:Int):Bool:=if sameErr ss ys c=0 then sameT (nth ss 0).2.1 (nth ss 1).2.1 c else false
set_option maxHeartbeats 4000000 in
theorem same_meets (ss : List Si) (ys : List (List Entry)) (c : Int) (hs : ss.length ≤ 1000000000000000) (hy : ys.length ≤ 1000000000000000) (ho : okSs ss) (hoy : okYs ys) :
    Meets Tryz.prog 26 [.agg (cWd ss ys),.int .i64 c] [] (.tup [.bool (sameOf ss ys c),.int .i64 (sameErr ss ys c)]) []:=by
  refine Meets.of_walk Tryz.func26 Tryz.ntmps26 low26 res26 (by simp) fun x hx=>?_
  simp only [go_sem,L26,R26,cWd]
  refine ops_call (.pureE (worldCheck_meets ss ys hs hy ho hoy) (by simp [go_sem,cWd])) ?_
  by_cases h:woErr ss ys=0
  · obtain ⟨w,rfl,rfl,hw⟩:=woErr_inv h
    simp only [go_sem,intS,Int.reduceLT,Int.reduceLE,Int.reduceToNat,Int.reduceAdd,frz,h]
    refine ops_call (.pureE (colors_meets c) (by simp [go_sem])) ?_
    cases hc:wthn c 1 7
    · have e:sameErr w.ss w.ys c=3:=by rw [sameErr,if_pos h,if_neg (by simp [hc])]
      simp only [go_sem,intS,Int.reduceLT,Int.reduceLE,Int.reduceToNat,Int.reduceAdd,frz]
      refine ret_pure hx ?_
      simp [go_sem,L26,R26,sameOf,e]
    · have e:sameErr w.ss w.ys c=0:=by rw [sameErr,if_pos h,if_pos hc]
      have hp:=hw.log (i:=0) (.inl rfl)
      have hq:=hw.log (i:=1) (.inr rfl)
      have hp:LogOk w.p:=hp
      have hq:LogOk w.q:=hq
      simp only [go_sem,intS,Int.reduceLT,Int.reduceLE,Int.reduceToNat,Int.reduceAdd,frz,Wo.ss,Wo.ys,cSi3,cSi,List.map_cons,List.map_nil,List.length_cons,List.length_nil]
      refine ops_call (.pureE (fraw_meets w.p c hp hc (fun e hem=>by have:=log_t hp e hem; omega)) (by simp [go_sem])) ?_
      simp only [go_sem]
      refine ops_call (.pureE (written_meets (rawL w.p c) (raw_ok c hp)) (by simp [go_sem])) ?_
      simp only [go_sem,intS,Int.reduceLT,Int.reduceLE,Int.reduceToNat,Int.reduceAdd,frz,Wo.ss,Wo.ys,cSi3,cSi,List.map_cons,List.map_nil,List.length_cons,List.length_nil]
      refine ops_call (.pureE (fraw_meets w.q c hq hc (fun e hem=>by have:=log_t hq e hem; omega)) (by simp [go_sem])) ?_
      simp only [go_sem]
      refine ops_call (.pureE (written_meets (rawL w.q c) (raw_ok c hq)) (by simp [go_sem])) ?_
      simp only [go_sem]
      repeat refine ⟨rfl,?_⟩
      refine ret_pure hx ?_
      have e2:sameOf w.ss w.ys c=sameT w.p w.q c:=by rw [sameOf,if_pos e]; rfl
      have e3:sameErr [(0,w.p,w.u),(1,w.q,w.v)] [w.a,w.b] c=0:=e
      have e4:sameOf [(0,w.p,w.u),(1,w.q,w.v)] [w.a,w.b] c=sameT w.p w.q c:=e2
      simp [go_sem,L26,R26,e3,e4,Wo.ss,Wo.ys,sameT]
  · have e:sameErr ss ys c=woErr ss ys:=by rw [sameErr,if_neg h]
    simp only [go_sem,intS,Int.reduceLT,Int.reduceLE,Int.reduceToNat,Int.reduceAdd,frz,h]
    refine ret_pure hx ?_
    simp [go_sem,L26,R26,sameOf,e,h]
end Go.Proofs.YtfdolehffjmdmaaGreatDoor
/- The law text's TextOf. -/
namespace Go.Proofs.YtfdolehffjmdmaaGreatDoor
set_option linter.unusedSimpArgs false
set_option linter.unusedVariables false
open Go.RowKit
end Go.Proofs.YtfdolehffjmdmaaGreatDoor
/- What must be in any case of worlds. -/
namespace Go.Proofs.YtfdolehffjmdmaaGreatDoor
set_option linter.unusedSimpArgs false
set_option linter.unusedVariables false
open Go.RowKit
def wbT1:ByteArray:=⟨#[112,117,116,32,97,32,120]⟩
def wbT2:ByteArray:=⟨#[112,117,116,32,97,32,121]⟩
def wbT3:ByteArray:=⟨#[112,117,116,32,98,32,122]⟩
def wa1:Entry:=⟨⟨0,1⟩,1,wbT1,[]⟩
def wb1:Entry:=⟨⟨1,1⟩,1,wbT2,[]⟩
def wb2:Entry:=⟨⟨1,2⟩,1,wbT3,[⟨0,1⟩,⟨1,1⟩]⟩
def wbW1:Wo:=⟨[wa1],[],[],[],[],[wa1]⟩
def wbW2:Wo:=⟨[wa1],[],[wb1],[],[wb1],[wa1]⟩
def wbW3:Wo:=⟨[wa1],[],[wb1,wa1],[],[wb1],[]⟩
def wbW4:Wo:=⟨[wa1],[],[wb1,wa1],[],[],[]⟩
def wbW5:Wo:=⟨[wa1],[],[wb1,wa1,wb2],[],[wb2],[]⟩
def wbW6:Wo:=⟨[wa1],[wb2],[wb1,wa1,wb2],[],[],[]⟩
def wbS:Wo:=⟨[wa1,wb1,wb2],[],[wb1,wa1,wb2],[],[],[]⟩
def wbA:List (List PV) := [cAct 1 0 0 1 wbT1,cAct 1 1 0 1 wbT2,cAct 2 1 0 0 ⟨#[]⟩,cAct 3 0 0 0 ⟨#[]⟩,cAct 1 1 0 1 wbT3,cAct 2 0 0 0 ⟨#[]⟩]
theorem wb_h1:sortI (headsC [] 1) = []:=by rw [← heads_eq (log_ok.1 (by decide +kernel))]; decide +kernel
theorem wb_h2:sortI (headsC [wb1,wa1] 1) = [⟨0,1⟩,⟨1,1⟩]:=by rw [← heads_eq (log_ok.1 (by decide +kernel))]; decide +kernel
theorem wb_ok0:WoOk wNew:=woErr_ok.1 (by decide +kernel)
theorem wb_ok1:WoOk wbW1:=woErr_ok.1 (by decide +kernel)
theorem wb_ok2:WoOk wbW2:=woErr_ok.1 (by decide +kernel)
theorem wb_ok3:WoOk wbW3:=woErr_ok.1 (by decide +kernel)
theorem wb_ok4:WoOk wbW4:=woErr_ok.1 (by decide +kernel)
theorem wb_ok5:WoOk wbW5:=woErr_ok.1 (by decide +kernel)
theorem wb_ok6:WoOk wbW6:=woErr_ok.1 (by decide +kernel)
theorem wb_a1:apE 0 [] 1 wbT1=wa1:=by rw [apE,wb_h1]; rfl
theorem wb_a2:apE 1 [] 1 wbT2=wb1:=by rw [apE,wb_h1]; rfl
theorem wb_a3:apE 1 [wb1,wa1] 1 wbT3=wb2:=by rw [apE,wb_h2]; rfl
theorem wb_x1:apErr 0 [] 1 wbT1=0:=by rw [apErr,wb_h1]; decide +kernel
theorem wb_x2:apErr 1 [] 1 wbT2=0:=by rw [apErr,wb_h1]; decide +kernel
theorem wb_x3:apErr 1 [wb1,wa1] 1 wbT3=0:=by rw [apErr,wb_h2]; decide +kernel
theorem doErr_app {w:Wo} {i c:Int} {t:ByteArray} (hi:i=0∨i=1) (h:apErr i (w.log i) c t=0):doErr w 1 i 0 c t=0:=by
 rw [doErr,if_neg (by decide),if_neg (by simp [extraB]),if_neg (by simp [hi]),doErr0,if_pos rfl,h]
theorem doW_app {w:Wo} {i c:Int} {t:ByteArray} {e:Entry} (h:apE i (w.log i) c t=e):doW w 1 i 0 c t=sendW (w.setS i (settled (w.log i ++ [e]) (w.wts i))) (1 - i) e:=by
 rw [doW,if_pos rfl,h]
theorem wb_y1:doErr wNew 1 0 0 1 wbT1=0:=doErr_app (w:=wNew) (.inl rfl) wb_x1
theorem wb_y2:doErr wbW1 1 1 0 1 wbT2=0:=doErr_app (w:=wbW1) (.inr rfl) wb_x2
theorem wb_y5:doErr wbW4 1 1 0 1 wbT3=0:=doErr_app (w:=wbW4) (.inr rfl) wb_x3
theorem wb_c1:doC wNew 1 0 0 1 wbT1=cWo wbW1:=by
 rw [doC,if_pos wb_y1,doW_app (w:=wNew) (e:=wa1) wb_a1]; rfl
theorem wb_c2:doC wbW1 1 1 0 1 wbT2=cWo wbW2:=by
 rw [doC,if_pos wb_y2,doW_app (w:=wbW1) (e:=wb1) wb_a2]; rfl
theorem wb_y3:doErr wbW2 2 1 0 0 ⟨#[]⟩=0:=by decide +kernel
theorem wb_z3:doW wbW2 2 1 0 0 ⟨#[]⟩=wbW3:=by kernel_rfl
theorem wb_c3:doC wbW2 2 1 0 0 ⟨#[]⟩=cWo wbW3:=by rw [doC,if_pos wb_y3,wb_z3]
theorem wb_y4:doErr wbW3 3 0 0 0 ⟨#[]⟩=0:=by decide +kernel
theorem wb_z4:doW wbW3 3 0 0 0 ⟨#[]⟩=wbW4:=by kernel_rfl
theorem wb_c4:doC wbW3 3 0 0 0 ⟨#[]⟩=cWo wbW4:=by rw [doC,if_pos wb_y4,wb_z4]
theorem wb_c5:doC wbW4 1 1 0 1 wbT3=cWo wbW5:=by
 rw [doC,if_pos wb_y5,doW_app (w:=wbW4) (e:=wb2) wb_a3]; rfl
theorem wb_y6:doErr wbW5 2 0 0 0 ⟨#[]⟩=0:=by decide +kernel
theorem wb_z6:doW wbW5 2 0 0 0 ⟨#[]⟩=wbW6:=by kernel_rfl
theorem wb_c6:doC wbW5 2 0 0 0 ⟨#[]⟩=cWo wbW6:=by rw [doC,if_pos wb_y6,wb_z6]
theorem wb_s:stW wbW6=wbS:=by kernel_rfl
theorem acts_meets:Meets Tryz.prog 77 [] [] (.list wbA) []:=by
 refine Meets.of_walk Tryz.func77 Tryz.ntmps77 low77 res77 (by simp) fun x hx=>?_
 simp only [go_sem,L77,R77]
 refine ret_pure hx ?_
 simp [go_sem,L77,R77,wbA,cAct,wbT1,wbT2,wbT3]
def wbAt:Nat→Wo
 | 0=>wbW6
 | 1=>wbW5
 | 2=>wbW4
 | 3=>wbW3
 | 4=>wbW2
 | 5=>wbW1
 | _=>wNew
theorem wbAt1:wbAt 1=wbW5:=rfl
theorem wbAt2:wbAt 2=wbW4:=rfl
theorem wbAt3:wbAt 3=wbW3:=rfl
theorem wbAt4:wbAt 4=wbW2:=rfl
theorem wbAt5:wbAt 5=wbW1:=rfl
theorem wbAt0:wbAt 0=wbW6:=rfl
theorem wbAt6:wbAt 6=wNew:=rfl
set_option maxRecDepth 10000 in
set_option maxHeartbeats 4000000 in
theorem worldBegun_meets:Meets Tryz.prog 33 [] [] (.bool true) []:=by
 have d1:=woDo_ok wNew wb_ok0 1 0 0 1 wbT1
 have d2:=woDo_ok wbW1 wb_ok1 1 1 0 1 wbT2
 have d3:=woDo_ok wbW2 wb_ok2 2 1 0 0 ⟨#[]⟩
 have d4:=woDo_ok wbW3 wb_ok3 3 0 0 0 ⟨#[]⟩
 have d5:=woDo_ok wbW4 wb_ok4 1 1 0 1 wbT3
 have d6:=woDo_ok wbW5 wb_ok5 2 0 0 0 ⟨#[]⟩
 rw [wb_c1,wb_y1] at d1
 rw [wb_c2,wb_y2] at d2
 rw [wb_c3,wb_y3] at d3
 rw [wb_c4,wb_y4] at d4
 rw [wb_c5,wb_y5] at d5
 rw [wb_c6,wb_y6] at d6
 have hst:=settle_ok wbW6 wb_ok6
 rw [wb_s] at hst
 obtain ⟨o1,o2⟩:=okSs_of wb_ok6
 have hck:=worldCheck_meets wbW6.ss wbW6.ys (by simp [Wo.ss]) (by simp [Wo.ys]) o1 o2
 rw [woErr_ok.2 wb_ok6] at hck
 have wrk:∀ k:Int,0≤k→k < 7→IntKind.i64.wrap k=k:=fun k h1 h2=>by rw [IntKind.wrap_i64]; omega
 refine Meets.of_walk Tryz.func33 Tryz.ntmps33 low33 res33 (by simp) fun x hx=>?_
 simp only [go_sem,L33,R33]
 refine ops_call (.pure woNew_meets) ?_
 simp only [go_sem,intS,Int.reduceLT,Int.reduceLE,Int.reduceToNat,Int.reduceAdd,frz,cWo,cWd]
 refine loop_inv [1,2] 1 (fun m st=>m≤6∧st=⟨mkE .top [(1,.ptr 0 0),(2,.int .i64 ((6 - m:Nat):Int))],[.box (cWo (wbAt m))]⟩) 6 (by simp [hx]) (by simp) ?_ ?_
 ·
  refine ⟨by omega,?_⟩
  simp [trim_mk,go_sem,subHeap,renObj,renCell,renLeaf,pos,List.range_succ,cWo,cWd,wbAt6]
 ·
  rintro m st ⟨hm,rfl⟩
  have hm6:m=0∨m=1∨m=2∨m=3∨m=4∨m=5∨m=6:=by omega
  rcases hm6 with rfl | rfl | rfl | rfl | rfl | rfl | rfl
  ·
   have e1:(wbAt 0)=wbW6:=rfl
   rw [e1]
   simp only [go_sem,intS,Int.reduceLT,Int.reduceLE,Int.reduceToNat,Int.reduceAdd,frz,cWo,cWd]
   refine ops_call (.pure acts_meets) ?_
   simp only [go_sem,intS,Int.reduceLT,Int.reduceLE,Int.reduceToNat,Int.reduceAdd,frz,wbA,cWo,cWd,cAct,List.length_cons,List.length_nil]
   refine ops_call (.pureE hst (by simp [go_sem,cWo,cWd])) ?_
   simp only [go_sem,intS,Int.reduceLT,Int.reduceLE,Int.reduceToNat,Int.reduceAdd,frz,cWo,cWd]
   refine ops_call (.pureE hck (by simp [go_sem,cWd])) ?_
   simp only [go_sem,intS,Int.reduceLT,Int.reduceLE,Int.reduceToNat,Int.reduceAdd,frz,cWo,cWd,Wo.ss,wbS,wbW6,cSi3,cSi,List.map_cons,List.map_nil,List.length_cons,List.length_nil]
   refine ret_pure hx ?_
   simp [go_sem,L33,R33]
  ·
   skip
   rw [wbAt1]
   simp only [go_sem,intS,Int.reduceLT,Int.reduceLE,Int.reduceToNat,Int.reduceAdd,frz,cWo,cWd]
   refine ops_call (.pure acts_meets) ?_
   simp only [go_sem,intS,Int.reduceLT,Int.reduceLE,Int.reduceToNat,Int.reduceAdd,frz,wbA,cWo,cWd,cAct,List.length_cons,List.length_nil]
   refine ops_call (.pure acts_meets) ?_
   simp only [go_sem,intS,Int.reduceLT,Int.reduceLE,Int.reduceToNat,Int.reduceAdd,frz,wbA,cWo,cWd,cAct,List.length_cons,List.length_nil]
   refine ops_call (.pureE d6 (by simp [go_sem,cWo,cWd,cAct])) ?_
   simp only [go_sem,intS,Int.reduceLT,Int.reduceLE,Int.reduceToNat,Int.reduceAdd,frz,cWo,cWd,wrk]
   repeat refine ⟨rfl,?_⟩
   refine ⟨by simp,0,by omega,?_⟩
   simp [trim_mk,go_sem,subHeap,renObj,renCell,renLeaf,pos,List.range_succ,cWo,cWd,wrk,wbAt0]
  ·
   skip
   rw [wbAt2]
   simp only [go_sem,intS,Int.reduceLT,Int.reduceLE,Int.reduceToNat,Int.reduceAdd,frz,cWo,cWd]
   refine ops_call (.pure acts_meets) ?_
   simp only [go_sem,intS,Int.reduceLT,Int.reduceLE,Int.reduceToNat,Int.reduceAdd,frz,wbA,cWo,cWd,cAct,List.length_cons,List.length_nil]
   refine ops_call (.pure acts_meets) ?_
   simp only [go_sem,intS,Int.reduceLT,Int.reduceLE,Int.reduceToNat,Int.reduceAdd,frz,wbA,cWo,cWd,cAct,List.length_cons,List.length_nil]
   refine ops_call (.pureE d5 (by simp [go_sem,cWo,cWd,cAct])) ?_
   simp only [go_sem,intS,Int.reduceLT,Int.reduceLE,Int.reduceToNat,Int.reduceAdd,frz,cWo,cWd,wrk]
   repeat refine ⟨rfl,?_⟩
   refine ⟨by simp,1,by omega,?_⟩
   simp [trim_mk,go_sem,subHeap,renObj,renCell,renLeaf,pos,List.range_succ,cWo,cWd,wrk,wbAt1]
  ·
   skip
   rw [wbAt3]
   simp only [go_sem,intS,Int.reduceLT,Int.reduceLE,Int.reduceToNat,Int.reduceAdd,frz,cWo,cWd]
   refine ops_call (.pure acts_meets) ?_
   simp only [go_sem,intS,Int.reduceLT,Int.reduceLE,Int.reduceToNat,Int.reduceAdd,frz,wbA,cWo,cWd,cAct,List.length_cons,List.length_nil]
   refine ops_call (.pure acts_meets) ?_
   simp only [go_sem,intS,Int.reduceLT,Int.reduceLE,Int.reduceToNat,Int.reduceAdd,frz,wbA,cWo,cWd,cAct,List.length_cons,List.length_nil]
   refine ops_call (.pureE d4 (by simp [go_sem,cWo,cWd,cAct])) ?_
   simp only [go_sem,intS,Int.reduceLT,Int.reduceLE,Int.reduceToNat,Int.reduceAdd,frz,cWo,cWd,wrk]
   repeat refine ⟨rfl,?_⟩
   refine ⟨by simp,2,by omega,?_⟩
   simp [trim_mk,go_sem,subHeap,renObj,renCell,renLeaf,pos,List.range_succ,cWo,cWd,wrk,wbAt2]
  ·
   skip
   rw [wbAt4]
   simp only [go_sem,intS,Int.reduceLT,Int.reduceLE,Int.reduceToNat,Int.reduceAdd,frz,cWo,cWd]
   refine ops_call (.pure acts_meets) ?_
   simp only [go_sem,intS,Int.reduceLT,Int.reduceLE,Int.reduceToNat,Int.reduceAdd,frz,wbA,cWo,cWd,cAct,List.length_cons,List.length_nil]
   refine ops_call (.pure acts_meets) ?_
   simp only [go_sem,intS,Int.reduceLT,Int.reduceLE,Int.reduceToNat,Int.reduceAdd,frz,wbA,cWo,cWd,cAct,List.length_cons,List.length_nil]
   refine ops_call (.pureE d3 (by simp [go_sem,cWo,cWd,cAct])) ?_
   simp only [go_sem,intS,Int.reduceLT,Int.reduceLE,Int.reduceToNat,Int.reduceAdd,frz,cWo,cWd,wrk]
   repeat refine ⟨rfl,?_⟩
   refine ⟨by simp,3,by omega,?_⟩
   simp [trim_mk,go_sem,subHeap,renObj,renCell,renLeaf,pos,List.range_succ,cWo,cWd,wrk,wbAt3]
  ·
   skip
   rw [wbAt5]
   simp only [go_sem,intS,Int.reduceLT,Int.reduceLE,Int.reduceToNat,Int.reduceAdd,frz,cWo,cWd]
   refine ops_call (.pure acts_meets) ?_
   simp only [go_sem,intS,Int.reduceLT,Int.reduceLE,Int.reduceToNat,Int.reduceAdd,frz,wbA,cWo,cWd,cAct,List.length_cons,List.length_nil]
   refine ops_call (.pure acts_meets) ?_
   simp only [go_sem,intS,Int.reduceLT,Int.reduceLE,Int.reduceToNat,Int.reduceAdd,frz,wbA,cWo,cWd,cAct,List.length_cons,List.length_nil]
   refine ops_call (.pureE d2 (by simp [go_sem,cWo,cWd,cAct])) ?_
   simp only [go_sem,intS,Int.reduceLT,Int.reduceLE,Int.reduceToNat,Int.reduceAdd,frz,cWo,cWd,wrk]
   repeat refine ⟨rfl,?_⟩
   refine ⟨by simp,4,by omega,?_⟩
   simp [trim_mk,go_sem,subHeap,renObj,renCell,renLeaf,pos,List.range_succ,cWo,cWd,wrk,wbAt4]
  ·
   skip
   rw [wbAt6]
   simp only [go_sem,intS,Int.reduceLT,Int.reduceLE,Int.reduceToNat,Int.reduceAdd,frz,cWo,cWd]
   refine ops_call (.pure acts_meets) ?_
   simp only [go_sem,intS,Int.reduceLT,Int.reduceLE,Int.reduceToNat,Int.reduceAdd,frz,wbA,cWo,cWd,cAct,List.length_cons,List.length_nil]
   refine ops_call (.pure acts_meets) ?_
   simp only [go_sem,intS,Int.reduceLT,Int.reduceLE,Int.reduceToNat,Int.reduceAdd,frz,wbA,cWo,cWd,cAct,List.length_cons,List.length_nil]
   refine ops_call (.pureE d1 (by simp [go_sem,cWo,cWd,cAct])) ?_
   simp only [go_sem,intS,Int.reduceLT,Int.reduceLE,Int.reduceToNat,Int.reduceAdd,frz,cWo,cWd,wrk]
   repeat refine ⟨rfl,?_⟩
   refine ⟨by simp,5,by omega,?_⟩
   simp [trim_mk,go_sem,subHeap,renObj,renCell,renLeaf,pos,List.range_succ,cWo,cWd,wrk,wbAt5]
end Go.Proofs.YtfdolehffjmdmaaGreatDoor
/- FoldTells,as a contract. -/
namespace Go.Proofs.YtfdolehffjmdmaaGreatDoor
set_option linter.unusedSimpArgs false
set_option linter.unusedVariables false
open Go.RowKit
def entsF:List Entry := [e0,e1,e2,e3]
theorem ents_check:checkLog entsF=0:=by decide +kernel
theorem ents_map:mapR entsF 3 = [(⟨#[97]⟩,[⟨#[121]⟩]),(⟨#[98]⟩,[⟨#[122]⟩])]:=by decide +kernel
theorem ents_raw:rawL entsF 3 = [(⟨#[97]⟩,[⟨#[121]⟩]),(⟨#[98]⟩,[⟨#[122]⟩])]:=by rw [← raw_map (log_ok.1 ents_check),ents_map]
end Go.Proofs.YtfdolehffjmdmaaGreatDoor
/- What must be in any case of desks. -/
namespace Go.Proofs.YtfdolehffjmdmaaGreatDoor
set_option linter.unusedSimpArgs false
set_option linter.unusedVariables false
open Go.RowKit
def acL:List Ac := [(1,0,0,1,wbT1),(1,1,0,1,wbT2),(2,1,0,0,⟨#[]⟩),(3,0,0,0,⟨#[]⟩),(1,1,0,1,wbT3),(2,0,0,0,⟨#[]⟩)]
theorem acL_rows:wbA=acL.map cAc:=rfl
theorem ac1:runStep (wNew,[]) (1,0,0,1,wbT1)=(wbW1,[0]):=by
 have e:acErr wNew (1,0,0,1,wbT1)=0:=wb_y1
 rw [runStep,e,acW,if_pos e,doW_app (w:=wNew) (e:=wa1) wb_a1]; rfl
theorem ac2:runStep (wbW1,[0]) (1,1,0,1,wbT2)=(wbW2,[0,0]):=by
 have e:acErr wbW1 (1,1,0,1,wbT2)=0:=wb_y2
 rw [runStep,e,acW,if_pos e,doW_app (w:=wbW1) (e:=wb1) wb_a2]; rfl
theorem ac3:runStep (wbW2,[0,0]) (2,1,0,0,⟨#[]⟩)=(wbW3,[0,0,0]):=by
 have e:acErr wbW2 (2,1,0,0,⟨#[]⟩)=0:=wb_y3
 rw [runStep,e,acW,if_pos e]
 show (doW wbW2 2 1 0 0 ⟨#[]⟩,_)=_
 rw [wb_z3]; rfl
theorem ac4:runStep (wbW3,[0,0,0]) (3,0,0,0,⟨#[]⟩)=(wbW4,[0,0,0,0]):=by
 have e:acErr wbW3 (3,0,0,0,⟨#[]⟩)=0:=wb_y4
 rw [runStep,e,acW,if_pos e]
 show (doW wbW3 3 0 0 0 ⟨#[]⟩,_)=_
 rw [wb_z4]; rfl
theorem ac5:runStep (wbW4,[0,0,0,0]) (1,1,0,1,wbT3)=(wbW5,[0,0,0,0,0]):=by
 have e:acErr wbW4 (1,1,0,1,wbT3)=0:=wb_y5
 rw [runStep,e,acW,if_pos e,doW_app (w:=wbW4) (e:=wb2) wb_a3]; rfl
theorem ac6:runStep (wbW5,[0,0,0,0,0]) (2,0,0,0,⟨#[]⟩)=(wbW6,[0,0,0,0,0,0]):=by
 have e:acErr wbW5 (2,0,0,0,⟨#[]⟩)=0:=wb_y6
 rw [runStep,e,acW,if_pos e]
 show (doW wbW5 2 0 0 0 ⟨#[]⟩,_)=_
 rw [wb_z6]; rfl
theorem acL_run:runW acL=(wbW6,[0,0,0,0,0,0]):=by
 rw [runW,acL,List.foldl_cons,ac1,List.foldl_cons,ac2,List.foldl_cons,ac3,List.foldl_cons,ac4,List.foldl_cons,ac5,List.foldl_cons,ac6]; rfl
theorem sameT_map {p q:List Entry} {c:Int} (hp:LogOk p) (hq:LogOk q):sameT p q c=decide (wrL (mapR p c)=wrL (mapR q c)):=by
 rw [sameT,raw_map hp,raw_map hq]
theorem same6:sameOf wbW6.ss wbW6.ys 1=false∧sameErr wbW6.ss wbW6.ys 1=0:=by
 have e:sameErr wbW6.ss wbW6.ys 1=0:=by decide +kernel
 refine ⟨?_,e⟩
 rw [sameOf,if_pos e]
 show sameT wbW6.p wbW6.q 1=false
 rw [sameT_map (log_ok.1 (by decide +kernel)) (log_ok.1 (by decide +kernel))]
 decide +kernel
theorem wbS_ok:WoOk wbS:=by rw [← wb_s]; exact (stW_ok wb_ok6).1
theorem sameS:sameOf wbS.ss wbS.ys 1=true∧sameErr wbS.ss wbS.ys 1=0:=by
 have e:sameErr wbS.ss wbS.ys 1=0:=by decide +kernel
 refine ⟨?_,e⟩
 rw [sameOf,if_pos e]
 show sameT wbS.p wbS.q 1=true
 rw [sameT_map (log_ok.1 (by decide +kernel)) (log_ok.1 (by decide +kernel))]
 decide +kernel
theorem ents_text:textL entsF 3=⟨#[97,61,121,59,98,61,122,59]⟩:=by
 have e:mapErr entsF 3=0:=by decide +kernel
 rw [textL,if_pos e,ents_raw]
 decide +kernel
set_option maxRecDepth 20000 in
set_option maxHeartbeats 4000000 in
theorem deskBegun_meets:Meets Tryz.prog 31 [] [] (.bool true) []:=by
 have h1:=run_meets acL (by decide)
 rw [if_neg (by decide),acL_run] at h1
 have h2:=text_meets entsF 3 (by decide)
 have hme:mapErr entsF 3=0:=by decide +kernel
 rw [ents_text,hme] at h2
 obtain ⟨o1,o2⟩:=okSs_of wb_ok6
 have h3:=same_meets wbW6.ss wbW6.ys 1 (by simp [Wo.ss]) (by simp [Wo.ys]) o1 o2
 rw [same6.1,same6.2] at h3
 have h4:=settle_ok wbW6 wb_ok6
 rw [wb_s] at h4
 obtain ⟨o3,o4⟩:=okSs_of wbS_ok
 have h5:=same_meets wbS.ss wbS.ys 1 (by simp [Wo.ss]) (by simp [Wo.ys]) o3 o4
 rw [sameS.1,sameS.2] at h5
 have hac:=acts_meets
 rw [acL_rows] at hac
 refine Meets.of_walk Tryz.func31 Tryz.ntmps31 low31 res31 (by simp) fun x hx=>?_
 simp only [go_sem,L31,R31]
 refine ops_call (.pure hac) ?_
 simp only [go_sem]
 refine ops_call (.pureE h1 (by simp [go_sem])) ?_
 simp only [go_sem,intS,Int.reduceLT,Int.reduceLE,Int.reduceToNat,Int.reduceAdd,frz,cWo,cWd]
 refine ops_call (.pure entries_meets) ?_
 simp only [go_sem,intS,Int.reduceLT,Int.reduceLE,Int.reduceToNat,Int.reduceAdd,frz]
 refine ops_call (.pureE h2 (by simp [go_sem,entsF])) ?_
 simp only [go_sem,intS,Int.reduceLT,Int.reduceLE,Int.reduceToNat,Int.reduceAdd,frz,cWo,cWd]
 refine ops_call (.pureE h3 (by simp [go_sem,cWd])) ?_
 simp only [go_sem,intS,Int.reduceLT,Int.reduceLE,Int.reduceToNat,Int.reduceAdd,frz,cWo,cWd]
 refine ops_call (.pureE h4 (by simp [go_sem,cWo,cWd])) ?_
 simp only [go_sem,intS,Int.reduceLT,Int.reduceLE,Int.reduceToNat,Int.reduceAdd,frz,cWo,cWd]
 refine ops_call (.pureE h5 (by simp [go_sem,cWd])) ?_
 have hb:((⟨#[97,61,121,59,98,61,122,59]⟩:ByteArray)=⟨#[97,61,121,59,98,61,122,59]⟩)=True:=eq_self _
 simp only [go_sem,intS,Int.reduceLT,Int.reduceLE,Int.reduceToNat,Int.reduceAdd,frz,cWo,cWd,hb,List.map_cons,List.map_nil,List.length_cons,List.length_nil,decide_true]
 refine ret_pure hx ?_
 simp [go_sem,L31,R31]
end Go.Proofs.YtfdolehffjmdmaaGreatDoor
/- DeskRuns,as a contract. -/
namespace Go.Proofs.YtfdolehffjmdmaaGreatDoor
set_option linter.unusedSimpArgs false
set_option linter.unusedVariables false
open Go.RowKit
theorem nth_appL {α:Type} [Inhabited α] {a b:List α} {k:Nat} (h:k < a.length):nth (a ++ b) k=nth a k:=by
 rw [nth_eq _ _ h,nth_eq _ _ (by simp; omega),List.getElem_append_left h]
theorem nth_appE {α:Type} [Inhabited α] {a:List α} {x:α} {k:Nat} (h:a.length=k):nth (a ++ [x]) k=x:=by
 subst h; simp [nth]
theorem run_get (l:List Ac) {k:Nat}:∀ j,k < j→j≤l.length→nth (runW (l.take j)).2 k=acErr (runW (l.take k)).1 (nth l k)
 | 0,h,_=>by omega
 | j + 1,h,hj=>by
  obtain ⟨-,hz⟩:=run_ok l j (by omega)
  rw [run_take (by omega)]
  by_cases e:k=j
  ·
   subst e
   rw [runStep,nth_appE hz]
  ·
   have ih:=run_get l (k:=k) j (by omega) (by omega)
   rw [runStep,nth_appL (a:=(runW (l.take j)).2) (by omega),ih]
set_option maxRecDepth 20000 in
set_option maxHeartbeats 4000000 in
theorem deskRuns_meets (l:List Ac) (hl:l.length≤9223372036854775806):Meets Tryz.prog 8 [.list (l.map cAc)] [] (.bool true) []:=by
 have hrun:=run_meets l hl
 refine Meets.of_walk Tryz.func8 Tryz.ntmps8 low8 res8 (by simp) fun x hx=>?_
 simp only [go_sem,L8,R8]
 by_cases h40:40 < l.length
 ·
  rw [if_pos h40] at hrun
  have h40':(40:Int) < (l.length:Int):=by omega
  refine ops_call (.pureE hrun (by simp [go_sem])) ?_
  simp only [go_sem,cWoN]
  refine ops_call (.pure deskBegun_meets) ?_
  simp only [go_sem]
  refine ops_call (.pure worldBegun_meets) ?_
  simp only [go_sem,intS,Int.reduceLT,Int.reduceLE,Int.reduceToNat,Int.reduceAdd,frz,h40',List.length_nil,decide_true]
  refine ret_pure hx ?_
  simp [go_sem,L8,R8]
 ·
  rw [if_neg h40] at hrun
  obtain ⟨hwok,hzl⟩:=run_ok l l.length (Nat.le_refl _)
  have hget:=fun k hk=>run_get l (k:=k) l.length hk (Nat.le_refl _)
  rw [List.take_length] at hwok hzl hget
  obtain ⟨o1,o2⟩:=okSs_of hwok
  have hsame:=sameWorld_meets (runW l).1.ss (runW l).1.ys (by simp [Wo.ss]) (by simp [Wo.ys]) o1 o2
  refine ops_call (.pureE hrun (by simp [go_sem])) ?_
  simp only [go_sem,cWo,cWd]
  refine ops_call (.pure deskBegun_meets) ?_
  simp only [go_sem]
  refine ops_call (.pure worldBegun_meets) ?_
  simp only [go_sem,intS,Int.reduceLT,Int.reduceLE,Int.reduceToNat,Int.reduceAdd,frz]
  refine ops_call (.pure woNew_meets) ?_
  simp only [go_sem,intS,Int.reduceLT,Int.reduceLE,Int.reduceToNat,Int.reduceAdd,frz,cWo,cWd]
  refine loop_inv [0,3,4,6,7] 2 (fun q st=>∃ k:Nat,k + q=l.length ∧
   st=⟨mkE .top [(0,.list (l.map cAc)),(3,.ptr 0 0),(4,.list ((runW l).2.map cInt)),(6,.ptr 1 0),(7,.int .i64 k)],[.box (cWo (runW l).1),.box (cWo (runW (l.take k)).1)]⟩) l.length (by simp [hx]) (by simp) ?_ ?_
  ·
   refine ⟨0,by omega,?_⟩
   simp [trim_mk,go_sem,subHeap,renObj,renCell,renLeaf,pos,List.range_succ,cWo,cWd,runW]
  ·
   rintro q st ⟨k,hk,rfl⟩
   by_cases hlt:k < l.length
   ·
    have hga:l[k]? = some (nth l k):=nth_get? _ _ hlt
    have hlz:k < (runW l).2.length:=by omega
    have hgd:(runW l).2[k]? = some (nth (runW l).2 k):=nth_get? _ _ hlz
    have hgk:=hget k hlt
    have wk:=i64_up (k:=k) (by omega)
    obtain ⟨hw,hz⟩:=run_ok l k (by omega)
    have hst:=run_take hlt
    have hkl:¬ ((runW l).2.length≤k):=by omega
    rw [hgk] at hgd
    generalize nth l k=a at *
    generalize runW (l.take k)=r at *
    obtain ⟨w,es⟩:=r
    obtain ⟨ak,ai,an,ac,at_⟩:=a
    simp only at hw hz hgd
    have hdo:=woDo_ok w hw ak ai an ac at_
    have q1:acErr w (ak,ai,an,ac,at_)=doErr w ak ai an ac at_:=rfl
    rw [q1] at hgd
    simp only [go_sem,intS,Int.reduceLT,Int.reduceLE,Int.reduceToNat,Int.reduceAdd,frz,hlt,hga,cAc,cAct,cWo,cWd]
    refine ops_call (.pureE hdo (by simp [go_sem,cWo,cWd,cAct])) ?_
    by_cases he:doErr w ak ai an ac at_=0
    ·
     have q2:acW w (ak,ai,an,ac,at_)=doW w ak ai an ac at_:=by rw [acW,q1,if_pos he]
     rw [he] at hgd
     rw [doC,if_pos he,he]
     simp only [go_sem,intS,Int.reduceLT,Int.reduceLE,Int.reduceToNat,Int.reduceAdd,frz,cWo,cWd]
     repeat refine ⟨rfl,?_⟩
     simp only [go_sem,intS,Int.reduceLT,Int.reduceLE,Int.reduceToNat,Int.reduceAdd,frz,hkl,hlz,hgd,cInt,wk]
     refine ⟨by simp,q - 1,by omega,k + 1,by omega,?_⟩
     rw [hst]
     simp [trim_mk,go_sem,subHeap,renObj,renCell,renLeaf,pos,List.range_succ,runStep,q2,cWo,cWd]
    ·
     have q2:acW w (ak,ai,an,ac,at_)=w:=by rw [acW,q1,if_neg he]
     rw [doC,if_neg he]
     simp only [go_sem,intS,Int.reduceLT,Int.reduceLE,Int.reduceToNat,Int.reduceAdd,frz,cWoN]
     repeat refine ⟨rfl,?_⟩
     simp only [go_sem,intS,Int.reduceLT,Int.reduceLE,Int.reduceToNat,Int.reduceAdd,frz,hkl,hlz,hgd,he,cInt,wk]
     refine ⟨by simp,q - 1,by omega,k + 1,by omega,?_⟩
     rw [hst]
     simp [trim_mk,go_sem,subHeap,renObj,renCell,renLeaf,pos,List.range_succ,runStep,q2,cWo,cWd]
   ·
    have:l.take k=l:=List.take_of_length_le (by omega)
    have hzi:((runW l).2.length:Int)=(l.length:Int):=by omega
    rw [this]
    simp only [go_sem,intS,Int.reduceLT,Int.reduceLE,Int.reduceToNat,Int.reduceAdd,frz,hlt,hzi,cWo,cWd]
    refine ops_call (.pureE hsame (by simp [go_sem,cWo,cWd])) ?_
    simp only [go_sem]
    refine ret_pure hx ?_
    simp [go_sem,L8,R8]
end Go.Proofs.YtfdolehffjmdmaaGreatDoor
/- From an argument's reading as data to what the walks ask of memory; and from a walk that ends in 'true' to a law's statement. -/
namespace Go.Proofs.YtfdolehffjmdmaaGreatDoor
open Go.RowKit Go.ChangeShapes Go.WideShapes Go.ChangeAt
section
variable {H:Type} {enc:TypeId × Value→H} {P:Program} {w:World} {sp:Nat→Bool} {held:Bool}
theorem trodAll_stays (hl : laidOutB P = true) {W W' : World} (hb : Below W.heap.size W W') : ∀ {ts : List TypeId} {vs : List Value} {ds : List (DataW H)} {ps : List MemPlace},
    (∀ t ∈ ts,P.readableRec t=true∧t < P.types.size)→(∀ x ∈ ps,x.block < W.heap.size)→DataW.TrodAll enc P W 0 (fun _=>true) true ts vs ds ps→DataW.TrodAll enc P W' 0 (fun b=>decide (b < W.heap.size)) true ts vs ds ps
  | [],[],[],_,_,_,h=>h
  | t :: ts,v :: vs,d :: ds,_,hr,hlt,h=>by
    obtain ⟨p,q,h1,h2,rfl⟩:=h
    refine ⟨p,q,Below.trod hl (hr t (by simp)).1 (hr t (by simp)).2 h1 hb (fun x hx=>hlt x (by simp [hx])),trodAll_stays hl hb (fun t' ht=>hr t' (by simp [ht])) (fun x hx=>hlt x (by simp [hx])) h2,rfl⟩
  | [],[],_ :: _,_,_,_,h=>h.elim
  | [],_ :: _,_,_,_,_,h=>by cases h
  | _ :: _,[],_,_,_,_,h=>by cases h
  | _ :: _,_ :: _,[],_,_,_,h=>h.elim
theorem law_post {f : Func} {s : ChangeSpec} {apart : Bool} {W W' : World} {args : Array Value} {ds gs : List (DataW H)} {before : List MemPlace} {tb : TypeId}
    (hl:laidOutB P=true) (hpar:∀ t ∈ f.params.toList,P.readableRec t=true∧t < P.types.size) (hres:f.resultTypes=#[tb]) (hub:P.underlying tb=some .bool) (hvars:s.vars = [])
    (hW:DataW.Whole enc P f.params.toList s.vars apart W args.toList ds gs before)
    (hs:s.fn H (ds ++ gs) = { results := [.lit (.bool true)],args:=ds }) (hb:Below W.heap.size W W'):s.post enc P f apart true false false W args (.bool true) W':=by
  have hlt:=hW.lt
  have hW':=hW
  obtain ⟨p,q,hA,hV,rfl,hfz,hnd⟩:=hW
  rw [hvars] at hV
  have hq:gs = []∧q = []:=by
    cases gs with
    | nil=>exact ⟨rfl,hV⟩
    | cons g gs=>exact hV.elim
  obtain ⟨rfl,rfl⟩:=hq
  refine ⟨ds,[],_,[],p,[],hW',?_,?_,?_,hb.frame _,fun h=>by cases h⟩
  · rw [hs,hres]
    exact trodAll_mk1 (shut_bool hub true)
  · rw [hs]
    exact trodAll_stays hl hb hpar (fun x hx=>hlt x (by simp [hx])) hA
  · rw [hs,hvars]
    rfl
theorem parsOf {ts:List TypeId} (h:(ts.all fun t=>P.readableRec t && decide (t < P.types.size))=true):∀ t ∈ ts,P.readableRec t=true∧t < P.types.size:=by
 intro t ht
 have:=List.all_eq_true.1 h t ht
 simpa only [Bool.and_eq_true,decide_eq_true_eq] using this
end
def I64 (n:Int):Prop := -9223372036854775808≤n∧n≤9223372036854775807
theorem i64_of_wf {n:Int} (h:(Lit.int .i64 n).wf=true):I64 n:=by simpa [Lit.wf,IntKind.min,IntKind.max,IntKind.signed,IntKind.bits,I64] using h
section
variable {H:Type} {enc:TypeId × Value→H} {w:World} {sp:Nat→Bool} {held:Bool}
theorem lawOwn:ownKnob Tryz.prog.godebug=none:=by kernel_rfl
theorem lawLaid:laidOutB Tryz.prog=true:=by kernel_rfl
theorem lawBool:Tryz.prog.underlying 4=some .bool:=by kernel_rfl
theorem undInt':Tryz.prog.underlying 3=some (.int .i64):=by kernel_rfl
theorem cellsInt:Tryz.prog.cellsOf 3=1:=by kernel_rfl
end
end Go.Proofs.YtfdolehffjmdmaaGreatDoor
