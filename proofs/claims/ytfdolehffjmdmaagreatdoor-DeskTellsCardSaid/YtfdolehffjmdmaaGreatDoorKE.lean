/- Joined texts of this claim: D12 D13 D14 D15 T1 T2 T3 T4 T5 T6 T7 E7 L7 L8 L10 T8 T9 T10 T11 V1 V2 V3 V4. -/
import Derived.Test.YtfdolehffjmdmaaGreatDoorKD
import Derived.Test.YtfdolehffjmdmaaGreatDoorKC
import Derived.Test.YtfdolehffjmdmaaGreatDoorKB
set_option linter.unusedSimpArgs false
set_option linter.unusedVariables false
set_option linter.unusedSectionVars false
/- Orders: contracts. -/
namespace Go.Proofs.YtfdolehffjmdmaaGreatDoor
set_option linter.unusedSimpArgs false
set_option linter.unusedVariables false
open Go.RowKit
structure SomeOk (l:List Entry) (ids:List Id):Prop where
 there:∀ x ∈ ids,0≤findE l x
 once:ids.Nodup
end Go.Proofs.YtfdolehffjmdmaaGreatDoor
/- order.Begun,Is,More,First: contracts. -/
namespace Go.Proofs.YtfdolehffjmdmaaGreatDoor
set_option linter.unusedSimpArgs false
set_option linter.unusedVariables false
open Go.RowKit
end Go.Proofs.YtfdolehffjmdmaaGreatDoor
/- Orders in the law text's words: contracts. -/
namespace Go.Proofs.YtfdolehffjmdmaaGreatDoor
set_option linter.unusedSimpArgs false
set_option linter.unusedVariables false
open Go.RowKit
theorem nthM {α:Type} [Inhabited α] {l:List α} {k:Nat} (h:k < l.length):nth l k ∈ l:=by rw [nth_eq _ _ h]; exact List.getElem_mem h
end Go.Proofs.YtfdolehffjmdmaaGreatDoor
/- All that comes,in the law text's words: a contract. -/
namespace Go.Proofs.YtfdolehffjmdmaaGreatDoor
set_option linter.unusedSimpArgs false
set_option linter.unusedVariables false
open Go.RowKit
end Go.Proofs.YtfdolehffjmdmaaGreatDoor
/- Sites: copies of one's own,those that wait and are ready: contracts. -/
namespace Go.Proofs.YtfdolehffjmdmaaGreatDoor
set_option linter.unusedSimpArgs false
set_option linter.unusedVariables false
open Go.RowKit
def cSi (r:Int) (lg ws:List Entry):List PV := [.int .i64 r,.list (lg.map cE),.list (ws.map cE)]
def fitE (l:List Entry):Prop:=∀ e ∈ l,(e.id.r=0∨e.id.r=1)∧e.ls.length≤1000000
theorem fit_reg {l:List Entry} (h:fitE l):okReg l:=fun e he=>(h e he).1
theorem insIdx_mapE {α β:Type} (f:α→β) (w:α):∀ (ws:List α) (i:Nat),(ws.map f).insertIdx i (f w)=(ws.insertIdx i w).map f
 | [],0=>rfl
 | [],_ + 1=>rfl
 | _ :: _,0=>rfl
 | y :: ws,i + 1=>by
  simp only [List.map_cons,List.insertIdx_succ_cons]
  rw [insIdx_mapE f w ws i]
theorem eraseIdx_mapE {α β:Type} (f:α→β):∀ (ws:List α) (i:Nat),(ws.map f).eraseIdx i=(ws.eraseIdx i).map f
 | [],_=>rfl
 | _ :: _,0=>rfl
 | y :: ws,i + 1=>by
  simp only [List.map_cons,List.eraseIdx_cons_succ]
  rw [eraseIdx_mapE f ws i]
theorem entOwn_meets (e:Entry) (hb:e.ls.length≤1000000):Meets Tryz.prog 113 [.agg (cE e)] [] (.agg (cE e)) []:=by
 refine Meets.of_walk Tryz.func113 Tryz.ntmps113 low113 res113 (by simp) fun x hx=>?_
 simp only [go_sem,L113,R113,cE]
 refine ops_call (.pureE (cloneI_meets e.ls (by omega)) (by simp [go_sem])) ?_
 simp only [go_sem,cE]
 refine ret_pure hx ?_
 simp [go_sem,L113,R113,cE]
theorem siEntries_meets (l:List Entry) (hl:l.length≤1000000) (hf:fitE l):Meets Tryz.prog 145 [.list (l.map cE)] [] (.arr 0 l.length) [.arr l.length true false 46 5 (l.map cE)]:=by
 refine Meets.of_walk Tryz.func145 Tryz.ntmps145 low145 res145 (by simp) fun x hx=>?_
 simp only [go_sem,L145,R145]
 refine W_weak (weak_own 3 0 46 5 true false rfl (by omega)) ?_
 rw [put_mk]
 refine loop_inv [3,6,7,8] 1 (fun m st=>∃ k:Nat,k + m=l.length ∧
  st=⟨mkE .top [(3,.arr 0 k),(6,.list (l.map cE)),(7,.int .i64 l.length),(8,.int .i64 k)],[.arr k true false 46 5 ((l.take k).map cE)]⟩) l.length (by simp [hx]) (by simp) ?_ ?_
 ·
  refine ⟨0,by omega,?_⟩
  simp [trim_mk,go_sem,subHeap,renObj,pos,List.range_succ]
 ·
  rintro m st ⟨k,hk,rfl⟩
  by_cases hlt:k < l.length
  ·
   have hg:l[k]? = some (nth l k):=nth_get? _ _ hlt
   have wk:=i64_up (k:=k) (by omega)
   simp only [go_sem,hlt,hg,cE]
   refine ops_call (.pureE (entOwn_meets (nth l k) (hf _ (nthM hlt)).2) (by simp [go_sem,cE])) ?_
   simp only [go_sem,cE]
   rw [app_arr rfl rfl (by simp) (by simp; omega)]
   simp only [go_sem,wk]
   have htk:l.take (k + 1)=l.take k ++ [nth l k]:=by rw [List.take_succ_eq_append_getElem hlt,nth_eq _ _ hlt]
   refine ⟨by simp,m - 1,by omega,k + 1,by omega,?_⟩
   simp [trim_mk,go_sem,subHeap,renObj,pos,List.range_succ,htk,cE]
  ·
   obtain rfl:k=l.length:=by omega
   rw [List.take_length]
   simp only [go_sem,hlt]
   refine ret_keep [0] (by simp) (by simp [hx]) (by simp [hx]) ?_ ?_
   ·
    simp [go_sem,L145,R145,hx,pos]
   ·
    simp [subHeap,renObj,hx,pos]
theorem siOwn_meets (r : Int) (lg ws : List Entry) (h1 : lg.length ≤ 1000000) (h2 : ws.length ≤ 1000000) (hf1 : fitE lg) (hf2 : fitE ws) : Meets Tryz.prog 111 [.agg (cSi r lg ws)] [] (.agg [.int .i64 r, .arr 0 lg.length, .arr 1 ws.length])
    [.arr lg.length true false 46 5 (lg.map cE),.arr ws.length true false 46 5 (ws.map cE)]:=by
  refine Meets.of_walk Tryz.func111 Tryz.ntmps111 low111 res111 (by simp) fun x hx=>?_
  simp only [go_sem,L111,R111,cSi]
  refine ops_call2 (r := .arr 2 lg.length) (siEntries_meets lg h1 hf1) rfl rfl (by simp [go_sem]) rfl ?_
  simp only [go_sem,cSi]
  refine ops_call2 (r := .arr 3 ws.length) (siEntries_meets ws h2 hf2) rfl rfl (by simp [go_sem]) rfl ?_
  simp only [go_sem,cSi]
  repeat refine ⟨rfl,?_⟩
  refine ret_keep [2,3] (by simp) (by simp [hx]) (by simp [hx]) ?_ ?_
  · simp [go_sem,L111,R111,hx,pos]
  · simp [subHeap,renObj,hx,pos,go_sem]
def hSi (a b:Nat) (r:Int) (lg ws:List Entry):List AObj := [.box [.int .i64 r,.arr 1 a,.arr 2 b],.arr a true false 46 5 (lg.map cE),.arr b true false 46 5 (ws.map cE)]
def rdyI (lg ws:List Entry):Int:=idxF (readyB lg) ws 0
def settleN:Nat→List Entry→List Entry→List Entry × List Entry
 | 0,lg,ws=>(lg,ws)
 | k + 1,lg,ws=>if 0≤rdyI lg ws then settleN k (lg ++ [nth ws (rdyI lg ws).toNat]) (ws.eraseIdx (rdyI lg ws).toNat) else (lg,ws)
def settled (lg ws:List Entry):List Entry × List Entry:=settleN ws.length lg ws
theorem rdyI_lt {lg ws:List Entry} (h:0≤rdyI lg ws):(rdyI lg ws).toNat < ws.length:=by
 have h2:∀ (l:List Entry) (k:Nat),(k:Int)≤idxF (readyB lg) l k→idxF (readyB lg) l k < (k + l.length:Nat):=by
  intro l
  induction l with
  | nil=>intro k hk; simp [idxF] at hk; omega
  | cons e l ih =>
   intro k hk
   rw [idxF] at hk ⊢
   split
   ·
    simp; omega
   ·
    rename_i h0
    rw [if_neg h0] at hk
    rcases idxF_ge (readyB lg) l (k + 1) with ⟨a,-⟩ | ⟨a,-⟩
    ·
     rw [a] at hk; omega
    ·
     have:=ih (k + 1) a
     simp only [List.length_cons]
     omega
 have:=h2 ws 0 (by simpa [rdyI] using h)
 simp only [Nat.zero_add] at this
 unfold rdyI at h ⊢
 omega
theorem settled_step {lg ws:List Entry} (h:0≤rdyI lg ws):settled lg ws=settled (lg ++ [nth ws (rdyI lg ws).toNat]) (ws.eraseIdx (rdyI lg ws).toNat):=by
 have hl:=rdyI_lt h
 unfold settled
 rw [List.length_eraseIdx,if_pos hl]
 obtain ⟨m,hm⟩:∃ m,ws.length=m + 1:=⟨ws.length - 1,by omega⟩
 rw [hm,settleN,if_pos h,Nat.add_sub_cancel]
theorem settled_end {lg ws:List Entry} (h:¬ 0≤rdyI lg ws):settled lg ws=(lg,ws):=by
 unfold settled
 cases hl:ws.length with
 | zero=>rfl
 | succ m=>rw [settleN,if_neg h]
theorem settleN_sum:∀ (k:Nat) (lg ws:List Entry),(settleN k lg ws).1.length + (settleN k lg ws).2.length=lg.length + ws.length∧(settleN k lg ws).2.length≤ws.length
 | 0,lg,ws=>⟨rfl,Nat.le_refl _⟩
 | k + 1,lg,ws=>by
  rw [settleN]
  split
  ·
   rename_i h
   have hl:=rdyI_lt h
   obtain ⟨a,b⟩:=settleN_sum k (lg ++ [nth ws (rdyI lg ws).toNat]) (ws.eraseIdx (rdyI lg ws).toNat)
   rw [List.length_eraseIdx,if_pos hl] at a b
   simp only [List.length_append,List.length_cons,List.length_nil] at a
   omega
  ·
   exact ⟨rfl,Nat.le_refl _⟩
theorem settled_sum (lg ws:List Entry):(settled lg ws).1.length + (settled lg ws).2.length=lg.length + ws.length∧(settled lg ws).2.length≤ws.length:=settleN_sum _ _ _
theorem fit_app {lg:List Entry} {e:Entry} (h:fitE lg) (he:(e.id.r=0∨e.id.r=1)∧e.ls.length≤1000000):fitE (lg ++ [e]):=fun x hx=>by
 rcases List.mem_append.1 hx with h1 | h1
 ·
  exact h x h1
 ·
  simp at h1; subst h1; exact he
theorem fit_erase {ws:List Entry} (h:fitE ws) (i:Nat):fitE (ws.eraseIdx i):=fun x hx=>h x (List.mem_of_mem_eraseIdx hx)
theorem end_keep {x : Cx} {nt : Nat} {lrs : List LRes} {r : PV} {Hs' : List AObj} {st : St} (keep : List Nat) (hnd : keep.Nodup) (hlt : ∀ k ∈ keep, x.H0.length ≤ k ∧ k < st.heap.length) (hle : x.H0.length ≤ st.heap.length)
    (h:(evalRes st lrs).map (fun ps=>renT true (pos (List.range x.H0.length ++ keep)) (frzAt true st.heap) (tupOf ps))=some r)
    (h2:subHeap (pos (List.range x.H0.length ++ keep)) (frzAt true st.heap) st.heap (List.range x.H0.length ++ keep)=Hs'):retQ x nt lrs r Hs' .normal st:=by
  obtain ⟨ps,g1,g2⟩:=Option.map_eq_some_iff.1 h
  exact ⟨st,keep,Weak.refl _ _ _,ps,g1,hnd,hlt,hle,g2.symm,h2.symm⟩
theorem settle1_meets (r:Int) (lg ws:List Entry) (e:Entry) (hl:lg.length≤1000000) (hf:fitE lg) (he:e.id.r=0∨e.id.r=1) (hls:e.ls.length≤1000000):Meets Tryz.prog 146 [.agg (cE e),.rptr [.rptr (cSi r lg ws)]] [] (.bool (readyB lg e)) []:=by
 refine Meets.of_walk Tryz.func146 Tryz.ntmps146 low146 res146 (by simp) fun x hx=>?_
 simp only [go_sem,L146,R146,cE,cSi]
 refine ops_call (.pureE (ready_meets lg e (fit_reg hf) (by omega) he (by omega)) (by simp [go_sem,cE])) ?_
 simp only [go_sem]
 repeat refine ⟨rfl,?_⟩
 refine end_pure hx ?_
 simp [go_sem,L146,R146]
theorem rdyI_meets (r : Int) (lg ws : List Entry) (hl : lg.length ≤ 1000000) (hw : ws.length ≤ 1000000) (hf : fitE lg) (hf2 : fitE ws) :
    Meets Tryz.prog 105 [.list (ws.map cE),.clo 146 [.rptr [.rptr (cSi r lg ws)]]] [] (.int .i64 (rdyI lg ws)) [] :=
  indexE_meets ws 146 [.rptr [.rptr (cSi r lg ws)]] [] (readyB lg) (by kernel_rfl) (by omega) ⟨by simp [renLeaf],by simp [ren,renCell,renLeaf],by simp [subHeap],by simp [merge],by simp [subHeap]⟩
    fun e he=>settle1_meets r lg ws e hl hf (hf2 e he).1 (hf2 e he).2
set_option maxHeartbeats 2000000 in
theorem settle_meets (a b : Nat) (r : Int) (lg ws : List Entry) (h1 : lg.length + ws.length ≤ 1000000) (hf1 : fitE lg) (hf2 : fitE ws) :
    Meets Tryz.prog 112 [.ptr 0 0] (hSi a b r lg ws) (.tup []) (hSi (a + (ws.length - (settled lg ws).2.length)) (b + (ws.length - (settled lg ws).2.length)) r (settled lg ws).1 (settled lg ws).2):=by
  refine Meets.of_walk Tryz.func112 Tryz.ntmps112 low112 res112 (by simp) fun x hx=>?_
  simp only [go_sem,L112,R112,hSi]
  refine ops_call (.lookE (rdyI_meets r lg ws (by omega) (by omega) hf1 hf2) rfl (by simp [lookF,lookN,go_sem,frzAt,pos,cSi])) ?_
  simp only [go_sem]
  refine loop_inv [1,2,3] 4 (fun m st=>∃ (k:Nat) (us vs:List Entry),vs.length=m∧m + k=ws.length∧us.length=lg.length + k∧fitE us∧fitE vs∧settled us vs=settled lg ws ∧
    st=⟨mkE .top [(1,.ptr 3 0),(2,.clo 146 [.ptr 3 0]),(3,.int .i64 (rdyI us vs))],hSi (a + k) (b + k) r us vs ++ [.box [.ptr 0 0]]⟩) ws.length (by simp [hx,hSi]) (by simp) ?_ ?_
  · refine ⟨0,lg,ws,rfl,rfl,rfl,hf1,hf2,rfl,?_⟩
    simp [trim_mk,go_sem,subHeap,renObj,renCell,renLeaf,pos,List.range_succ,hSi]
  · rintro m st ⟨k,us,vs,hm,hmk,hul,hfu,hfv,hse,rfl⟩
    by_cases hf:0≤rdyI us vs
    · have hql:=rdyI_lt hf
      rw [settled_step hf] at hse
      obtain ⟨q,hq⟩:∃ q:Nat,rdyI us vs=q:=⟨(rdyI us vs).toNat,by omega⟩
      rw [hq,Int.toNat_natCast] at hql hse
      have hgq:vs[q]? = some (nth vs q):=nth_get? _ _ hql
      have wq:=i64_up (k:=q) (by omega)
      have hfe:=hfv _ (nthM hql)
      simp only [go_sem,hSi,hq,hql,hgq,cE]
      rw [app_arr rfl rfl (by simp) (by simp; omega)]
      have hce:List.map cE us ++ [[PV.int .i64 (nth vs q).id.r,.int .i64 (nth vs q).id.n,.int .i64 (nth vs q).c,.str (nth vs q).t,.list ((nth vs q).ls.map cId)]]=(us ++ [nth vs q]).map cE:=by simp [cE]
      simp only [go_sem,hce]
      repeat refine ⟨rfl,?_⟩
      simp only [go_sem,wq]
      refine ops_call1 2 (delE_meets (vs.map cE) (b + k) 46 q (by simpa using hql)) rfl rfl rfl rfl (by simp [go_sem]) (by simp [go_sem,pos]) rfl ?_
      rw [eraseIdx_mapE]
      have hle:(vs.eraseIdx q).length=vs.length - 1:=by rw [List.length_eraseIdx,if_pos hql]
      simp only [go_sem]
      repeat refine ⟨rfl,?_⟩
      refine ops_call (.lookE (rdyI_meets r (us ++ [nth vs q]) (vs.eraseIdx q) (by simp; omega) (by omega) (fit_app hfu hfe) (fit_erase hfv q)) rfl (by simp [lookF,lookN,go_sem,frzAt,pos,cSi])) ?_
      simp only [go_sem]
      refine ⟨by simp,m - 1,by omega,k + 1,us ++ [nth vs q],vs.eraseIdx q,by omega,by omega,by simp; omega,fit_app hfu hfe,fit_erase hfv q,hse,?_⟩
      simp [trim_mk,go_sem,subHeap,renObj,renCell,renLeaf,pos,List.range_succ,hSi,Nat.add_assoc]
    · rw [settled_end hf] at hse
      rw [← hse]
      have hk1:ws.length - vs.length=k:=by omega
      simp only [go_sem,hSi,hf,hk1]
      refine end_keep [] (by simp) (by simp) (by simp [hx,hSi]) ?_ ?_
      · simp [go_sem,L112,R112,hx,pos,hSi]
      · simp [subHeap,renObj,hx,pos,go_sem,hSi,List.range_succ]
end Go.Proofs.YtfdolehffjmdmaaGreatDoor
/- Sites: New,Check: contracts. -/
namespace Go.Proofs.YtfdolehffjmdmaaGreatDoor
set_option linter.unusedSimpArgs false
set_option linter.unusedVariables false
open Go.RowKit
def siBad (r:Int) (lg ws:List Entry) (k:Nat):Bool:=(decide (0 < k) && !lessB (nth ws (k - 1)).id (nth ws k).id) || decide ((nth ws k).id.r=r) || decide (0≤findE lg (nth ws k).id) || readyB lg (nth ws k)
def siWait (r:Int) (lg ws:List Entry) (k:Nat):Int:=if checkEntry (nth ws k)≠0 then checkEntry (nth ws k) else if siBad r lg ws k=true then 4 else 0
def siErr (r:Int) (lg ws:List Entry):Int:=if ¬ (r=0∨r=1) then 3 else if checkLog lg≠0 then checkLog lg else if 20 < ws.length then 2 else firstNZ (siWait r lg ws) ws.length
theorem siErr_ok {r:Int} {lg ws:List Entry} (h:siErr r lg ws=0):(r=0∨r=1)∧LogOk lg∧ws.length≤20∧∀ k,k < ws.length→checkEntry (nth ws k)=0∧siBad r lg ws k=false:=by
 unfold siErr at h
 split at h
 ·
  cases h
 ·
  rename_i h1
  split at h
  ·
   rename_i h2; exact (h2 h).elim
  ·
   rename_i h2
   split at h
   ·
    cases h
   ·
    rename_i h3
    refine ⟨by omega,log_ok.1 (by simpa using h2),by omega,fun k hk=>?_⟩
    have:=firstNZ_zero.1 h k hk
    unfold siWait at this
    split at this
    ·
     rename_i h4; exact (h4 this).elim
    ·
     rename_i h4
     split at this
     ·
      cases this
     ·
      rename_i h5
      exact ⟨by simpa using h4,by simpa using h5⟩
theorem check_fit {e:Entry} (h:checkEntry e=0):(e.id.r=0∨e.id.r=1)∧e.ls.length≤1000000:=by
 have:=(check_ok_bounds h).2.2.2.1
 exact ⟨reg_of_check h,by omega⟩
theorem log_fit {lg:List Entry} (h:LogOk lg):fitE lg:=fun e he=>by
 obtain ⟨k,hk,rfl⟩:=List.getElem_of_mem he
 rw [← nth_eq _ _ hk]
 exact check_fit (h.chk k hk)
theorem waits_fit {ws:List Entry} (h:∀ k,k < ws.length→checkEntry (nth ws k)=0):fitE ws:=fun e he=>by
 obtain ⟨k,hk,rfl⟩:=List.getElem_of_mem he
 rw [← nth_eq _ _ hk]
 exact check_fit (h k hk)
set_option maxHeartbeats 4000000 in
theorem siCheck_meets (r:Int) (lg ws:List Entry) (hl:lg.length≤9223372036854775806) (hw:ws.length≤9223372036854775806):Meets Tryz.prog 65 [.agg (cSi r lg ws)] [] (.int .i64 (siErr r lg ws)) []:=by
 refine Meets.of_walk Tryz.func65 Tryz.ntmps65 low65 res65 (by simp) fun x hx=>?_
 simp only [go_sem,L65,R65,cSi]
 by_cases h0:r=0
 ·
  have hr:r=0∨r=1 := .inl h0
  have hd0:decide (r=0)=true:=by simp [h0]
  have hd1:True:=trivial
  clear h0
  simp only [go_sem,hd0,hd1,cSi]
  refine ops_call (.pureE (dagCheck_meets lg hl) (by simp [go_sem])) ?_
  by_cases hlog:checkLog lg=0
  ·
   have hok:=log_ok.1 hlog
   have hlen:=hok.len
   by_cases h20:(20:Int) < (ws.length:Int)
   ·
    have e:siErr r lg ws=2:=by rw [siErr,if_neg (by simp [hr]),if_neg (by simp [hlog]),if_pos (by omega)]
    simp only [go_sem,hlog,h20,cSi]
    refine ret_pure hx ?_
    simp [go_sem,L65,R65,e]
   ·
    have e:siErr r lg ws=firstNZ (siWait r lg ws) ws.length:=by rw [siErr,if_neg (by simp [hr]),if_neg (by simp [hlog]),if_neg (by omega)]
    simp only [go_sem,hlog,h20,cSi,e]
    refine loop_inv [1,26,27,28] 1 (fun m st=>∃ k:Nat,k + m=ws.length∧firstNZ (siWait r lg ws) k=0 ∧
     st=⟨mkE .top [(1,.ptr 0 0),(26,.list (ws.map cE)),(27,.int .i64 ws.length),(28,.int .i64 k)],[.box (cSi r lg ws)]⟩) ws.length (by simp [hx]) (by simp) ?_ ?_
    ·
     refine ⟨0,by omega,rfl,?_⟩
     simp [trim_mk,go_sem,subHeap,renObj,pos,List.range_succ,cSi]
    ·
     rintro m st ⟨k,hk,hz,rfl⟩
     by_cases hlt:k < ws.length
     ·
      have hg:ws[k]? = some (nth ws k):=nth_get? _ _ hlt
      have wk:=i64_up (k:=k) (by omega)
      have fin:∀ q:Int,siWait r lg ws k=q→q≠0→firstNZ (siWait r lg ws) ws.length=q:=fun q h1 h2=>by rw [firstNZ_hit hz (by rw [h1]; exact h2) hlt,h1]
      simp only [go_sem,hlt,hg,cE,cSi]
      refine ops_call (.pureE (check_meets (nth ws k)) (by simp [go_sem,cE])) ?_
      by_cases h1:checkEntry (nth ws k)=0
      ·
       have hfit:=check_fit h1
       have hw1:siWait r lg ws k=if siBad r lg ws k=true then 4 else 0:=by rw [siWait,if_neg (by simp [h1])]
       simp only [go_sem,h1,cE,cSi]
       by_cases hk0:(0:Int) < (k:Int)
       ·
        obtain ⟨k',rfl⟩:∃ k',k=k' + 1:=⟨k - 1,by omega⟩
        have hwd:IntKind.i64.wrap (((k' + 1:Nat):Int) - 1)=(k':Int):=by rw [IntKind.wrap_i64]; omega
        have hkl:k' < ws.length:=by omega
        have hg':ws[k']? = some (nth ws k'):=nth_get? _ _ hkl
        simp only [go_sem,hk0,hwd,hkl,hg',cE,cSi]
        refine ops_call (.pureE (less_meets (nth ws k').id (nth ws (k' + 1)).id) (by simp [go_sem,cId])) ?_
        cases hle:lessB (nth ws k').id (nth ws (k' + 1)).id
        ·
         have hw2:siWait r lg ws (k' + 1)=4:=by rw [hw1,if_pos (by simp [siBad,hle])]
         simp only [go_sem]
         repeat refine ⟨rfl,?_⟩
         refine ret_pure hx ?_
         simp [go_sem,L65,R65,fin 4 hw2 (by decide)]
        ·
         have hb1:(decide (0 < k' + 1) && !lessB (nth ws (k' + 1 - 1)).id (nth ws (k' + 1)).id)=false:=by simp [hle]
         cases hd2:decide ((nth ws (k' + 1)).id.r=r)
         ·
          simp only [go_sem,hd2,cE,cSi]
          refine ops_call (.pureE (find_meets lg (nth ws (k' + 1)).id hl) (by simp [go_sem,cId])) ?_
          by_cases h3:0≤findE lg (nth ws (k' + 1)).id
          ·
           have hw2:siWait r lg ws (k' + 1)=4:=by rw [hw1,if_pos (by simp [siBad,h3])]
           simp only [go_sem,h3]
           repeat refine ⟨rfl,?_⟩
           refine ret_pure hx ?_
           simp [go_sem,L65,R65,fin 4 hw2 (by decide)]
          ·
           simp only [go_sem,h3,cE,cSi]
           refine ops_call (.pureE (ready_meets lg (nth ws (k' + 1)) hok.reg (by omega) hfit.1 (by have:=hfit.2; omega)) (by simp [go_sem,cE])) ?_
           cases h4:readyB lg (nth ws (k' + 1))
           ·
            have hw2:siWait r lg ws (k' + 1)=0:=by rw [hw1,if_neg (by rw [siBad,hb1,hd2,h4]; simp [h3])]
            simp only [go_sem,wk]
            repeat refine ⟨rfl,?_⟩
            refine ⟨by simp,m - 1,by omega,k' + 1 + 1,by omega,firstNZ_succ hz hw2,?_⟩
            simp [trim_mk,go_sem,subHeap,renObj,pos,List.range_succ,cSi]
           ·
            have hw2:siWait r lg ws (k' + 1)=4:=by rw [hw1,if_pos (by simp [siBad,h4])]
            simp only [go_sem]
            repeat refine ⟨rfl,?_⟩
            refine ret_pure hx ?_
            simp [go_sem,L65,R65,fin 4 hw2 (by decide)]
         ·
          have hw2:siWait r lg ws (k' + 1)=4:=by rw [hw1,if_pos (by simp [siBad,hd2])]
          simp only [go_sem,hd2]
          repeat refine ⟨rfl,?_⟩
          refine ret_pure hx ?_
          simp [go_sem,L65,R65,fin 4 hw2 (by decide)]
       ·
        have hkz:k=0:=by omega
        have hb1:(decide (0 < k) && !lessB (nth ws (k - 1)).id (nth ws k).id)=false:=by simp [hkz]
        simp only [go_sem,hk0,cE,cSi]
        cases hd2:decide ((nth ws (k)).id.r=r)
        ·
         simp only [go_sem,hd2,cE,cSi]
         refine ops_call (.pureE (find_meets lg (nth ws (k)).id hl) (by simp [go_sem,cId])) ?_
         by_cases h3:0≤findE lg (nth ws (k)).id
         ·
          have hw2:siWait r lg ws (k)=4:=by rw [hw1,if_pos (by simp [siBad,h3])]
          simp only [go_sem,h3]
          repeat refine ⟨rfl,?_⟩
          refine ret_pure hx ?_
          simp [go_sem,L65,R65,fin 4 hw2 (by decide)]
         ·
          simp only [go_sem,h3,cE,cSi]
          refine ops_call (.pureE (ready_meets lg (nth ws (k)) hok.reg (by omega) hfit.1 (by have:=hfit.2; omega)) (by simp [go_sem,cE])) ?_
          cases h4:readyB lg (nth ws (k))
          ·
           have hw2:siWait r lg ws (k)=0:=by rw [hw1,if_neg (by rw [siBad,hb1,hd2,h4]; simp [h3])]
           simp only [go_sem,wk]
           repeat refine ⟨rfl,?_⟩
           refine ⟨by simp,m - 1,by omega,k + 1,by omega,firstNZ_succ hz hw2,?_⟩
           simp [trim_mk,go_sem,subHeap,renObj,pos,List.range_succ,cSi]
          ·
           have hw2:siWait r lg ws (k)=4:=by rw [hw1,if_pos (by simp [siBad,h4])]
           simp only [go_sem]
           repeat refine ⟨rfl,?_⟩
           refine ret_pure hx ?_
           simp [go_sem,L65,R65,fin 4 hw2 (by decide)]
        ·
         have hw2:siWait r lg ws (k)=4:=by rw [hw1,if_pos (by simp [siBad,hd2])]
         simp only [go_sem,hd2]
         repeat refine ⟨rfl,?_⟩
         refine ret_pure hx ?_
         simp [go_sem,L65,R65,fin 4 hw2 (by decide)]
      ·
       have hw1:siWait r lg ws k=checkEntry (nth ws k):=by rw [siWait,if_pos h1]
       simp only [go_sem,h1,cE,cSi]
       refine ret_pure hx ?_
       simp [go_sem,L65,R65,fin _ hw1 h1]
     ·
      obtain rfl:k=ws.length:=by omega
      simp only [go_sem,hlt]
      refine ret_pure hx ?_
      simp [go_sem,L65,R65,hz]
  ·
   have e:siErr r lg ws=checkLog lg:=by rw [siErr,if_neg (by simp [hr]),if_pos hlog]
   simp only [go_sem,hlog]
   refine ret_pure hx ?_
   simp [go_sem,L65,R65,e]
 ·
  have hd0:decide (r=0)=false:=by simp [h0]
  by_cases h1:r=1
  ·
   have hr:r=0∨r=1 := .inr h1
   have hd1:decide (r=1)=true:=by simp [h1]
   clear h0 h1
   simp only [go_sem,hd0,hd1,cSi]
   refine ops_call (.pureE (dagCheck_meets lg hl) (by simp [go_sem])) ?_
   by_cases hlog:checkLog lg=0
   ·
    have hok:=log_ok.1 hlog
    have hlen:=hok.len
    by_cases h20:(20:Int) < (ws.length:Int)
    ·
     have e:siErr r lg ws=2:=by rw [siErr,if_neg (by simp [hr]),if_neg (by simp [hlog]),if_pos (by omega)]
     simp only [go_sem,hlog,h20,cSi]
     refine ret_pure hx ?_
     simp [go_sem,L65,R65,e]
    ·
     have e:siErr r lg ws=firstNZ (siWait r lg ws) ws.length:=by rw [siErr,if_neg (by simp [hr]),if_neg (by simp [hlog]),if_neg (by omega)]
     simp only [go_sem,hlog,h20,cSi,e]
     refine loop_inv [1,26,27,28] 1 (fun m st=>∃ k:Nat,k + m=ws.length∧firstNZ (siWait r lg ws) k=0 ∧
      st=⟨mkE .top [(1,.ptr 0 0),(26,.list (ws.map cE)),(27,.int .i64 ws.length),(28,.int .i64 k)],[.box (cSi r lg ws)]⟩) ws.length (by simp [hx]) (by simp) ?_ ?_
     ·
      refine ⟨0,by omega,rfl,?_⟩
      simp [trim_mk,go_sem,subHeap,renObj,pos,List.range_succ,cSi]
     ·
      rintro m st ⟨k,hk,hz,rfl⟩
      by_cases hlt:k < ws.length
      ·
       have hg:ws[k]? = some (nth ws k):=nth_get? _ _ hlt
       have wk:=i64_up (k:=k) (by omega)
       have fin:∀ q:Int,siWait r lg ws k=q→q≠0→firstNZ (siWait r lg ws) ws.length=q:=fun q h1 h2=>by rw [firstNZ_hit hz (by rw [h1]; exact h2) hlt,h1]
       simp only [go_sem,hlt,hg,cE,cSi]
       refine ops_call (.pureE (check_meets (nth ws k)) (by simp [go_sem,cE])) ?_
       by_cases h1:checkEntry (nth ws k)=0
       ·
        have hfit:=check_fit h1
        have hw1:siWait r lg ws k=if siBad r lg ws k=true then 4 else 0:=by rw [siWait,if_neg (by simp [h1])]
        simp only [go_sem,h1,cE,cSi]
        by_cases hk0:(0:Int) < (k:Int)
        ·
         obtain ⟨k',rfl⟩:∃ k',k=k' + 1:=⟨k - 1,by omega⟩
         have hwd:IntKind.i64.wrap (((k' + 1:Nat):Int) - 1)=(k':Int):=by rw [IntKind.wrap_i64]; omega
         have hkl:k' < ws.length:=by omega
         have hg':ws[k']? = some (nth ws k'):=nth_get? _ _ hkl
         simp only [go_sem,hk0,hwd,hkl,hg',cE,cSi]
         refine ops_call (.pureE (less_meets (nth ws k').id (nth ws (k' + 1)).id) (by simp [go_sem,cId])) ?_
         cases hle:lessB (nth ws k').id (nth ws (k' + 1)).id
         ·
          have hw2:siWait r lg ws (k' + 1)=4:=by rw [hw1,if_pos (by simp [siBad,hle])]
          simp only [go_sem]
          repeat refine ⟨rfl,?_⟩
          refine ret_pure hx ?_
          simp [go_sem,L65,R65,fin 4 hw2 (by decide)]
         ·
          have hb1:(decide (0 < k' + 1) && !lessB (nth ws (k' + 1 - 1)).id (nth ws (k' + 1)).id)=false:=by simp [hle]
          cases hd2:decide ((nth ws (k' + 1)).id.r=r)
          ·
           simp only [go_sem,hd2,cE,cSi]
           refine ops_call (.pureE (find_meets lg (nth ws (k' + 1)).id hl) (by simp [go_sem,cId])) ?_
           by_cases h3:0≤findE lg (nth ws (k' + 1)).id
           ·
            have hw2:siWait r lg ws (k' + 1)=4:=by rw [hw1,if_pos (by simp [siBad,h3])]
            simp only [go_sem,h3]
            repeat refine ⟨rfl,?_⟩
            refine ret_pure hx ?_
            simp [go_sem,L65,R65,fin 4 hw2 (by decide)]
           ·
            simp only [go_sem,h3,cE,cSi]
            refine ops_call (.pureE (ready_meets lg (nth ws (k' + 1)) hok.reg (by omega) hfit.1 (by have:=hfit.2; omega)) (by simp [go_sem,cE])) ?_
            cases h4:readyB lg (nth ws (k' + 1))
            ·
             have hw2:siWait r lg ws (k' + 1)=0:=by rw [hw1,if_neg (by rw [siBad,hb1,hd2,h4]; simp [h3])]
             simp only [go_sem,wk]
             repeat refine ⟨rfl,?_⟩
             refine ⟨by simp,m - 1,by omega,k' + 1 + 1,by omega,firstNZ_succ hz hw2,?_⟩
             simp [trim_mk,go_sem,subHeap,renObj,pos,List.range_succ,cSi]
            ·
             have hw2:siWait r lg ws (k' + 1)=4:=by rw [hw1,if_pos (by simp [siBad,h4])]
             simp only [go_sem]
             repeat refine ⟨rfl,?_⟩
             refine ret_pure hx ?_
             simp [go_sem,L65,R65,fin 4 hw2 (by decide)]
          ·
           have hw2:siWait r lg ws (k' + 1)=4:=by rw [hw1,if_pos (by simp [siBad,hd2])]
           simp only [go_sem,hd2]
           repeat refine ⟨rfl,?_⟩
           refine ret_pure hx ?_
           simp [go_sem,L65,R65,fin 4 hw2 (by decide)]
        ·
         have hkz:k=0:=by omega
         have hb1:(decide (0 < k) && !lessB (nth ws (k - 1)).id (nth ws k).id)=false:=by simp [hkz]
         simp only [go_sem,hk0,cE,cSi]
         cases hd2:decide ((nth ws (k)).id.r=r)
         ·
          simp only [go_sem,hd2,cE,cSi]
          refine ops_call (.pureE (find_meets lg (nth ws (k)).id hl) (by simp [go_sem,cId])) ?_
          by_cases h3:0≤findE lg (nth ws (k)).id
          ·
           have hw2:siWait r lg ws (k)=4:=by rw [hw1,if_pos (by simp [siBad,h3])]
           simp only [go_sem,h3]
           repeat refine ⟨rfl,?_⟩
           refine ret_pure hx ?_
           simp [go_sem,L65,R65,fin 4 hw2 (by decide)]
          ·
           simp only [go_sem,h3,cE,cSi]
           refine ops_call (.pureE (ready_meets lg (nth ws (k)) hok.reg (by omega) hfit.1 (by have:=hfit.2; omega)) (by simp [go_sem,cE])) ?_
           cases h4:readyB lg (nth ws (k))
           ·
            have hw2:siWait r lg ws (k)=0:=by rw [hw1,if_neg (by rw [siBad,hb1,hd2,h4]; simp [h3])]
            simp only [go_sem,wk]
            repeat refine ⟨rfl,?_⟩
            refine ⟨by simp,m - 1,by omega,k + 1,by omega,firstNZ_succ hz hw2,?_⟩
            simp [trim_mk,go_sem,subHeap,renObj,pos,List.range_succ,cSi]
           ·
            have hw2:siWait r lg ws (k)=4:=by rw [hw1,if_pos (by simp [siBad,h4])]
            simp only [go_sem]
            repeat refine ⟨rfl,?_⟩
            refine ret_pure hx ?_
            simp [go_sem,L65,R65,fin 4 hw2 (by decide)]
         ·
          have hw2:siWait r lg ws (k)=4:=by rw [hw1,if_pos (by simp [siBad,hd2])]
          simp only [go_sem,hd2]
          repeat refine ⟨rfl,?_⟩
          refine ret_pure hx ?_
          simp [go_sem,L65,R65,fin 4 hw2 (by decide)]
       ·
        have hw1:siWait r lg ws k=checkEntry (nth ws k):=by rw [siWait,if_pos h1]
        simp only [go_sem,h1,cE,cSi]
        refine ret_pure hx ?_
        simp [go_sem,L65,R65,fin _ hw1 h1]
      ·
       obtain rfl:k=ws.length:=by omega
       simp only [go_sem,hlt]
       refine ret_pure hx ?_
       simp [go_sem,L65,R65,hz]
   ·
    have e:siErr r lg ws=checkLog lg:=by rw [siErr,if_neg (by simp [hr]),if_pos hlog]
    simp only [go_sem,hlog]
    refine ret_pure hx ?_
    simp [go_sem,L65,R65,e]
  ·
   have hd1:decide (r=1)=false:=by simp [h1]
   have e:siErr r lg ws=3:=by rw [siErr,if_pos (by omega)]
   simp only [go_sem,hd0,hd1,cSi]
   refine ret_pure hx ?_
   simp [go_sem,L65,R65,e]
end Go.Proofs.YtfdolehffjmdmaaGreatDoor
/- Sites: Append: contracts. -/
namespace Go.Proofs.YtfdolehffjmdmaaGreatDoor
set_option linter.unusedSimpArgs false
set_option linter.unusedVariables false
open Go.RowKit
def apE (r:Int) (lg:List Entry) (c:Int) (t:ByteArray):Entry:=⟨⟨r,(cntR lg r:Int) + 1⟩,c,t,sortI (headsC lg c)⟩
def zE:Entry:=⟨⟨0,0⟩,0,⟨#[]⟩,[]⟩
def apErr (r:Int) (lg:List Entry) (c:Int) (t:ByteArray):Int :=
 if wthn c 1 7=false then 3 else if 12 < t.size∨(20:Int) < (cntR lg r:Int) + 1∨lg.length=40∨6 < (sortI (headsC lg c)).length then 2 else 0
def apSi (r:Int) (lg ws:List Entry) (c:Int) (t:ByteArray):Int × List Entry × List Entry:=if apErr r lg c t=0 then (r,settled (lg ++ [apE r lg c t]) ws) else (0,[],[])
def apEn (r:Int) (lg:List Entry) (c:Int) (t:ByteArray):Entry:=if apErr r lg c t=0 then apE r lg c t else zE
def cSi3 (s:Int × List Entry × List Entry):List PV:=cSi s.1 s.2.1 s.2.2
theorem headsC_len (lg:List Entry) (c:Int):(sortI (headsC lg c)).length≤lg.length:=by
 unfold sortI headsC
 rw [List.length_mergeSort,List.length_map]
 refine Nat.le_trans (List.length_filter_le ..) ?_
 unfold withC
 exact List.length_filter_le ..
theorem ap_fit {r:Int} {lg:List Entry} {c:Int} {t:ByteArray} (hr:r=0∨r=1) (h:lg.length≤40):((apE r lg c t).id.r=0∨(apE r lg c t).id.r=1)∧(apE r lg c t).ls.length≤1000000:=by
 have:=headsC_len lg c
 exact ⟨hr,by show (sortI (headsC lg c)).length≤_; omega⟩
set_option maxHeartbeats 4000000 in
theorem appended_meets (r : Int) (lg ws : List Entry) (c : Int) (t : ByteArray) (hr : r = 0 ∨ r = 1) (h : LogOk lg) (hw : ws.length ≤ 20) (hf : fitE ws) :
    Meets Tryz.prog 66 [.agg (cSi r lg ws),.int .i64 c,.str t] [] (.tup [.agg (cSi3 (apSi r lg ws c t)),.agg (cE (apEn r lg c t)),.int .i64 (apErr r lg c t)]) []:=by
  have hlen:=h.len
  refine Meets.of_walk Tryz.func66 Tryz.ntmps66 low66 res66 (by simp) fun x hx=>?_
  simp only [go_sem,L66,R66,cSi]
  refine ops_call (.pureE (colors_meets c) (by simp [go_sem])) ?_
  cases hc:wthn c 1 7
  · have e:apErr r lg c t=3:=by rw [apErr,if_pos hc]
    simp only [go_sem]
    refine ret_pure hx ?_
    simp [go_sem,L66,R66,apSi,apEn,e,cSi3,cSi,cE,zE]
  · have e0:apErr r lg c t=if 12 < t.size∨(20:Int) < (cntR lg r:Int) + 1∨lg.length=40∨6 < (sortI (headsC lg c)).length then 2 else 0:=by rw [apErr,if_neg (by simp [hc])]
    rcases hr with rfl | rfl
    · skip
      have hcn:IntKind.i64.wrap ((cntR lg 0:Int) + 1)=(cntR lg 0:Int) + 1:=by have:=cntR_le lg 0; rw [IntWalk.i64_in _ (by omega)]
      simp only [go_sem,cSi]
      refine ops_call (.pureE (many_meets lg h.reg (by omega)) (by simp [go_sem])) ?_
      simp only [go_sem,cSi,intS,Int.reduceLT,Int.reduceLE,Int.reduceToNat,Int.reduceAdd,frz,hcn]
      repeat refine ⟨rfl,?_⟩
      refine ops_call (.pureE (top_meets lg c h hc) (by simp [go_sem])) ?_
      simp only [go_sem,cSi]
      repeat refine ⟨rfl,?_⟩
      by_cases d1:(12:Int) < (t.size:Int)
      · have e:apErr 0 lg c t=2:=by rw [e0,if_pos (by omega)]
        simp only [go_sem,d1]
        refine ret_pure hx ?_
        simp [go_sem,L66,R66,apSi,apEn,e,cSi3,cSi,cE,zE]
      · by_cases d2:(20:Int) < (cntR lg 0:Int) + 1
        · have e:apErr 0 lg c t=2:=by rw [e0,if_pos (by omega)]
          simp only [go_sem,d1,d2]
          refine ret_pure hx ?_
          simp [go_sem,L66,R66,apSi,apEn,e,cSi3,cSi,cE,zE]
        · by_cases d3:(lg.length:Int)=40
          · have e:apErr 0 lg c t=2:=by rw [e0,if_pos (by omega)]
            simp only [go_sem,d1,d2,d3,cSi]
            refine ret_pure hx ?_
            simp [go_sem,L66,R66,apSi,apEn,e,cSi3,cSi,cE,zE]
          · by_cases d4:(6:Int) < ((sortI (headsC lg c)).length:Int)
            · have e:apErr 0 lg c t=2:=by rw [e0,if_pos (by omega)]
              simp only [go_sem,d1,d2,d3,d4,cSi]
              refine ret_pure hx ?_
              simp [go_sem,L66,R66,apSi,apEn,e,cSi3,cSi,cE,zE]
            · have e:apErr 0 lg c t=0:=by rw [e0,if_neg (by omega)]
              have hfl:=log_fit h
              have hae:fitE (lg ++ [apE 0 lg c t]):=fit_app hfl (ap_fit (by decide) hlen)
              have hsl:=settled_sum (lg ++ [apE 0 lg c t]) ws
              rw [List.length_append,List.length_cons,List.length_nil] at hsl
              simp only [go_sem,d1,d2,d3,d4,cSi]
              refine ops_call (.heapE [] (r' := .agg [.int .i64 0,.arr 4 lg.length,.arr 5 ws.length]) (H' := [.box (cSi 0 lg ws),.box [.int .i64 0,.nilsl,.nilsl],.box [.int .i64 0,.int .i64 0,.int .i64 0,.str ⟨#[]⟩,.nilsl],.box (cE (apE 0 lg c t)),.arr lg.length true false 46 5 (lg.map cE),.arr ws.length true false 46 5 (ws.map cE)]) (siOwn_meets 0 lg ws (by omega) (by omega) hfl hf) (by simp) (by simp) (by simp [go_sem,cSi]) rfl rfl rfl) ?_
              simp only [go_sem,cSi,cE]
              rw [app_arr rfl rfl (by simp) (by simp; omega)]
              have hce:List.map cE lg ++ [[PV.int .i64 (apE 0 lg c t).id.r,.int .i64 (apE 0 lg c t).id.n,.int .i64 (apE 0 lg c t).c,.str (apE 0 lg c t).t,.list ((apE 0 lg c t).ls.map cId)]]=(lg ++ [apE 0 lg c t]).map cE:=by simp [cE]
              simp only [go_sem,hce]
              repeat refine ⟨rfl,?_⟩
              have hst:=settle_meets (lg.length + 1) ws.length 0 (lg ++ [apE 0 lg c t]) ws (by simp; omega) hae hf
              generalize ws.length - (settled (lg ++ [apE 0 lg c t]) ws).2.length=k at hst
              refine ops_call (.heapE [6,4,5] (r' := .tup []) (H' := [.box (cSi 0 lg ws),.box [.int .i64 0,.nilsl,.nilsl],.box [.int .i64 0,.int .i64 0,.int .i64 0,.str ⟨#[]⟩,.nilsl],.box (cE (apE 0 lg c t)),.arr (lg.length + 1 + k) true false 46 5 ((settled (lg ++ [apE 0 lg c t]) ws).1.map cE),.arr (ws.length + k) true false 46 5 ((settled (lg ++ [apE 0 lg c t]) ws).2.map cE),.box [.int .i64 0,.arr 4 (lg.length + 1 + k),.arr 5 (ws.length + k)]]) hst (by decide) (by simp) (by simp [go_sem,pos]) rfl rfl rfl) ?_
              simp only [go_sem,cSi,cE]
              refine ops_call (.pureE (entOwn_meets (apE 0 lg c t) (ap_fit (by decide) hlen).2) (by simp [go_sem,cE])) ?_
              simp only [go_sem,cSi,cE]
              repeat refine ⟨rfl,?_⟩
              refine ret_pure hx ?_
              simp [go_sem,L66,R66,apSi,apEn,e,cSi3,cSi,cE,frzAt,pos]
    · skip
      have hcn:IntKind.i64.wrap ((cntR lg 1:Int) + 1)=(cntR lg 1:Int) + 1:=by have:=cntR_le lg 1; rw [IntWalk.i64_in _ (by omega)]
      simp only [go_sem,cSi]
      refine ops_call (.pureE (many_meets lg h.reg (by omega)) (by simp [go_sem])) ?_
      simp only [go_sem,cSi,intS,Int.reduceLT,Int.reduceLE,Int.reduceToNat,Int.reduceAdd,frz,hcn]
      repeat refine ⟨rfl,?_⟩
      refine ops_call (.pureE (top_meets lg c h hc) (by simp [go_sem])) ?_
      simp only [go_sem,cSi]
      repeat refine ⟨rfl,?_⟩
      by_cases d1:(12:Int) < (t.size:Int)
      · have e:apErr 1 lg c t=2:=by rw [e0,if_pos (by omega)]
        simp only [go_sem,d1]
        refine ret_pure hx ?_
        simp [go_sem,L66,R66,apSi,apEn,e,cSi3,cSi,cE,zE]
      · by_cases d2:(20:Int) < (cntR lg 1:Int) + 1
        · have e:apErr 1 lg c t=2:=by rw [e0,if_pos (by omega)]
          simp only [go_sem,d1,d2]
          refine ret_pure hx ?_
          simp [go_sem,L66,R66,apSi,apEn,e,cSi3,cSi,cE,zE]
        · by_cases d3:(lg.length:Int)=40
          · have e:apErr 1 lg c t=2:=by rw [e0,if_pos (by omega)]
            simp only [go_sem,d1,d2,d3,cSi]
            refine ret_pure hx ?_
            simp [go_sem,L66,R66,apSi,apEn,e,cSi3,cSi,cE,zE]
          · by_cases d4:(6:Int) < ((sortI (headsC lg c)).length:Int)
            · have e:apErr 1 lg c t=2:=by rw [e0,if_pos (by omega)]
              simp only [go_sem,d1,d2,d3,d4,cSi]
              refine ret_pure hx ?_
              simp [go_sem,L66,R66,apSi,apEn,e,cSi3,cSi,cE,zE]
            · have e:apErr 1 lg c t=0:=by rw [e0,if_neg (by omega)]
              have hfl:=log_fit h
              have hae:fitE (lg ++ [apE 1 lg c t]):=fit_app hfl (ap_fit (by decide) hlen)
              have hsl:=settled_sum (lg ++ [apE 1 lg c t]) ws
              rw [List.length_append,List.length_cons,List.length_nil] at hsl
              simp only [go_sem,d1,d2,d3,d4,cSi]
              refine ops_call (.heapE [] (r' := .agg [.int .i64 1,.arr 4 lg.length,.arr 5 ws.length]) (H' := [.box (cSi 1 lg ws),.box [.int .i64 0,.nilsl,.nilsl],.box [.int .i64 0,.int .i64 0,.int .i64 0,.str ⟨#[]⟩,.nilsl],.box (cE (apE 1 lg c t)),.arr lg.length true false 46 5 (lg.map cE),.arr ws.length true false 46 5 (ws.map cE)]) (siOwn_meets 1 lg ws (by omega) (by omega) hfl hf) (by simp) (by simp) (by simp [go_sem,cSi]) rfl rfl rfl) ?_
              simp only [go_sem,cSi,cE]
              rw [app_arr rfl rfl (by simp) (by simp; omega)]
              have hce:List.map cE lg ++ [[PV.int .i64 (apE 1 lg c t).id.r,.int .i64 (apE 1 lg c t).id.n,.int .i64 (apE 1 lg c t).c,.str (apE 1 lg c t).t,.list ((apE 1 lg c t).ls.map cId)]]=(lg ++ [apE 1 lg c t]).map cE:=by simp [cE]
              simp only [go_sem,hce]
              repeat refine ⟨rfl,?_⟩
              have hst:=settle_meets (lg.length + 1) ws.length 1 (lg ++ [apE 1 lg c t]) ws (by simp; omega) hae hf
              generalize ws.length - (settled (lg ++ [apE 1 lg c t]) ws).2.length=k at hst
              refine ops_call (.heapE [6,4,5] (r' := .tup []) (H' := [.box (cSi 1 lg ws),.box [.int .i64 0,.nilsl,.nilsl],.box [.int .i64 0,.int .i64 0,.int .i64 0,.str ⟨#[]⟩,.nilsl],.box (cE (apE 1 lg c t)),.arr (lg.length + 1 + k) true false 46 5 ((settled (lg ++ [apE 1 lg c t]) ws).1.map cE),.arr (ws.length + k) true false 46 5 ((settled (lg ++ [apE 1 lg c t]) ws).2.map cE),.box [.int .i64 1,.arr 4 (lg.length + 1 + k),.arr 5 (ws.length + k)]]) hst (by decide) (by simp) (by simp [go_sem,pos]) rfl rfl rfl) ?_
              simp only [go_sem,cSi,cE]
              refine ops_call (.pureE (entOwn_meets (apE 1 lg c t) (ap_fit (by decide) hlen).2) (by simp [go_sem,cE])) ?_
              simp only [go_sem,cSi,cE]
              repeat refine ⟨rfl,?_⟩
              refine ret_pure hx ?_
              simp [go_sem,L66,R66,apSi,apEn,e,cSi3,cSi,cE,frzAt,pos]
def apErrX (r:Int) (lg ws:List Entry) (c:Int) (t:ByteArray):Int:=if siErr r lg ws≠0 then siErr r lg ws else apErr r lg c t
def apSiX (r:Int) (lg ws:List Entry) (c:Int) (t:ByteArray):Int × List Entry × List Entry:=if siErr r lg ws≠0 then (0,[],[]) else apSi r lg ws c t
def apEnX (r:Int) (lg ws:List Entry) (c:Int) (t:ByteArray):Entry:=if siErr r lg ws≠0 then zE else apEn r lg c t
theorem siAppend_meets (r : Int) (lg ws : List Entry) (c : Int) (t : ByteArray) (hl : lg.length ≤ 9223372036854775806) (hw : ws.length ≤ 9223372036854775806) :
    Meets Tryz.prog 23 [.agg (cSi r lg ws),.int .i64 c,.str t] [] (.tup [.agg (cSi3 (apSiX r lg ws c t)),.agg (cE (apEnX r lg ws c t)),.int .i64 (apErrX r lg ws c t)]) []:=by
  refine Meets.of_walk Tryz.func23 Tryz.ntmps23 low23 res23 (by simp) fun x hx=>?_
  simp only [go_sem,L23,R23,cSi]
  refine ops_call (.pureE (siCheck_meets r lg ws hl hw) (by simp [go_sem,cSi])) ?_
  by_cases h0:siErr r lg ws=0
  · obtain ⟨hr,hok,hw20,hch⟩:=siErr_ok h0
    simp only [go_sem,h0,cSi]
    refine ops_call (.pureE (appended_meets r lg ws c t hr hok hw20 (waits_fit fun k hk=>(hch k hk).1)) (by simp [go_sem,cSi])) ?_
    simp only [go_sem,cSi3,cSi,cE]
    refine ret_pure hx ?_
    simp [go_sem,L23,R23,apSiX,apEnX,apErrX,h0,cSi3,cSi,cE]
  · simp only [go_sem,h0,cSi]
    refine ret_pure hx ?_
    simp [go_sem,L23,R23,apSiX,apEnX,apErrX,h0,cSi3,cSi,cE,zE]
end Go.Proofs.YtfdolehffjmdmaaGreatDoor
/- Sites: Receive: contracts. -/
namespace Go.Proofs.YtfdolehffjmdmaaGreatDoor
set_option linter.unusedSimpArgs false
set_option linter.unusedVariables false
open Go.RowKit
theorem lessB_irr (a:Id):lessB a a=false:=by simp [lessB]
theorem lessB_asym {a b:Id} (h:lessB a b=true):lessB b a=false:=by
 rw [← Bool.not_eq_true]
 intro h2
 have:=lessB_trans h h2
 rw [lessB_irr] at this; cases this
theorem idEq_of {a b:Id} (h1:lessB a b=false) (h2:lessB b a=false):a=b:=by
 simp only [lessB,decide_eq_false_iff_not] at *
 cases a; cases b
 simp only [Id.mk.injEq] at *
 omega
def upE (ws:List Entry):Prop:=∀ i j,i < j→j < ws.length→lessB (nth ws i).id (nth ws j).id=true
theorem upE_of {ws:List Entry} (h:∀ k,k + 1 < ws.length→lessB (nth ws k).id (nth ws (k + 1)).id=true):upE ws:=by
 intro i j hij hj
 have key:∀ d,i + d + 1 < ws.length→lessB (nth ws i).id (nth ws (i + d + 1)).id=true:=by
  intro d
  induction d with
  | zero=>intro hd; exact h i hd
  | succ d ih=>intro hd; exact lessB_trans (ih (by omega)) (h (i + d + 1) hd)
 have:=key (j - i - 1) (by omega)
 rwa [show i + (j - i - 1) + 1=j by omega] at this
theorem siErr_up {r:Int} {lg ws:List Entry} (h:siErr r lg ws=0):upE ws:=by
 obtain ⟨-,-,-,hc⟩:=siErr_ok h
 refine upE_of fun k hk=>?_
 have:=(hc (k + 1) hk).2
 unfold siBad at this
 simp only [Bool.or_eq_false_iff,Nat.add_sub_cancel] at this
 have h2:=this.1.1.1
 simpa using h2
def posE (l:List Entry) (y:Id):Nat:=l.countP fun e=>lessB e.id y
def foundE (l:List Entry) (y:Id):Bool:=l.any fun e=>decide (e.id=y)
theorem posE_at {l:List Entry} {y:Id} {i:Nat} (hi:i≤l.length) (h1:∀ k,k < i→lessB (nth l k).id y=true) (h2:∀ k,i≤k→k < l.length→lessB (nth l k).id y=false):posE l y=i:=by
 unfold posE
 conv=>lhs; rw [← List.take_append_drop i l]
 rw [List.countP_append]
 have a:(l.take i).countP (fun e=>lessB e.id y)=(l.take i).length:=by
  rw [List.countP_eq_length]
  intro w hw
  obtain ⟨k,hk,rfl⟩:=List.getElem_of_mem hw
  rw [List.length_take] at hk
  have:=h1 k (by omega)
  rw [nth_eq _ _ (by omega)] at this
  simpa using this
 have b:(l.drop i).countP (fun e=>lessB e.id y)=0:=by
  rw [List.countP_eq_zero]
  intro w hw
  obtain ⟨k,hk,rfl⟩:=List.getElem_of_mem hw
  rw [List.length_drop] at hk
  have:=h2 (i + k) (by omega) (by omega)
  rw [nth_eq _ _ (by omega)] at this
  simpa using this
 rw [a,b,List.length_take]; omega
theorem foundE_at {l:List Entry} {y:Id} (hu:upE l) {i:Nat} (hi:i≤l.length) (h1:∀ k,k < i→lessB (nth l k).id y=true) (h2:∀ k,i≤k→k < l.length→lessB (nth l k).id y=false):foundE l y=decide (i < l.length∧(nth l i).id=y):=by
 rw [Bool.eq_iff_iff,decide_eq_true_eq]
 unfold foundE
 rw [List.any_eq_true]
 constructor
 ·
  rintro ⟨w,hw,hn⟩
  obtain ⟨k,hk,rfl⟩:=List.getElem_of_mem hw
  rw [← nth_eq _ _ hk,decide_eq_true_eq] at hn
  by_cases h:k < i
  ·
   have:=h1 k h; rw [hn,lessB_irr] at this; cases this
  ·
   by_cases e:k=i
   ·
    subst e; exact ⟨hk,hn⟩
   ·
    have a:=hu i k (by omega) hk
    have b:=h2 i (Nat.le_refl _) (by omega)
    rw [hn] at a; rw [a] at b; cases b
 ·
  rintro ⟨a,b⟩
  exact ⟨_,nthM a,by simpa using b⟩
theorem posE_le (l:List Entry) (y:Id):posE l y≤l.length:=by unfold posE; exact List.countP_le_length
theorem ordI_zero {a b:Id}:ordI a b=0↔a=b:=by
 cases a; cases b
 simp only [ordI,cmpI,Id.mk.injEq]
 repeat' split
 all_goals omega
theorem raw1_meets (e:Entry) (y:Id):Meets Tryz.prog 143 [.agg (cE e),.agg (cId y)] [] (.int .i64 (ordI e.id y)) []:=by
 refine Meets.of_walk Tryz.func143 Tryz.ntmps143 low143 res143 (by simp) fun x hx=>?_
 simp only [go_sem,L143,R143,cE,cId]
 refine ops_call (.pureE (order_meets e.id y) (by simp [go_sem,cId])) ?_
 simp only [go_sem]
 refine ret_pure hx ?_
 simp [go_sem,L143,R143]
set_option maxHeartbeats 1000000 in
theorem bsE_meets (l : List Entry) (y : Id) (hu : upE l) (hl : l.length ≤ 4611686018427387904) :
    Meets Tryz.prog 142 [.list (l.map cE),.agg (cId y),.clo 143 []] [] (.tup [.int .i64 (posE l y),.bool (foundE l y)]) []:=by
  refine Meets.of_walk Tryz.func142 Tryz.ntmps142 low142 res142 (by simp) fun x hx=>?_
  simp only [go_sem,L142,R142]
  refine loop_inv [0,2,4,8,9,10] 1 (fun g st=>∃ i j:Nat,i≤j∧j≤l.length∧j - i=g∧(∀ k,k < i→lessB (nth l k).id y=true)∧(∀ k,j≤k→k < l.length→lessB (nth l k).id y=false) ∧
    st=⟨mkE .top [(0,.list (l.map cE)),(2,.clo 143 []),(4,.ptr 0 0),(8,.int .i64 l.length),(9,.int .i64 i),(10,.int .i64 j)],[.box (cId y)]⟩) l.length (by simp [hx]) (by simp) ?_ ?_
  · refine ⟨0,l.length,by omega,by omega,by omega,fun k h=>by omega,fun k h1 h2=>by omega,?_⟩
    simp [trim_mk,go_sem,subHeap,renObj,pos,List.range_succ,cId]
  · rintro g st ⟨i,j,hij,hj,hg,hlo,hhi,rfl⟩
    by_cases hlt:i < j
    · have w1:IntKind.i64.wrap ((i:Int) + (j:Int))=((i + j:Nat):Int):=by rw [IntKind.wrap_i64]; omega
      obtain ⟨h,hh⟩:∃ h,h=(i + j) / 2:=⟨_,rfl⟩
      have hgt:l[h]? = some (nth l h):=nth_get? _ _ (by omega)
      have hhl:h < l.length:=by omega
      have w2:IntKind.u64.wrap ((i + j:Nat):Int)=((i + j:Nat):Int):=by rw [IntKind.wrap_u64]; omega
      have w3:((i + j:Nat):Int).fdiv (2 ^ min (Int.toNat 1) 64)=(h:Int):=by
        show Int.fdiv _ 2=_
        rw [Int.fdiv_eq_ediv_of_nonneg _ (by omega)]; omega
      have w4:IntKind.i64.wrap (h:Int)=(h:Int):=by rw [IntKind.wrap_i64]; omega
      have w5:=i64_up (k:=h) (by omega)
      simp only [go_sem,hlt,w1,w2,w3,w4,Int.reduceLE,hgt,hhl,cE,cId]
      refine ops_callv rfl (by kernel_rfl) (.pureE (raw1_meets (nth l h) y) (by simp [go_sem,cE,cId])) ?_
      by_cases hc:lessB (nth l h).id y=true
      · have e:ordI (nth l h).id y < 0:=ordI_lt.2 hc
        simp only [go_sem,e,w5]
        refine ⟨by simp,j - (h + 1),by omega,h + 1,j,by omega,hj,rfl,fun k hk=>?_,hhi,?_⟩
        · by_cases ek:k=h
          · rw [ek]; exact hc
          · exact lessB_trans (hu k h (by omega) (by omega)) hc
        · simp [trim_mk,go_sem,subHeap,renObj,pos,List.range_succ,cId]
      · have e:¬ ordI (nth l h).id y < 0:=fun q=>hc (ordI_lt.1 q)
        simp only [go_sem,e]
        refine ⟨by simp,h - i,by omega,i,h,by omega,by omega,rfl,hlo,fun k h1 h2=>?_,?_⟩
        · by_cases ek:k=h
          · rw [ek]; simpa using hc
          · rw [← Bool.not_eq_true]
            exact fun q=>hc (lessB_trans (hu h k (by omega) h2) q)
        · simp [trim_mk,go_sem,subHeap,renObj,pos,List.range_succ,cId]
    · obtain rfl:i=j:=by omega
      have hp:=posE_at hj hlo hhi
      have hf:=foundE_at hu hj hlo hhi
      by_cases hil:i < l.length
      · have hgt:l[i]? = some (nth l i):=nth_get? _ _ hil
        simp only [go_sem,hlt,hil,hgt,cE,cId]
        refine ops_callv rfl (by kernel_rfl) (.pureE (raw1_meets (nth l i) y) (by simp [go_sem,cE,cId])) ?_
        have e:(ordI (nth l i).id y=0)↔(nth l i).id=y:=ordI_zero
        simp only [go_sem,e]
        refine ret_pure hx ?_
        simp [go_sem,L142,R142,hp,hf,hil]
      · simp only [go_sem,hlt,hil]
        refine ret_pure hx ?_
        simp [go_sem,L142,R142,hp,hf,hil]
def rcP (lg ws:List Entry) (e:Entry):List Entry × List Entry:=settled lg (ws.insertIdx (posE ws e.id) e)
def rcErr (r:Int) (lg ws:List Entry) (e:Entry):Int :=
 if 0≤findE lg e.id∨0≤findE ws e.id then 0 else if e.id.r=r then 4 else if 20 < (rcP lg ws e).2.length∨40 < (rcP lg ws e).1.length then 2 else 0
def rcSi (r:Int) (lg ws:List Entry) (e:Entry):Int × List Entry × List Entry :=
 if 0≤findE lg e.id∨0≤findE ws e.id then (r,lg,ws) else if rcErr r lg ws e=0 then (r,rcP lg ws e) else (0,[],[])
theorem fit_ins {ws:List Entry} {e:Entry} (h:fitE ws) (he:(e.id.r=0∨e.id.r=1)∧e.ls.length≤1000000) {i:Nat} (hi:i≤ws.length):fitE (ws.insertIdx i e):=fun x hx=>by
 rcases (List.mem_insertIdx hi).1 hx with h1 | h1
 ·
  subst h1; exact he
 ·
  exact h x h1
theorem insE_len (l:List Entry) (w:Entry) {k:Nat} (h:k≤l.length):(l.insertIdx k w).length=l.length + 1:=by rw [List.length_insertIdx,if_pos h]
set_option maxHeartbeats 4000000 in
theorem siRaw_meets (r : Int) (lg ws : List Entry) (e : Entry) (hl : lg.length ≤ 1000) (hw : ws.length ≤ 1000) (hf1 : fitE lg) (hf2 : fitE ws) (hu : upE ws) (he : (e.id.r = 0 ∨ e.id.r = 1) ∧ e.ls.length ≤ 1000000) :
    Meets Tryz.prog 109 [.agg (cSi r lg ws),.agg (cE e)] [] (.tup [.agg (cSi3 (rcSi r lg ws e)),.int .i64 (rcErr r lg ws e)]) []:=by
  refine Meets.of_walk Tryz.func109 Tryz.ntmps109 low109 res109 (by simp) fun x hx=>?_
  simp only [go_sem,L109,R109,cSi,cE]
  refine ops_call (.heapE [] (r' := .agg [.int .i64 r,.arr 3 lg.length,.arr 4 ws.length]) (H' := [.box (cSi r lg ws),.box (cE e),.box [.int .i64 0,.nilsl,.nilsl],.arr lg.length true false 46 5 (lg.map cE),.arr ws.length true false 46 5 (ws.map cE)]) (siOwn_meets r lg ws (by omega) (by omega) hf1 hf2) (by simp) (by simp) (by simp [go_sem,cSi]) rfl rfl rfl) ?_
  simp only [go_sem,cSi,cE]
  refine ops_call (.pureE (find_meets lg e.id (by omega)) (by simp [go_sem,cId])) ?_
  by_cases h1:0≤findE lg e.id
  · have e1:rcErr r lg ws e=0:=by rw [rcErr,if_pos (.inl h1)]
    simp only [go_sem,h1,cSi,cE]
    refine ret_pure hx ?_
    simp [go_sem,L109,R109,rcSi,e1,h1,cSi3,cSi,cE,frzAt,pos]
  · simp only [go_sem,h1,cSi,cE]
    refine ops_call (.pureE (find_meets ws e.id (by omega)) (by simp [go_sem,cId])) ?_
    by_cases h2:0≤findE ws e.id
    · have e1:rcErr r lg ws e=0:=by rw [rcErr,if_pos (.inr h2)]
      simp only [go_sem,h2,cSi,cE]
      refine ret_pure hx ?_
      simp [go_sem,L109,R109,rcSi,e1,h2,cSi3,cSi,cE,frzAt,pos]
    · by_cases h3:e.id.r=r
      · have e1:rcErr r lg ws e=4:=by rw [rcErr,if_neg (by omega),if_pos h3]
        simp only [go_sem,h2,h3,cSi,cE]
        refine ret_pure hx ?_
        simp [go_sem,L109,R109,rcSi,e1,h1,h2,cSi3,cSi,cE,frzAt,pos]
      · have e0:rcErr r lg ws e=if 20 < (rcP lg ws e).2.length∨40 < (rcP lg ws e).1.length then 2 else 0:=by rw [rcErr,if_neg (by omega),if_neg h3]
        have hil:=insE_len ws e (posE_le ws e.id)
        have hst:=settle_meets lg.length (ws.length + 1) r lg (ws.insertIdx (posE ws e.id) e) (by omega) hf1 (fit_ins hf2 he (posE_le ws e.id))
        rw [show settled lg (ws.insertIdx (posE ws e.id) e)=rcP lg ws e from rfl] at hst
        generalize (ws.insertIdx (posE ws e.id) e).length - (rcP lg ws e).2.length=k at hst
        simp only [go_sem,h2,h3,cSi,cE]
        refine ops_call (.scalarE (bsE_meets ws e.id hu (by omega)) rfl (by simp [go_sem,frzAt,pos,cId])) ?_
        simp only [go_sem,cSi,cE]
        repeat refine ⟨rfl,?_⟩
        refine ops_call (.pureE (entOwn_meets e he.2) (by simp [go_sem,cE])) ?_
        simp only [go_sem,cSi,cE]
        refine ops_call1 4 (insE_meets (ws.map cE) (cE e) ws.length (posE ws e.id) (by simp; exact posE_le _ _) rfl (by simp; omega)) rfl rfl rfl rfl (by simp [go_sem]) (by simp [go_sem,pos,cE]) rfl ?_
        rw [insIdx_mapE]
        simp only [go_sem,cSi,cE]
        repeat refine ⟨rfl,?_⟩
        refine ops_call (.heapE [5,3,4] (r' := .tup []) (H' := [.box (cSi r lg ws),.box (cE e),.box [.int .i64 0,.nilsl,.nilsl],.arr (lg.length + k) true false 46 5 ((rcP lg ws e).1.map cE),.arr (ws.length + 1 + k) true false 46 5 ((rcP lg ws e).2.map cE),.box [.int .i64 r,.arr 3 (lg.length + k),.arr 4 (ws.length + 1 + k)]]) hst (by decide) (by simp) (by simp [go_sem,pos]) rfl rfl rfl) ?_
        by_cases g1:(20:Int) < ((rcP lg ws e).2.length:Int)
        · have e1:rcErr r lg ws e=2:=by rw [e0,if_pos (by omega)]
          simp only [go_sem,g1,cSi,cE]
          refine ret_pure hx ?_
          simp [go_sem,L109,R109,rcSi,e1,h1,h2,cSi3,cSi,cE,frzAt,pos]
        · by_cases g2:(40:Int) < ((rcP lg ws e).1.length:Int)
          · have e1:rcErr r lg ws e=2:=by rw [e0,if_pos (by omega)]
            simp only [go_sem,g1,g2,cSi,cE]
            refine ret_pure hx ?_
            simp [go_sem,L109,R109,rcSi,e1,h1,h2,cSi3,cSi,cE,frzAt,pos]
          · have e1:rcErr r lg ws e=0:=by rw [e0,if_neg (by omega)]
            simp only [go_sem,g1,g2,cSi,cE]
            refine ret_pure hx ?_
            simp [go_sem,L109,R109,rcSi,e1,h1,h2,cSi3,cSi,cE,frzAt,pos]
def rcErrX (r:Int) (lg ws:List Entry) (e:Entry):Int:=if siErr r lg ws≠0 then siErr r lg ws else if checkEntry e≠0 then checkEntry e else rcErr r lg ws e
def rcSiX (r:Int) (lg ws:List Entry) (e:Entry):Int × List Entry × List Entry:=if siErr r lg ws≠0∨checkEntry e≠0 then (0,[],[]) else rcSi r lg ws e
end Go.Proofs.YtfdolehffjmdmaaGreatDoor
/- Sites,in the law text's words: IsReady,CheckSite,Settled: contracts. -/
namespace Go.Proofs.YtfdolehffjmdmaaGreatDoor
set_option linter.unusedSimpArgs false
set_option linter.unusedVariables false
open Go.RowKit
set_option maxHeartbeats 1000000 in
theorem isReady_meets (l : List Entry) (e : Entry) (h : okReg l) (hl : l.length ≤ 1000000000000000) (he : e.id.r = 0 ∨ e.id.r = 1) (hls : e.ls.length ≤ 9223372036854775806) :
    Meets Tryz.prog 120 [.list (l.map cE),.agg (cE e)] [] (.bool (readyB l e)) []:=by
  refine Meets.of_walk Tryz.func120 Tryz.ntmps120 low120 res120 (by simp) fun x hx=>?_
  have hw:∀ r,IntKind.i64.wrap ((cntR l r:Int) + 1)=(cntR l r:Int) + 1:=fun r=>by have:=cntR_le l r; rw [IntWalk.i64_in _ (by omega)]
  simp only [go_sem,L120,R120,cE]
  refine loop_inv [0,3,5] 1 (fun m st=>∃ k:Nat,k + m=e.ls.length∧((e.ls.take k).any fun y=>decide (findE l y < 0))=false ∧
    st=⟨mkE .top [(0,.list (l.map cE)),(3,.ptr 0 0),(5,.int .i64 k)],[.box (cE e)]⟩) e.ls.length (by simp [hx]) (by simp) ?_ ?_
  · refine ⟨0,by omega,by simp,?_⟩
    simp [trim_mk,go_sem,subHeap,renObj,pos,List.range_succ,cE]
  · rintro m st ⟨k,hk,hi,rfl⟩
    by_cases hlt:k < e.ls.length
    · have hg:e.ls[k]? = some (nth e.ls k):=nth_get? _ _ hlt
      have wk:=i64_up (k:=k) (by omega)
      simp only [go_sem,hlt,hg,cE,cId]
      refine ops_call (.pureE (entryAt_meets l (nth e.ls k) (by omega)) (by simp [go_sem,cId])) ?_
      by_cases h1:findE l (nth e.ls k) < 0
      · have:readyB l e=false:=by
          have hany:(e.ls.any fun y=>decide (findE l y < 0))=true:=List.any_eq_true.2 ⟨_,nthM hlt,by simpa using h1⟩
          rw [readyB,hany]; simp
        simp only [go_sem,h1]
        refine ret_pure hx ?_
        simp [go_sem,L120,R120,this]
      · simp only [go_sem,h1,wk]
        refine ⟨by simp,m - 1,by omega,k + 1,by omega,?_,?_⟩
        · rw [List.take_succ_eq_append_getElem hlt,List.any_append,hi,← nth_eq _ _ hlt]; simpa using h1
        · simp [trim_mk,go_sem,subHeap,renObj,pos,List.range_succ,cE]
    · have htk:e.ls.take k=e.ls:=List.take_of_length_le (by omega)
      rw [htk] at hi
      have hrb:readyB l e=decide ((cntR l e.id.r:Int) + 1=e.id.n):=by rw [readyB,hi]; simp
      simp only [go_sem,hlt,cE]
      refine ops_call (.pureE (countOf_meets l h hl) (by simp [go_sem])) ?_
      rcases he with hr | hr
      all_goals
        rw [hr] at hrb
        simp only [go_sem,hr,hw,intS,Int.reduceLT,Int.reduceLE,Int.reduceToNat,Int.reduceAdd,frz]
        repeat refine ⟨rfl,?_⟩
        refine ret_pure hx ?_
        simp [go_sem,L120,R120,hrb]
set_option maxHeartbeats 4000000 in
theorem checkSite_meets (r:Int) (lg ws:List Entry) (hl:lg.length≤9223372036854775806) (hw:ws.length≤9223372036854775806):Meets Tryz.prog 70 [.agg (cSi r lg ws)] [] (.int .i64 (siErr r lg ws)) []:=by
 refine Meets.of_walk Tryz.func70 Tryz.ntmps70 low70 res70 (by simp) fun x hx=>?_
 simp only [go_sem,L70,R70,cSi]
 refine ops_call (.pureE (between_meets r 0 1) (by simp [go_sem])) ?_
 cases hrw:wthn r 0 1
 ·
  have hr:¬ (r=0∨r=1):=fun q=>by
   have:wthn r 0 1=true:=wthn_iff.2 (by omega)
   rw [hrw] at this; cases this
  have e:siErr r lg ws=3:=by rw [siErr,if_pos hr]
  simp only [go_sem,cSi]
  refine ret_pure hx ?_
  simp [go_sem,L70,R70,e]
 ·
  rw [wthn_iff] at hrw
  have hr:r=0∨r=1:=by omega
  simp only [go_sem,cSi]
  refine ops_call (.pureE (checkLog_meets lg hl) (by simp [go_sem])) ?_
  by_cases hlog:checkLog lg=0
  ·
   have hok:=log_ok.1 hlog
   have hlen:=hok.len
   by_cases h20:(20:Int) < (ws.length:Int)
   ·
    have e:siErr r lg ws=2:=by rw [siErr,if_neg (by simp [hr]),if_neg (by simp [hlog]),if_pos (by omega)]
    simp only [go_sem,hlog,h20,cSi]
    refine ret_pure hx ?_
    simp [go_sem,L70,R70,e]
   ·
    have e:siErr r lg ws=firstNZ (siWait r lg ws) ws.length:=by rw [siErr,if_neg (by simp [hr]),if_neg (by simp [hlog]),if_neg (by omega)]
    simp only [go_sem,hlog,h20,cSi,e]
    refine loop_inv [1,4] 1 (fun m st=>∃ k:Nat,k + m=ws.length∧firstNZ (siWait r lg ws) k=0 ∧
     st=⟨mkE .top [(1,.ptr 0 0),(4,.int .i64 k)],[.box (cSi r lg ws)]⟩) ws.length (by simp [hx]) (by simp) ?_ ?_
    ·
     refine ⟨0,by omega,rfl,?_⟩
     simp [trim_mk,go_sem,subHeap,renObj,pos,List.range_succ,cSi]
    ·
     rintro m st ⟨k,hk,hz,rfl⟩
     by_cases hlt:k < ws.length
     ·
      have hg:ws[k]? = some (nth ws k):=nth_get? _ _ hlt
      have wk:=i64_up (k:=k) (by omega)
      have fin:∀ q:Int,siWait r lg ws k=q→q≠0→firstNZ (siWait r lg ws) ws.length=q:=fun q h1 h2=>by rw [firstNZ_hit hz (by rw [h1]; exact h2) hlt,h1]
      simp only [go_sem,hlt,hg,cE,cSi]
      refine ops_call (.pureE (checkEntry_meets (nth ws k)) (by simp [go_sem,cE])) ?_
      by_cases h1:checkEntry (nth ws k)=0
      ·
       have hfit:=check_fit h1
       have hw1:siWait r lg ws k=if siBad r lg ws k=true then 4 else 0:=by rw [siWait,if_neg (by simp [h1])]
       by_cases hk0:(0:Int) < (k:Int)
       ·
        obtain ⟨k',rfl⟩:∃ k',k=k' + 1:=⟨k - 1,by omega⟩
        have hwd:IntKind.i64.wrap (((k' + 1:Nat):Int) - 1)=(k':Int):=by rw [IntKind.wrap_i64]; omega
        have hkl:k' < ws.length:=by omega
        have hg':ws[k']? = some (nth ws k'):=nth_get? _ _ hkl
        simp only [go_sem,h1,hk0,hwd,hkl,hg',cE,cSi]
        refine ops_call (.pureE (isAhead_meets (nth ws k').id (nth ws (k' + 1)).id) (by simp [go_sem,cId])) ?_
        cases hle:lessB (nth ws k').id (nth ws (k' + 1)).id
        ·
         have hw2:siWait r lg ws (k' + 1)=4:=by rw [hw1,if_pos (by simp [siBad,hle])]
         simp only [go_sem]
         repeat refine ⟨rfl,?_⟩
         refine ret_pure hx ?_
         simp [go_sem,L70,R70,fin 4 hw2 (by decide)]
        ·
         have hb1:(decide (0 < k' + 1) && !lessB (nth ws (k' + 1 - 1)).id (nth ws (k' + 1)).id)=false:=by simp [hle]
         cases hd2:decide ((nth ws (k' + 1)).id.r=r)
         ·
          simp only [go_sem,hd2,cE,cSi]
          refine ops_call (.pureE (entryAt_meets lg (nth ws (k' + 1)).id hl) (by simp [go_sem,cId])) ?_
          by_cases h3:0≤findE lg (nth ws (k' + 1)).id
          ·
           have hw2:siWait r lg ws (k' + 1)=4:=by rw [hw1,if_pos (by simp [siBad,h3])]
           simp only [go_sem,h3]
           repeat refine ⟨rfl,?_⟩
           refine ret_pure hx ?_
           simp [go_sem,L70,R70,fin 4 hw2 (by decide)]
          ·
           simp only [go_sem,h3,cE,cSi]
           refine ops_call (.pureE (isReady_meets lg (nth ws (k' + 1)) hok.reg (by omega) hfit.1 (by have:=hfit.2; omega)) (by simp [go_sem,cE])) ?_
           cases h4:readyB lg (nth ws (k' + 1))
           ·
            have hw2:siWait r lg ws (k' + 1)=0:=by rw [hw1,if_neg (by rw [siBad,hb1,hd2,h4]; simp [h3])]
            simp only [go_sem,wk]
            repeat refine ⟨rfl,?_⟩
            refine ⟨by simp,m - 1,by omega,k' + 1 + 1,by omega,firstNZ_succ hz hw2,?_⟩
            simp [trim_mk,go_sem,subHeap,renObj,pos,List.range_succ,cSi]
           ·
            have hw2:siWait r lg ws (k' + 1)=4:=by rw [hw1,if_pos (by simp [siBad,h4])]
            simp only [go_sem]
            repeat refine ⟨rfl,?_⟩
            refine ret_pure hx ?_
            simp [go_sem,L70,R70,fin 4 hw2 (by decide)]
         ·
          have hw2:siWait r lg ws (k' + 1)=4:=by rw [hw1,if_pos (by simp [siBad,hd2])]
          simp only [go_sem,hd2]
          repeat refine ⟨rfl,?_⟩
          refine ret_pure hx ?_
          simp [go_sem,L70,R70,fin 4 hw2 (by decide)]
       ·
        have hkz:k=0:=by omega
        have hb1:(decide (0 < k) && !lessB (nth ws (k - 1)).id (nth ws k).id)=false:=by simp [hkz]
        simp only [go_sem,h1,hk0,cE,cSi]
        cases hd2:decide ((nth ws (k)).id.r=r)
        ·
         simp only [go_sem,hd2,cE,cSi]
         refine ops_call (.pureE (entryAt_meets lg (nth ws (k)).id hl) (by simp [go_sem,cId])) ?_
         by_cases h3:0≤findE lg (nth ws (k)).id
         ·
          have hw2:siWait r lg ws (k)=4:=by rw [hw1,if_pos (by simp [siBad,h3])]
          simp only [go_sem,h3]
          repeat refine ⟨rfl,?_⟩
          refine ret_pure hx ?_
          simp [go_sem,L70,R70,fin 4 hw2 (by decide)]
         ·
          simp only [go_sem,h3,cE,cSi]
          refine ops_call (.pureE (isReady_meets lg (nth ws (k)) hok.reg (by omega) hfit.1 (by have:=hfit.2; omega)) (by simp [go_sem,cE])) ?_
          cases h4:readyB lg (nth ws (k))
          ·
           have hw2:siWait r lg ws (k)=0:=by rw [hw1,if_neg (by rw [siBad,hb1,hd2,h4]; simp [h3])]
           simp only [go_sem,wk]
           repeat refine ⟨rfl,?_⟩
           refine ⟨by simp,m - 1,by omega,k + 1,by omega,firstNZ_succ hz hw2,?_⟩
           simp [trim_mk,go_sem,subHeap,renObj,pos,List.range_succ,cSi]
          ·
           have hw2:siWait r lg ws (k)=4:=by rw [hw1,if_pos (by simp [siBad,h4])]
           simp only [go_sem]
           repeat refine ⟨rfl,?_⟩
           refine ret_pure hx ?_
           simp [go_sem,L70,R70,fin 4 hw2 (by decide)]
        ·
         have hw2:siWait r lg ws (k)=4:=by rw [hw1,if_pos (by simp [siBad,hd2])]
         simp only [go_sem,hd2]
         repeat refine ⟨rfl,?_⟩
         refine ret_pure hx ?_
         simp [go_sem,L70,R70,fin 4 hw2 (by decide)]
      ·
       have hw1:siWait r lg ws k=checkEntry (nth ws k):=by rw [siWait,if_pos h1]
       simp only [go_sem,h1,cE,cSi]
       refine ret_pure hx ?_
       simp [go_sem,L70,R70,fin _ hw1 h1]
     ·
      obtain rfl:k=ws.length:=by omega
      simp only [go_sem,hlt,cSi]
      refine ret_pure hx ?_
      simp [go_sem,L70,R70,hz]
  ·
   have e:siErr r lg ws=checkLog lg:=by rw [siErr,if_neg (by simp [hr]),if_pos hlog]
   simp only [go_sem,hlog]
   refine ret_pure hx ?_
   simp [go_sem,L70,R70,e]
set_option maxHeartbeats 4000000 in
theorem settledR_meets : ∀ (n : Nat) (r : Int) (lg ws : List Entry), ws.length = n → lg.length + ws.length ≤ 1000000 → fitE lg → fitE ws →
    Meets Tryz.prog 123 [.agg (cSi r lg ws)] [] (.agg (cSi3 (r,settled lg ws))) []:=by
  intro n
  induction n with
  | zero =>
    intro r lg ws hn hb hf1 hf2
    obtain rfl:ws = []:=List.length_eq_zero_iff.1 hn
    refine Meets.of_walk Tryz.func123 Tryz.ntmps123 low123 res123 (by simp) fun x hx=>?_
    simp only [go_sem,L123,R123,cSi]
    refine loop_inv [1,2,3] 2 (fun m st=>st=⟨mkE .top [(1,.ptr 0 0),(2,.ptr 1 0),(3,.int .i64 0)],[.box (cSi r lg []),.box [.int .i64 0,.nilsl,.nilsl]]⟩) 0 (by simp [hx]) (by simp) ?_ ?_
    · simp [trim_mk,go_sem,subHeap,renObj,renCell,renLeaf,pos,List.range_succ,cSi]
    · rintro m st rfl
      simp only [go_sem,cSi,intS,Int.reduceLT,Int.reduceLE,Int.reduceToNat,Int.reduceAdd,frz]
      refine ret_pure hx ?_
      simp [go_sem,L123,R123,settled,settleN,cSi3,cSi]
  | succ n ih =>
    intro r lg ws hn hb hf1 hf2
    refine Meets.of_walk Tryz.func123 Tryz.ntmps123 low123 res123 (by simp) fun x hx=>?_
    simp only [go_sem,L123,R123,cSi]
    refine loop_inv [1,2,3] 2 (fun m st=>∃ k:Nat,k + m=ws.length∧idxF (readyB lg) (ws.drop k) k=rdyI lg ws ∧
      st=⟨mkE .top [(1,.ptr 0 0),(2,.ptr 1 0),(3,.int .i64 k)],[.box (cSi r lg ws),.box [.int .i64 0,.nilsl,.nilsl]]⟩) ws.length (by simp [hx]) (by simp) ?_ ?_
    · refine ⟨0,by omega,by simp [rdyI],?_⟩
      simp [trim_mk,go_sem,subHeap,renObj,renCell,renLeaf,pos,List.range_succ,cSi]
    · rintro m st ⟨k,hk,hi,rfl⟩
      by_cases hlt:k < ws.length
      · have hg:ws[k]? = some (nth ws k):=nth_get? _ _ hlt
        have wk:=i64_up (k:=k) (by omega)
        have hfe:=hf2 _ (nthM hlt)
        rw [idxF_drop _ ws k hlt] at hi
        simp only [go_sem,hlt,hg,cE,cSi]
        refine ops_call (.pureE (isReady_meets lg (nth ws k) (fit_reg hf1) (by omega) hfe.1 (by have:=hfe.2; omega)) (by simp [go_sem,cE])) ?_
        cases hrd:readyB lg (nth ws k)
        · rw [if_neg (by simp [hrd])] at hi
          simp only [go_sem,wk]
          refine ⟨by simp,m - 1,by omega,k + 1,by omega,hi,?_⟩
          simp [trim_mk,go_sem,subHeap,renObj,renCell,renLeaf,pos,List.range_succ,cSi]
        · rw [if_pos hrd] at hi
          have hs:=settled_step (lg:=lg) (ws:=ws) (by rw [← hi]; omega)
          rw [← hi,Int.toNat_natCast] at hs
          have hrow1:(∀ row ∈ List.map cE ws,row.length=5)=True:=eq_true (cE_row ws)
          have hq1:k≤ws.length:=by omega
          have hq2:k + 1≤ws.length:=by omega
          simp only [go_sem,cE,cSi]
          rw [app_arr rfl rfl (cE_row lg) (by simp; omega)]
          simp only [go_sem,hlt,hg,cE,cSi]
          rw [app_arr rfl rfl (by simp) (by simp; omega)]
          have hce:List.map cE lg ++ [[PV.int .i64 (nth ws k).id.r,.int .i64 (nth ws k).id.n,.int .i64 (nth ws k).c,.str (nth ws k).t,.list ((nth ws k).ls.map cId)]]=(lg ++ [nth ws k]).map cE:=by simp [cE]
          simp only [go_sem,hce]
          repeat refine ⟨rfl,?_⟩
          simp only [go_sem,cSi,wk,hrow1,hq1,hq2,Int.le_refl,Int.sub_zero,Int.toNat_zero]
          rw [app_arr rfl rfl (fun row h=>cE_row ws row (List.mem_of_mem_take h)) (by simp; omega)]
          simp only [go_sem,cSi,wk,hrow1,hq1,hq2,Int.le_refl,Int.sub_zero,Int.toNat_zero]
          have htd:List.take ((ws.length:Int) - ((k + 1:Nat):Int)).toNat (List.drop (k + 1) (List.map cE ws))=List.drop (k + 1) (List.map cE ws):=List.take_of_length_le (by simp; omega)
          have her:List.take k (List.map cE ws) ++ List.drop (k + 1) (List.map cE ws)=(ws.eraseIdx k).map cE:=by rw [← eraseIdx_mapE,List.eraseIdx_eq_take_drop_succ]
          rw [htd,app_arr rfl rfl (fun row h=>cE_row ws row (List.mem_of_mem_drop h)) (by simp; omega)]
          simp only [go_sem,her]
          repeat refine ⟨rfl,?_⟩
          have hel:(ws.eraseIdx k).length=n:=by rw [List.length_eraseIdx,if_pos hlt]; omega
          refine ops_call (.pureME (H1 := [.box (cSi r lg ws),.box [.int .i64 0,.nilsl,.nilsl],.box [.int .i64 r,.arr 3 2,.arr 4 2],.arr 2 false false 46 5 ((lg ++ [nth ws k]).map cE),.arr 2 false false 46 5 ((ws.eraseIdx k).map cE)])
            (ih r (lg ++ [nth ws k]) (ws.eraseIdx k) (by omega) (by simp; omega) (fit_app hf1 hfe) (fit_erase hf2 k)) (Milder.trans (Milder.shut 3 rfl) (Milder.shut 4 rfl)) (by simp [go_sem,frzAt,pos,cSi])) ?_
          rw [← hs]
          simp only [go_sem,cSi3,cSi]
          repeat refine ⟨rfl,?_⟩
          refine ret_pure hx ?_
          simp [go_sem,L123,R123,cSi3,cSi]
      · have:ws.drop k = []:=List.drop_eq_nil_of_le (by omega)
        rw [this] at hi
        have hs:=settled_end (lg:=lg) (ws:=ws) (by rw [← hi]; simp [idxF])
        simp only [go_sem,hlt,cSi]
        refine ret_pure hx ?_
        simp [go_sem,L123,R123,hs,cSi3,cSi]
end Go.Proofs.YtfdolehffjmdmaaGreatDoor
/- Sites,in the law text's words: AppendOf,ReceiveOf,SameLog and SameSite at one thing twice,siteIs: contracts. -/
namespace Go.Proofs.YtfdolehffjmdmaaGreatDoor
set_option linter.unusedSimpArgs false
set_option linter.unusedVariables false
open Go.RowKit
theorem sameLog_meets (l:List Entry) (hl:l.length≤9223372036854775806):Meets Tryz.prog 82 [.list (l.map cE),.list (l.map cE)] [] (.bool true) []:=by
 refine Meets.of_walk Tryz.func82 Tryz.ntmps82 low82 res82 (by simp) fun x hx=>?_
 simp only [go_sem,L82,R82]
 refine loop_inv [0,1,5] 0 (fun n st=>∃ k:Nat,k + n=l.length ∧
  st=⟨mkE .top [(0,.list (l.map cE)),(1,.list (l.map cE)),(5,.int .i64 k)],[]⟩) l.length (by simp [hx]) (by simp) ?_ ?_
 ·
  refine ⟨0,by omega,?_⟩
  simp [trim_mk,go_sem,subHeap,renObj,pos]
 ·
  rintro n st ⟨k,hk,rfl⟩
  by_cases hlt:k < l.length
  ·
   have hg:l[k]? = some (nth l k):=nth_get? _ _ hlt
   have wk:=i64_up (k:=k) (by omega)
   have hs:sameE (nth l k) (nth l k)=true:=by simp [sameE]
   simp only [go_sem,hlt,hg,cE]
   refine ops_call (.pureE (sameEntry_meets (nth l k) (nth l k)) (by simp [go_sem,cE])) ?_
   rw [hs]
   simp only [go_sem,wk]
   repeat refine ⟨rfl,?_⟩
   refine ⟨by simp,n - 1,by omega,k + 1,by omega,?_⟩
   simp [trim_mk,go_sem,subHeap,renObj,pos]
  ·
   simp only [go_sem,hlt]
   refine ret_pure hx ?_
   simp [go_sem,L82,R82]
theorem sameSite_meets (s:Int × List Entry × List Entry) (h1:s.2.1.length≤9223372036854775806) (h2:s.2.2.length≤9223372036854775806):Meets Tryz.prog 81 [.agg (cSi3 s),.agg (cSi3 s)] [] (.bool true) []:=by
 refine Meets.of_walk Tryz.func81 Tryz.ntmps81 low81 res81 (by simp) fun x hx=>?_
 simp only [go_sem,L81,R81,cSi3,cSi]
 refine ops_call (.pureE (sameLog_meets s.2.1 h1) (by simp [go_sem])) ?_
 simp only [go_sem,cSi]
 refine ops_call (.pureE (sameLog_meets s.2.2 h2) (by simp [go_sem])) ?_
 simp only [go_sem]
 refine ret_pure hx ?_
 simp [go_sem,L81,R81]
set_option maxHeartbeats 4000000 in
theorem appendOf_meets (r : Int) (lg ws : List Entry) (c : Int) (t : ByteArray) (hr : r = 0 ∨ r = 1) (h : LogOk lg) (hw : ws.length ≤ 20) (hf : fitE ws) :
    Meets Tryz.prog 74 [.agg (cSi r lg ws),.int .i64 c,.str t] [] (.tup [.agg (cSi3 (apSi r lg ws c t)),.agg (cE (apEn r lg c t)),.int .i64 (apErr r lg c t)]) []:=by
  have hlen:=h.len
  refine Meets.of_parts Tryz.func74 Tryz.ntmps74 low74 res74 (by simp) fun x hx=>?_
  simp only [L74,R74,LC.flat,List.cons_append,List.nil_append]
  refine WL_join 7 [6,7,9,10] 6 (fun st=>apErr r lg c t=0∧st=⟨mkE .top [(6,.ptr 1 0),(7,.ptr 2 0),(9,.ptr 3 0),(10,.ptr 5 0)],
    [.box (cSi r lg ws),.box [.int .i64 0,.nilsl,.nilsl],.box [.int .i64 0,.int .i64 0,.int .i64 0,.str ⟨#[]⟩,.nilsl],.box (cE (apE r lg c t)),.arr 3 false false 46 5 ((lg ++ [apE r lg c t]).map cE),.box [.int .i64 r,.arr 4 3,.list (ws.map cE)]]⟩) (by simp [hx]) (by simp) ?_ ?_
  · simp only [List.take_succ_cons,List.take_zero]
    simp only [go_sem,cSi]
    refine ops_call (.pureE (between_meets c 1 7) (by simp [go_sem])) ?_
    cases hc:wthn c 1 7
    · have e:apErr r lg c t=3:=by rw [apErr,if_pos hc]
      simp only [go_sem]
      refine ret_pure hx ?_
      simp [go_sem,L74,R74,apSi,apEn,e,cSi3,cSi,cE,zE]
    · have e0:apErr r lg c t=if 12 < t.size∨(20:Int) < (cntR lg r:Int) + 1∨lg.length=40∨6 < (sortI (headsC lg c)).length then 2 else 0:=by rw [apErr,if_neg (by simp [hc])]
      rcases hr with rfl | rfl
      · skip
        have hcn:IntKind.i64.wrap ((cntR lg 0:Int) + 1)=(cntR lg 0:Int) + 1:=by have:=cntR_le lg 0; rw [IntWalk.i64_in _ (by omega)]
        simp only [go_sem,cSi]
        refine ops_call (.pureE (countOf_meets lg h.reg (by omega)) (by simp [go_sem])) ?_
        simp only [go_sem,cSi,intS,Int.reduceLT,Int.reduceLE,Int.reduceToNat,Int.reduceAdd,frz,hcn]
        refine ops_call (.pureE (headsOf_meets lg c h hc) (by simp [go_sem])) ?_
        rw [heads_eq h c]
        simp only [go_sem,cSi]
        repeat refine ⟨rfl,?_⟩
        by_cases d1:(12:Int) < (t.size:Int)
        · have e:apErr 0 lg c t=2:=by rw [e0,if_pos (by omega)]
          simp only [go_sem,d1]
          refine ret_pure hx ?_
          simp [go_sem,L74,R74,apSi,apEn,e,cSi3,cSi,cE,zE]
        · by_cases d2:(20:Int) < (cntR lg 0:Int) + 1
          · have e:apErr 0 lg c t=2:=by rw [e0,if_pos (by omega)]
            simp only [go_sem,d1,d2]
            refine ret_pure hx ?_
            simp [go_sem,L74,R74,apSi,apEn,e,cSi3,cSi,cE,zE]
          · by_cases d3:(lg.length:Int)=40
            · have e:apErr 0 lg c t=2:=by rw [e0,if_pos (by omega)]
              simp only [go_sem,d1,d2,d3,cSi]
              refine ret_pure hx ?_
              simp [go_sem,L74,R74,apSi,apEn,e,cSi3,cSi,cE,zE]
            · by_cases d4:(6:Int) < ((sortI (headsC lg c)).length:Int)
              · have e:apErr 0 lg c t=2:=by rw [e0,if_pos (by omega)]
                simp only [go_sem,d1,d2,d3,d4,cSi]
                refine ret_pure hx ?_
                simp [go_sem,L74,R74,apSi,apEn,e,cSi3,cSi,cE,zE]
              · have e:apErr 0 lg c t=0:=by rw [e0,if_neg (by omega)]
                simp only [go_sem,d1,d2,d3,d4,cSi]
                rw [app_arr rfl rfl (cE_row lg) (by simp; omega)]
                simp only [go_sem,cSi]
                rw [app_arr rfl rfl (by simp) (by simp; omega)]
                have hce:List.map cE lg ++ [[PV.int .i64 0,.int .i64 ((cntR lg 0:Int) + 1),.int .i64 c,.str t,.list ((sortI (headsC lg c)).map cId)]]=(lg ++ [apE 0 lg c t]).map cE:=by simp [cE,apE]
                simp only [go_sem,hce]
                repeat refine ⟨rfl,?_⟩
                refine ⟨by simp,_,weak_shut 4 (v:=3) (T:=46) (sz:=5) (sto:=true) (rows:=(lg ++ [apE 0 lg c t]).map cE) (by simp [trim_mk,subHeap,renObj,pos,List.range_succ]),e,?_⟩
                simp [trim_mk,go_sem,subHeap,renObj,renCell,renLeaf,pos,List.range_succ,cSi,cE,apE]
      · skip
        have hcn:IntKind.i64.wrap ((cntR lg 1:Int) + 1)=(cntR lg 1:Int) + 1:=by have:=cntR_le lg 1; rw [IntWalk.i64_in _ (by omega)]
        simp only [go_sem,cSi]
        refine ops_call (.pureE (countOf_meets lg h.reg (by omega)) (by simp [go_sem])) ?_
        simp only [go_sem,cSi,intS,Int.reduceLT,Int.reduceLE,Int.reduceToNat,Int.reduceAdd,frz,hcn]
        refine ops_call (.pureE (headsOf_meets lg c h hc) (by simp [go_sem])) ?_
        rw [heads_eq h c]
        simp only [go_sem,cSi]
        repeat refine ⟨rfl,?_⟩
        by_cases d1:(12:Int) < (t.size:Int)
        · have e:apErr 1 lg c t=2:=by rw [e0,if_pos (by omega)]
          simp only [go_sem,d1]
          refine ret_pure hx ?_
          simp [go_sem,L74,R74,apSi,apEn,e,cSi3,cSi,cE,zE]
        · by_cases d2:(20:Int) < (cntR lg 1:Int) + 1
          · have e:apErr 1 lg c t=2:=by rw [e0,if_pos (by omega)]
            simp only [go_sem,d1,d2]
            refine ret_pure hx ?_
            simp [go_sem,L74,R74,apSi,apEn,e,cSi3,cSi,cE,zE]
          · by_cases d3:(lg.length:Int)=40
            · have e:apErr 1 lg c t=2:=by rw [e0,if_pos (by omega)]
              simp only [go_sem,d1,d2,d3,cSi]
              refine ret_pure hx ?_
              simp [go_sem,L74,R74,apSi,apEn,e,cSi3,cSi,cE,zE]
            · by_cases d4:(6:Int) < ((sortI (headsC lg c)).length:Int)
              · have e:apErr 1 lg c t=2:=by rw [e0,if_pos (by omega)]
                simp only [go_sem,d1,d2,d3,d4,cSi]
                refine ret_pure hx ?_
                simp [go_sem,L74,R74,apSi,apEn,e,cSi3,cSi,cE,zE]
              · have e:apErr 1 lg c t=0:=by rw [e0,if_neg (by omega)]
                simp only [go_sem,d1,d2,d3,d4,cSi]
                rw [app_arr rfl rfl (cE_row lg) (by simp; omega)]
                simp only [go_sem,cSi]
                rw [app_arr rfl rfl (by simp) (by simp; omega)]
                have hce:List.map cE lg ++ [[PV.int .i64 1,.int .i64 ((cntR lg 1:Int) + 1),.int .i64 c,.str t,.list ((sortI (headsC lg c)).map cId)]]=(lg ++ [apE 1 lg c t]).map cE:=by simp [cE,apE]
                simp only [go_sem,hce]
                repeat refine ⟨rfl,?_⟩
                refine ⟨by simp,_,weak_shut 4 (v:=3) (T:=46) (sz:=5) (sto:=true) (rows:=(lg ++ [apE 1 lg c t]).map cE) (by simp [trim_mk,subHeap,renObj,pos,List.range_succ]),e,?_⟩
                simp [trim_mk,go_sem,subHeap,renObj,renCell,renLeaf,pos,List.range_succ,cSi,cE,apE]
  · rintro st ⟨e,rfl⟩
    simp only [List.drop_succ_cons,List.drop_zero]
    refine WL_walk ?_
    simp only [go_sem]
    refine ops_call (.pureE (settledR_meets ws.length r (lg ++ [apE r lg c t]) ws rfl (by simp; omega) (fit_app (log_fit h) (ap_fit hr hlen)) hf) (by simp [go_sem,frzAt,pos,cSi])) ?_
    simp only [go_sem,cSi3,cSi,cE]
    repeat refine ⟨rfl,?_⟩
    refine ret_pure hx ?_
    simp [go_sem,L74,R74,apSi,apEn,e,cSi3,cSi,cE]
end Go.Proofs.YtfdolehffjmdmaaGreatDoor
/- Sites,in the law text's words: ReceiveOf: a contract. -/
namespace Go.Proofs.YtfdolehffjmdmaaGreatDoor
set_option linter.unusedSimpArgs false
set_option linter.unusedVariables false
open Go.RowKit
theorem posE_spec {l:List Entry} (hu:upE l) (y:Id):posE l y≤l.length∧(∀ k,k < posE l y→lessB (nth l k).id y=true)∧∀ k,posE l y≤k→k < l.length→lessB (nth l k).id y=false:=by
 have key:∀ m,m≤l.length→∃ i,i≤m∧(∀ k,k < i→lessB (nth l k).id y=true)∧∀ k,i≤k→k < m→lessB (nth l k).id y=false:=by
  intro m
  induction m with
  | zero=>intro _; exact ⟨0,Nat.le_refl _,fun k h=>by omega,fun k a b=>by omega⟩
  | succ m ih =>
   intro hm
   by_cases h:lessB (nth l m).id y=true
   ·
    refine ⟨m + 1,Nat.le_refl _,fun k hk=>?_,fun k a b=>by omega⟩
    by_cases e:k=m
    ·
     subst e; exact h
    ·
     exact lessB_trans (hu k m (by omega) (by omega)) h
   ·
    obtain ⟨i,h1,h2,h3⟩:=ih (by omega)
    refine ⟨i,by omega,h2,fun k a b=>?_⟩
    by_cases e:k=m
    ·
     subst e; simpa using h
    ·
     exact h3 k a (by omega)
 obtain ⟨i,h1,h2,h3⟩:=key l.length (Nat.le_refl _)
 rw [posE_at h1 h2 h3]
 exact ⟨h1,h2,h3⟩
theorem findE_not {l:List Entry} {y:Id} (h:¬ 0≤findE l y):∀ e ∈ l,e.id≠y:=fun e he h2=>by
 have:=idxF_any (fun e:Entry=>decide (e.id=y)) l
 rw [show idxF (fun e:Entry=>decide (e.id=y)) l 0=findE l y from rfl,decide_eq_false h] at this
 have h3:=List.any_eq_false.1 this.symm e he
 simp [h2] at h3
theorem insE_app (x e:Entry):∀ (l:List Entry) (p:Nat),p≤l.length→(l ++ [x]).insertIdx p e=l.insertIdx p e ++ [x]
 | l,0,_=>by cases l <;> rfl
 | [],p + 1,h=>by simp at h
 | y :: l,p + 1,h=>by
  simp only [List.cons_append,List.insertIdx_succ_cons]
  rw [insE_app x e l p (by simpa using h)]
theorem insE_end (e:Entry):∀ (l:List Entry),l.insertIdx l.length e=l ++ [e]
 | []=>rfl
 | y :: l=>by
  simp only [List.length_cons,List.insertIdx_succ_cons,List.cons_append]
  rw [insE_end e l]
def insK (ws:List Entry) (e:Entry) (p k:Nat):List Entry:=if p < k then (ws.take k).insertIdx p e else ws.take k
theorem takeE_succ {l:List Entry} {k:Nat} (h:k < l.length):l.take (k + 1)=l.take k ++ [nth l k]:=by rw [List.take_succ_eq_append_getElem h,nth_eq _ _ h]
theorem insK_after {ws:List Entry} {e:Entry} {p k:Nat} (hk:k < ws.length) (h:p < k):insK ws e p (k + 1)=insK ws e p k ++ [nth ws k]:=by
 rw [insK,insK,if_pos (by omega),if_pos h,takeE_succ hk,insE_app _ _ _ _ (by rw [List.length_take]; omega)]
theorem insK_before {ws:List Entry} {e:Entry} {p k:Nat} (hk:k < ws.length) (h:k < p):insK ws e p (k + 1)=insK ws e p k ++ [nth ws k]:=by
 rw [insK,insK,if_neg (by omega),if_neg (by omega),takeE_succ hk]
theorem insK_at {ws:List Entry} {e:Entry} {k:Nat} (hk:k < ws.length):insK ws e k (k + 1)=insK ws e k k ++ [e] ++ [nth ws k]:=by
 have hl:(ws.take k).length=k:=by rw [List.length_take]; omega
 have h2:=insE_end e (ws.take k)
 rw [hl] at h2
 rw [insK,insK,if_pos (by omega),if_neg (by omega),takeE_succ hk,insE_app _ _ _ _ (by omega),h2]
theorem insK_len (ws:List Entry) (e:Entry) (p k:Nat):(insK ws e p k).length≤k + 1:=by
 unfold insK
 split
 ·
  rw [List.length_insertIdx]
  split <;> rw [List.length_take] <;> omega
 ·
  rw [List.length_take]; omega
set_option maxHeartbeats 8000000 in
theorem receiveOf_meets (r : Int) (lg ws : List Entry) (e : Entry) (hl : lg.length ≤ 1000) (hw : ws.length ≤ 1000) (hf1 : fitE lg) (hf2 : fitE ws) (hu : upE ws) (he : (e.id.r = 0 ∨ e.id.r = 1) ∧ e.ls.length ≤ 1000000) :
    Meets Tryz.prog 75 [.agg (cSi r lg ws),.agg (cE e)] [] (.tup [.agg (cSi3 (rcSi r lg ws e)),.int .i64 (rcErr r lg ws e)]) []:=by
  refine Meets.of_walk Tryz.func75 Tryz.ntmps75 low75 res75 (by simp) fun x hx=>?_
  simp only [go_sem,L75,R75,cSi,cE]
  refine ops_call (.pureE (entryAt_meets lg e.id (by omega)) (by simp [go_sem,cId])) ?_
  by_cases h1:0≤findE lg e.id
  · have e1:rcErr r lg ws e=0:=by rw [rcErr,if_pos (.inl h1)]
    simp only [go_sem,h1,cSi,cE]
    refine ret_pure hx ?_
    simp [go_sem,L75,R75,rcSi,e1,h1,cSi3,cSi,cE,frzAt,pos]
  · simp only [go_sem,h1,cSi,cE]
    refine ops_call (.pureE (entryAt_meets ws e.id (by omega)) (by simp [go_sem,cId])) ?_
    by_cases h2:0≤findE ws e.id
    · have e1:rcErr r lg ws e=0:=by rw [rcErr,if_pos (.inr h2)]
      simp only [go_sem,h2,cSi,cE]
      refine ret_pure hx ?_
      simp [go_sem,L75,R75,rcSi,e1,h2,cSi3,cSi,cE,frzAt,pos]
    · by_cases h3:e.id.r=r
      · have e1:rcErr r lg ws e=4:=by rw [rcErr,if_neg (by omega),if_pos h3]
        simp only [go_sem,h2,h3,cSi,cE]
        refine ret_pure hx ?_
        simp [go_sem,L75,R75,rcSi,e1,h1,h2,cSi3,cSi,cE,frzAt,pos]
      · have e0:rcErr r lg ws e=if 20 < (rcP lg ws e).2.length∨40 < (rcP lg ws e).1.length then 2 else 0:=by rw [rcErr,if_neg (by omega),if_neg h3]
        have hil:=insE_len ws e (posE_le ws e.id)
        obtain ⟨p1,p2,p3⟩:=posE_spec hu e.id
        have hne:=findE_not h2
        have hinsK:insK ws e (posE ws e.id) ws.length=if posE ws e.id < ws.length then ws.insertIdx (posE ws e.id) e else ws:=by rw [insK,List.take_length]
        simp only [go_sem,h2,h3,cSi,cE]
        refine W_weak (weak_ownc 3 2 0 46 5 true false rfl rfl (by omega)) ?_
        generalize hpe:posE ws e.id=p at *
        refine loop_inv [2,3,4,6,7,8] 5 (fun m st=>∃ k v:Nat,k + m=ws.length ∧
          st=⟨mkE .top [(2,.ptr 0 0),(3,.ptr 1 0),(4,.ptr 2 0),(6,.ptr 3 0),(7,.bool (decide (p < k))),(8,.int .i64 k)],[.box (cSi r lg ws),.box (cE e),.box [.int .i64 0,.nilsl,.nilsl],.box [.int .i64 r,.list (lg.map cE),.arr 4 v],.arr v true false 46 5 ((insK ws e p k).map cE)]⟩) ws.length (by simp [hx]) (by simp) ?_ ?_
        · refine ⟨0,0,by omega,?_⟩
          simp [trim_mk,go_sem,subHeap,renObj,renCell,renLeaf,pos,List.range_succ,cSi,cE,insK]
        · rintro m st ⟨k,v,hk,rfl⟩
          by_cases hlt:k < ws.length
          · have hg:ws[k]? = some (nth ws k):=nth_get? _ _ hlt
            have wk:=i64_up (k:=k) (by omega)
            have hkl:=insK_len ws e p k
            by_cases hp:p < k
            · have hs:=insK_after (e:=e) hlt hp
              have hp':p < k + 1:=by omega
              simp only [go_sem,hlt,hg,hp,cE,cSi]
              rw [app_arr rfl rfl (by simp) (by simp; omega)]
              simp only [go_sem,wk]
              repeat refine ⟨rfl,?_⟩
              refine ⟨by simp,m - 1,by omega,k + 1,v + 1,by omega,?_⟩
              simp [trim_mk,go_sem,subHeap,renObj,renCell,renLeaf,pos,List.range_succ,cSi,cE,hs,hp,hp']
            · by_cases hpk:k=p
              · subst hpk
                have hs:=insK_at (e:=e) hlt
                have hle:lessB e.id (nth ws k).id=true:=by
                  have a:=p3 k (Nat.le_refl _) hlt
                  cases h:lessB e.id (nth ws k).id
                  · exact (hne _ (nthM hlt) (idEq_of a h)).elim
                  · rfl
                simp only [go_sem,hlt,hg,hp,cE,cSi]
                refine ops_call (.pureE (isAhead_meets e.id (nth ws k).id) (by simp [go_sem,cId])) ?_
                rw [hle]
                simp only [go_sem,cE,cSi]
                repeat refine ⟨rfl,?_⟩
                rw [app_arr rfl rfl (by simp) (by simp; omega)]
                have hce:List.map cE (insK ws e k k) ++ [[PV.int .i64 e.id.r,.int .i64 e.id.n,.int .i64 e.c,.str e.t,.list (e.ls.map cId)]]=(insK ws e k k ++ [e]).map cE:=by simp [cE]
                simp only [go_sem,hce,hlt,hg,cE,cSi]
                repeat refine ⟨rfl,?_⟩
                rw [app_arr rfl rfl (by simp) (by simp; omega)]
                simp only [go_sem,wk]
                repeat refine ⟨rfl,?_⟩
                refine ⟨by simp,m - 1,by omega,k + 1,v + 1 + 1,by omega,?_⟩
                simp [trim_mk,go_sem,subHeap,renObj,renCell,renLeaf,pos,List.range_succ,cSi,cE,hs]
              · have hs:=insK_before (e:=e) hlt (show k < p by omega)
                have hle:lessB e.id (nth ws k).id=false:=lessB_asym (p2 k (by omega))
                have hp':¬ p < k + 1:=by omega
                simp only [go_sem,hlt,hg,hp,cE,cSi]
                refine ops_call (.pureE (isAhead_meets e.id (nth ws k).id) (by simp [go_sem,cId])) ?_
                rw [hle]
                simp only [go_sem,hlt,hg,cE,cSi]
                repeat refine ⟨rfl,?_⟩
                rw [app_arr rfl rfl (by simp) (by simp; omega)]
                simp only [go_sem,wk]
                repeat refine ⟨rfl,?_⟩
                refine ⟨by simp,m - 1,by omega,k + 1,v + 1,by omega,?_⟩
                simp [trim_mk,go_sem,subHeap,renObj,renCell,renLeaf,pos,List.range_succ,cSi,cE,hs,hp,hp']
          · obtain rfl:k=ws.length:=by omega
            have hkl:=insK_len ws e p ws.length
            by_cases hp:p < ws.length
            · have hins:insK ws e p ws.length=ws.insertIdx p e:=by rw [hinsK,if_pos hp]
              simp only [go_sem,hlt,hp,cSi,cE]
              rw [hins]
              refine ops_call (.pureME (H1 := [.box (cSi r lg ws),.box (cE e),.box [.int .i64 0,.nilsl,.nilsl],.box [.int .i64 r,.list (lg.map cE),.arr 4 (v)],.arr (v) false false 46 5 ((ws.insertIdx p e).map cE)]) (settledR_meets _ r lg (ws.insertIdx p e) rfl (by rw [hil]; omega) hf1 (fit_ins hf2 he p1)) (Milder.shut 4 rfl) (by simp [go_sem,frzAt,pos,cSi])) ?_
              rw [show settled lg (ws.insertIdx p e)=rcP lg ws e from by rw [rcP,hpe]]
              by_cases g1:(20:Int) < ((rcP lg ws e).2.length:Int)
              · have e1:rcErr r lg ws e=2:=by rw [e0,if_pos (by omega)]
                simp only [go_sem,g1,cSi,cE,cSi3]
                refine ret_pure hx ?_
                simp [go_sem,L75,R75,rcSi,e1,h1,h2,cSi3,cSi,cE,frzAt,pos]
              · by_cases g2:(40:Int) < ((rcP lg ws e).1.length:Int)
                · have e1:rcErr r lg ws e=2:=by rw [e0,if_pos (by omega)]
                  simp only [go_sem,g1,g2,cSi,cE,cSi3]
                  refine ret_pure hx ?_
                  simp [go_sem,L75,R75,rcSi,e1,h1,h2,cSi3,cSi,cE,frzAt,pos]
                · have e1:rcErr r lg ws e=0:=by rw [e0,if_neg (by omega)]
                  simp only [go_sem,g1,g2,cSi,cE,cSi3]
                  refine ret_pure hx ?_
                  simp [go_sem,L75,R75,rcSi,e1,h1,h2,cSi3,cSi,cE,frzAt,pos]
            · have hpl:p=ws.length:=by omega
              simp only [go_sem,hlt,hp,cSi,cE]
              rw [app_arr rfl rfl (by simp) (by simp; omega)]
              simp only [go_sem,cSi,cE]
              have hins:List.map cE (insK ws e p ws.length) ++ [[PV.int .i64 e.id.r,.int .i64 e.id.n,.int .i64 e.c,.str e.t,.list (e.ls.map cId)]]=(ws.insertIdx p e).map cE:=by
                rw [hinsK,if_neg hp,hpl,insE_end]; simp [cE]
              rw [hins]
              refine ops_call (.pureME (H1 := [.box (cSi r lg ws),.box (cE e),.box [.int .i64 0,.nilsl,.nilsl],.box [.int .i64 r,.list (lg.map cE),.arr 4 (v + 1)],.arr (v + 1) false false 46 5 ((ws.insertIdx p e).map cE)]) (settledR_meets _ r lg (ws.insertIdx p e) rfl (by rw [hil]; omega) hf1 (fit_ins hf2 he p1)) (Milder.shut 4 rfl) (by simp [go_sem,frzAt,pos,cSi])) ?_
              rw [show settled lg (ws.insertIdx p e)=rcP lg ws e from by rw [rcP,hpe]]
              by_cases g1:(20:Int) < ((rcP lg ws e).2.length:Int)
              · have e1:rcErr r lg ws e=2:=by rw [e0,if_pos (by omega)]
                simp only [go_sem,g1,cSi,cE,cSi3]
                refine ret_pure hx ?_
                simp [go_sem,L75,R75,rcSi,e1,h1,h2,cSi3,cSi,cE,frzAt,pos]
              · by_cases g2:(40:Int) < ((rcP lg ws e).1.length:Int)
                · have e1:rcErr r lg ws e=2:=by rw [e0,if_pos (by omega)]
                  simp only [go_sem,g1,g2,cSi,cE,cSi3]
                  refine ret_pure hx ?_
                  simp [go_sem,L75,R75,rcSi,e1,h1,h2,cSi3,cSi,cE,frzAt,pos]
                · have e1:rcErr r lg ws e=0:=by rw [e0,if_neg (by omega)]
                  simp only [go_sem,g1,g2,cSi,cE,cSi3]
                  refine ret_pure hx ?_
                  simp [go_sem,L75,R75,rcSi,e1,h1,h2,cSi3,cSi,cE,frzAt,pos]
end Go.Proofs.YtfdolehffjmdmaaGreatDoor
/- Bytes: writing an entry. -/
namespace Go.Proofs.YtfdolehffjmdmaaGreatDoor
set_option linter.unusedSimpArgs false
set_option linter.unusedVariables false
open Go.RowKit
def e0:Entry:=⟨⟨0,1⟩,1,BA [112,117,116,32,97,32,120],[]⟩
def e1:Entry:=⟨⟨1,1⟩,3,BA [112,117,116,32,97,32,121],[]⟩
def e2:Entry:=⟨⟨0,2⟩,3,BA [100,114,111,112,32,97],[⟨0,1⟩]⟩
def e3:Entry:=⟨⟨1,2⟩,2,BA [112,117,116,32,98,32,122],[⟨0,2⟩,⟨1,1⟩]⟩
def cE0 (e:Entry):List PV := [.int .i64 e.id.r,.int .i64 e.id.n,.int .i64 e.c,.str e.t,if e.ls = [] then .nilsl else .list (e.ls.map cId)]
theorem entries_meets:Meets Tryz.prog 53 [] [] (.list [cE e0,cE e1,cE e2,cE e3]) []:=by
 refine Meets.nl (r := .list [cE0 e0,cE0 e1,cE0 e2,cE0 e3]) 4 ?_ (by simp [nlN,cE0,cE,cId,e0,e1,e2,e3])
 refine Meets.of_walk Tryz.func53 Tryz.ntmps53 low53 res53 (by simp) fun x hx=>?_
 simp only [go_sem,L53,R53]
 iterate 7
  refine ops_call (.pure (lawId_meets _ _)) ?_
  simp only [go_sem]
 refine ret_pure hx ?_
 simp [go_sem,L53,R53,cE0,cId,e0,e1,e2,e3,BA]
end Go.Proofs.YtfdolehffjmdmaaGreatDoor
/- What must be in any case of logs; DagTells,as a contract. -/
namespace Go.Proofs.YtfdolehffjmdmaaGreatDoor
set_option linter.unusedSimpArgs false
set_option linter.unusedVariables false
open Go.RowKit
end Go.Proofs.YtfdolehffjmdmaaGreatDoor
/- DagPast,DagHeads,as contracts. -/
namespace Go.Proofs.YtfdolehffjmdmaaGreatDoor
set_option linter.unusedSimpArgs false
set_option linter.unusedVariables false
open Go.RowKit
theorem nth_mem {α:Type} [Inhabited α] {l:List α} {k:Nat} (h:k < l.length):nth l k ∈ l:=by rw [nth_eq _ _ h]; exact List.getElem_mem h
theorem past_at {l:List Entry} (h0:checkLog l=0) {k:Nat} (hk:k < l.length):pastErr l (nth l k).id=0∧pastIds l (nth l k).id=pastOf l k:=by
 have hok:=log_ok.1 h0
 have hp:pastErr l (nth l k).id=0:=by
  rw [pastErr,if_neg (by simp [h0]),hok.find hk,if_neg (by omega)]
 exact ⟨hp,by rw [pastIds,if_pos hp,hok.find hk,Int.toNat_natCast]⟩
end Go.Proofs.YtfdolehffjmdmaaGreatDoor
/- DagParts,as a contract. -/
namespace Go.Proofs.YtfdolehffjmdmaaGreatDoor
set_option linter.unusedSimpArgs false
set_option linter.unusedVariables false
open Go.RowKit
theorem nth_take {α:Type} [Inhabited α] {l:List α} {n i:Nat} (hi:i < n) (hn:n≤l.length):nth (l.take n) i=nth l i:=by
 rw [nth_eq _ _ (by rw [List.length_take]; omega),nth_eq _ _ (by omega),List.getElem_take]
theorem LogOk.take {l:List Entry} (h:LogOk l) {n:Nat} (hn:n≤l.length):LogOk (l.take n) where
 len:=by rw [List.length_take]; have:=h.len; omega
 chk:=fun k hk=>by
  rw [List.length_take] at hk
  rw [nth_take (by omega) hn]; exact h.chk k (by omega)
 new:=fun k hk=>by
  rw [List.length_take] at hk
  rw [nth_take (by omega) hn,List.take_take,Nat.min_eq_left (by omega)]; exact h.new k (by omega)
 num:=fun k hk=>by
  rw [List.length_take] at hk
  rw [nth_take (by omega) hn,List.take_take,Nat.min_eq_left (by omega)]; exact h.num k (by omega)
 lnk:=fun k hk=>by
  rw [List.length_take] at hk
  rw [nth_take (by omega) hn,List.take_take,Nat.min_eq_left (by omega)]; exact h.lnk k (by omega)
theorem cntR_sum:∀ {l:List Entry},okReg l→cntR l 0 + cntR l 1=l.length
 | [],_=>rfl
 | e :: l,h=>by
  have ih:=cntR_sum (l:=l) fun x hx=>h x (by simp [hx])
  have he:=h e (by simp)
  simp only [cntR,List.countP_cons,List.length_cons,decide_eq_true_eq] at ih ⊢
  rcases he with he | he <;> simp [he] <;> omega
theorem cntR_mono {l:List Entry} {i n:Nat} (h:i≤n) (r:Int):cntR (l.take i) r≤cntR (l.take n) r :=
 List.Sublist.countP_le (List.take_sublist_take_left h)
end Go.Proofs.YtfdolehffjmdmaaGreatDoor
/- Sites: what is appended and what settles leaves a right log (plain). -/
namespace Go.Proofs.YtfdolehffjmdmaaGreatDoor
open Go.RowKit
theorem nth_app {l:List Entry} {e:Entry} {k:Nat} (h:k < l.length):nth (l ++ [e]) k=nth l k:=by
 rw [nth_eq _ _ (by simp; omega),nth_eq _ _ h,List.getElem_append_left h]
theorem nth_app_end (l:List Entry) (e:Entry):nth (l ++ [e]) l.length=e:=by
 rw [nth_eq _ _ (by simp)]; simp
theorem take_app {l:List Entry} {e:Entry} {k:Nat} (h:k≤l.length):(l ++ [e]).take k=l.take k:=by
 rw [List.take_append_of_le_length h]
theorem LogOk.cnt {l:List Entry} (h:LogOk l) (r:Int):cntR l r≤20:=by
 have key:∀ k,k≤l.length→cntR (l.take k) r≤20:=by
  intro k
  induction k with
  | zero=>intro _; simp [cntR]
  | succ k ih =>
   intro hk
   rw [cntR_take l k r (by omega)]
   by_cases e:(nth l k).id.r=r
   ·
    rw [if_pos e]
    have h1:=h.num k (by omega)
    have h2:=h.id_ok (k:=k) (by omega)
    simp only [okId,Bool.and_eq_true,wthn_iff] at h2
    rw [e] at h1
    omega
   ·
    rw [if_neg e]
    have:=ih (by omega)
    omega
 have:=key l.length (Nat.le_refl _)
 rwa [List.take_length] at this
theorem LogOk.num_le {l:List Entry} (h:LogOk l) {k:Nat} (hk:k < l.length):(nth l k).id.n≤(cntR l (nth l k).id.r:Int):=by
 have h1:=h.num k hk
 have h2:=cntR_take l k (nth l k).id.r hk
 rw [if_pos rfl] at h2
 have h3:=cntR_mono (l:=l) (i:=k + 1) (n:=l.length) (by omega) (nth l k).id.r
 rw [List.take_length] at h3
 omega
theorem ready_iff {l:List Entry} {e:Entry}:readyB l e=true↔(cntR l e.id.r:Int) + 1=e.id.n∧∀ x ∈ e.ls,0≤findE l x:=by
 simp only [readyB,Bool.and_eq_true,decide_eq_true_eq,Bool.not_eq_true',List.any_eq_false]
 exact ⟨fun ⟨a,b⟩=>⟨a,fun x hx=>by have:=b x hx; omega⟩,fun ⟨a,b⟩=>⟨a,fun x hx=>by have:=b x hx; omega⟩⟩
theorem LogOk.app_new {l:List Entry} {e:Entry} (h:LogOk l) (hr:(cntR l e.id.r:Int) + 1=e.id.n):findE l e.id < 0:=by
 rw [findE_neg]
 intro y hy he
 obtain ⟨k,hk,rfl⟩:=List.getElem_of_mem hy
 rw [← nth_eq _ _ hk] at he
 have:=h.num_le hk
 rw [he] at this
 omega
theorem LogOk.app {l:List Entry} {e:Entry} (h:LogOk l) (hc:checkEntry e=0) (hr:readyB l e=true):LogOk (l ++ [e]):=by
 obtain ⟨hn,hl⟩:=ready_iff.1 hr
 have hnew:=h.app_new hn
 have h1:∀ k,k < l.length + 1→(k < l.length∧nth (l ++ [e]) k=nth l k∧(l ++ [e]).take k=l.take k)∨(nth (l ++ [e]) k=e∧(l ++ [e]).take k=l):=by
  intro k hk
  by_cases hlt:k < l.length
  ·
   exact .inl ⟨hlt,nth_app hlt,take_app (by omega)⟩
  ·
   obtain rfl:k=l.length:=by omega
   exact .inr ⟨nth_app_end l e,by rw [take_app (Nat.le_refl _),List.take_length]⟩
 have hb:=(check_ok_bounds hc).1
 simp only [okId,Bool.and_eq_true,wthn_iff] at hb
 have hlen:l.length + 1≤40:=by
  have s:=cntR_sum h.reg
  have c0:=h.cnt 0
  have c1:=h.cnt 1
  have hr2:e.id.r=0∨e.id.r=1:=by omega
  rcases hr2 with q | q
  all_goals
   rw [q] at hn
   omega
 refine ⟨by simp; omega,fun k hk=>?_,fun k hk=>?_,fun k hk=>?_,fun k hk=>?_⟩
 all_goals
  rw [List.length_append,List.length_singleton] at hk
  rcases h1 k hk with ⟨a,b,c⟩ | ⟨b,c⟩
 ·
  rw [b]; exact h.chk k a
 ·
  rw [b]; exact hc
 ·
  rw [b,c]; exact h.new k a
 ·
  rw [b,c]; exact hnew
 ·
  rw [b,c]; exact h.num k a
 ·
  rw [b,c]; exact hn
 ·
  rw [b,c]; exact h.lnk k a
 ·
  rw [b,c]; exact hl
theorem rdyI_ready {lg ws:List Entry} (h:0≤rdyI lg ws):readyB lg (nth ws (rdyI lg ws).toNat)=true:=by
 obtain ⟨k,h1,h2,h3⟩:=idxF_spec (readyB lg) ws 0 h
 have:(rdyI lg ws).toNat=k:=by unfold rdyI; rw [h1]; simp
 rw [this]; exact h3
theorem settleN_ok:∀ (k:Nat) (lg ws:List Entry),LogOk lg→(∀ e ∈ ws,checkEntry e=0)→LogOk (settleN k lg ws).1∧(∀ e ∈ (settleN k lg ws).2,e ∈ ws)∧∃ t,(settleN k lg ws).1=lg ++ t∧∀ e ∈ t,e ∈ ws
 | 0,lg,ws,h,_=>⟨h,fun e he=>he,[],by simp [settleN],by simp⟩
 | k + 1,lg,ws,h,hc=>by
  rw [settleN]
  split
  ·
   rename_i hr
   have hm:=nthM (rdyI_lt hr)
   obtain ⟨a,b,t,c,d⟩:=settleN_ok k (lg ++ [nth ws (rdyI lg ws).toNat]) (ws.eraseIdx (rdyI lg ws).toNat) (h.app (hc _ hm) (rdyI_ready hr)) (fun e he=>hc e (List.mem_of_mem_eraseIdx he))
   refine ⟨a,fun e he=>List.mem_of_mem_eraseIdx (b e he),nth ws (rdyI lg ws).toNat :: t,by rw [c]; simp,fun e he=>?_⟩
   rcases List.mem_cons.1 he with q | q
   ·
    rw [q]; exact hm
   ·
    exact List.mem_of_mem_eraseIdx (d e q)
  ·
   exact ⟨h,fun e he=>he,[],by simp,by simp⟩
theorem settled_ok {lg ws:List Entry} (h:LogOk lg) (hc:∀ e ∈ ws,checkEntry e=0):LogOk (settled lg ws).1∧(∀ e ∈ (settled lg ws).2,e ∈ ws)∧∃ t,(settled lg ws).1=lg ++ t∧∀ e ∈ t,e ∈ ws:=settleN_ok _ _ _ h hc
theorem heads_in {lg:List Entry} (h:LogOk lg) {c:Int} {x:Id} (hx:x ∈ sortI (headsC lg c)):∃ k,k < lg.length∧(nth lg k).id=x∧meetB (nth lg k).c c=true:=by
 obtain ⟨k,a,b,d,-⟩:=(mem_headsC h).1 (sortI_mem.1 hx)
 exact ⟨k,a,b,d⟩
theorem apE_ok {r:Int} {lg:List Entry} {c:Int} {t:ByteArray} (hr:r=0∨r=1) (h:LogOk lg) (he:apErr r lg c t=0):checkEntry (apE r lg c t)=0∧readyB lg (apE r lg c t)=true:=by
 unfold apErr at he
 split at he
 ·
  cases he
 ·
  rename_i hc
  split at he
  ·
   cases he
  ·
   rename_i hq
   have hq1:¬ 12 < t.size:=by omega
   have hq2:¬ (20:Int) < (cntR lg r:Int) + 1:=by omega
   have hq3:¬ 6 < (sortI (headsC lg c)).length:=by omega
   have hid:okId (apE r lg c t).id=true:=by
    simp only [apE,okId,Bool.and_eq_true,wthn_iff]; omega
   have hasc:Asc (sortI (headsC lg c)):=sortI_asc (headsC_nodup h c)
   have hin:∀ j,j < (sortI (headsC lg c)).length→∃ k,k < lg.length∧(nth lg k).id=nth (sortI (headsC lg c)) j:=fun j hj=>by
    obtain ⟨k,a,b,-⟩:=heads_in h (nth_mem hj)
    exact ⟨k,a,b⟩
   refine ⟨?_,ready_iff.2 ⟨rfl,fun x hx=>?_⟩⟩
   ·
    rw [checkEntry,if_neg (by simp [hid]),if_neg (by simpa [apE] using hc),if_neg (by simpa [apE] using hq1),if_neg (by simpa [apE] using hq3),firstNZ_zero]
    intro j hj
    have hj':j < (sortI (headsC lg c)).length:=hj
    obtain ⟨k,hk,hke⟩:=hin j hj'
    show linkErr (apE r lg c t).id (sortI (headsC lg c)) j=0
    rw [linkErr,← hke,if_neg (by simp [h.id_ok hk]),hke,if_neg,if_neg]
    ·
     rintro ⟨a,b⟩
     have:=h.num_le hk
     rw [hke] at this
     simp only [apE] at a b
     rw [a] at this
     omega
    ·
     intro q
     simp only [Bool.and_eq_true,decide_eq_true_eq,Bool.not_eq_true'] at q
     obtain ⟨q1,q2⟩:=q
     have:=(List.pairwise_iff_getElem.1 hasc) (j - 1) j (by omega) hj' (by omega)
     rw [← nth_eq,← nth_eq,q2] at this
     cases this
   ·
    obtain ⟨k,hk,hke,-⟩:=heads_in h hx
    rw [← hke,h.find hk]; omega
theorem apE_log {r:Int} {lg:List Entry} {c:Int} {t:ByteArray} (hr:r=0∨r=1) (h:LogOk lg) (he:apErr r lg c t=0):LogOk (lg ++ [apE r lg c t]):=by
 obtain ⟨a,b⟩:=apE_ok hr h he
 exact h.app a b
end Go.Proofs.YtfdolehffjmdmaaGreatDoor
/- Sites: what comes,what is appended and what settles leaves a right site (plain). -/
namespace Go.Proofs.YtfdolehffjmdmaaGreatDoor
open Go.RowKit
structure WaitOk (q:Int) (lg ws:List Entry):Prop where
 up:upE ws
 chk:∀ e ∈ ws,checkEntry e=0
 other:∀ e ∈ ws,e.id.r≠q
 new:∀ e ∈ ws,findE lg e.id < 0
theorem memE {ws:List Entry} {e:Entry}:e ∈ ws↔∃ k,k < ws.length∧nth ws k=e:=by
 constructor
 ·
  intro h
  obtain ⟨k,hk,rfl⟩:=List.getElem_of_mem h
  exact ⟨k,hk,nth_eq _ _ hk⟩
 ·
  rintro ⟨k,hk,rfl⟩
  exact nthM hk
theorem siErr_iff {q:Int} {lg ws:List Entry}:siErr q lg ws=0↔(q=0∨q=1)∧LogOk lg∧ws.length≤20∧WaitOk q lg ws∧∀ e ∈ ws,readyB lg e=false:=by
 have hb:∀ k,siBad q lg ws k=false↔(0 < k→lessB (nth ws (k - 1)).id (nth ws k).id=true)∧(nth ws k).id.r≠q∧findE lg (nth ws k).id < 0∧readyB lg (nth ws k)=false:=by
  intro k
  unfold siBad
  simp only [Bool.or_eq_false_iff,Bool.and_eq_false_iff,decide_eq_false_iff_not,Bool.not_eq_false',and_assoc,Int.not_le]
  constructor
  ·
   rintro ⟨a,b,c,d⟩
   exact ⟨fun hk=>a.resolve_left (by omega),b,c,d⟩
  ·
   rintro ⟨a,b,c,d⟩
   refine ⟨?_,b,c,d⟩
   by_cases hk:0 < k
   ·
    exact .inr (a hk)
   ·
    exact .inl hk
 constructor
 ·
  intro h
  obtain ⟨a,b,c,d⟩:=siErr_ok h
  refine ⟨a,b,c,⟨siErr_up h,fun e he=>?_,fun e he=>?_,fun e he=>?_⟩,fun e he=>?_⟩
  all_goals
   obtain ⟨k,hk,rfl⟩:=memE.1 he
   obtain ⟨d1,d2⟩:=d k hk
   have d3:=(hb k).1 d2
  ·
   exact d1
  ·
   exact d3.2.1
  ·
   exact d3.2.2.1
  ·
   exact d3.2.2.2
 ·
  rintro ⟨a,b,c,d,e⟩
  rw [siErr,if_neg (by simp [a]),if_neg (by simp [log_ok.2 b]),if_neg (by omega),firstNZ_zero]
  intro k hk
  have hm:=nthM hk
  rw [siWait,if_neg (by simp [d.chk _ hm]),if_neg]
  rw [Bool.not_eq_true]
  exact (hb k).2 ⟨fun h0=>d.up (k - 1) k (by omega) hk,d.other _ hm,d.new _ hm,e _ hm⟩
theorem upE_iff {ws:List Entry}:upE ws↔ws.Pairwise fun a b=>lessB a.id b.id=true:=by
 rw [List.pairwise_iff_getElem]
 constructor
 ·
  intro h i j hi hj hij
  have:=h i j hij hj
  rwa [nth_eq _ _ hi,nth_eq _ _ hj] at this
 ·
  intro h i j hij hj
  have:=h i j (by omega) hj hij
  rwa [← nth_eq,← nth_eq] at this
theorem upE_erase {ws:List Entry} (h:upE ws) (i:Nat):upE (ws.eraseIdx i):=upE_iff.2 ((upE_iff.1 h).sublist (List.eraseIdx_sublist ..))
theorem findE_app {lg:List Entry} {e:Entry} {y:Id} (h:findE lg y < 0) (hn:e.id≠y):findE (lg ++ [e]) y < 0:=by
 rw [findE_neg] at *
 intro x hx
 rcases List.mem_append.1 hx with q | q
 ·
  exact h x q
 ·
  simp at q; subst q; exact hn
theorem erase_ne {ws:List Entry} (h:upE ws) {i:Nat} (hi:i < ws.length) {e:Entry} (he:e ∈ ws.eraseIdx i):(nth ws i).id≠e.id:=by
 rw [List.mem_eraseIdx_iff_getElem] at he
 obtain ⟨j,hj,hji,rfl⟩:=he
 rw [← nth_eq ws j hj]
 intro hq
 rcases Nat.lt_trichotomy i j with a | a | a
 ·
  have:=h i j a hj
  rw [hq,lessB_irr] at this; cases this
 ·
  omega
 ·
  have:=h j i a hi
  rw [hq,lessB_irr] at this; cases this
theorem WaitOk.step {q:Int} {lg ws:List Entry} (h:WaitOk q lg ws) {i:Nat} (hi:i < ws.length):WaitOk q (lg ++ [nth ws i]) (ws.eraseIdx i) :=
 ⟨upE_erase h.up i,fun e he=>h.chk e (List.mem_of_mem_eraseIdx he),fun e he=>h.other e (List.mem_of_mem_eraseIdx he),fun e he=>findE_app (h.new e (List.mem_of_mem_eraseIdx he)) (erase_ne h.up hi he)⟩
theorem not_ready {lg ws:List Entry} (h:¬ 0≤rdyI lg ws):∀ e ∈ ws,readyB lg e=false:=by
 have:=idxF_any (readyB lg) ws
 rw [show idxF (readyB lg) ws 0=rdyI lg ws from rfl,decide_eq_false h] at this
 intro e he
 have:=List.any_eq_false.1 this.symm e he
 simpa using this
theorem settleN_right:∀ (k:Nat) (q:Int) (lg ws:List Entry),ws.length≤k→WaitOk q lg ws→WaitOk q (settleN k lg ws).1 (settleN k lg ws).2∧∀ e ∈ (settleN k lg ws).2,readyB (settleN k lg ws).1 e=false
 | 0,q,lg,ws,hk,h=>by
  obtain rfl:=List.length_eq_zero_iff.1 (Nat.le_zero.1 hk)
  exact ⟨h,fun e he=>by simp [settleN] at he⟩
 | k + 1,q,lg,ws,hk,h=>by
  rw [settleN]
  split
  ·
   rename_i hr
   have hl:=rdyI_lt hr
   exact settleN_right k q _ _ (by rw [List.length_eraseIdx,if_pos hl]; omega) (h.step hl)
  ·
   rename_i hr
   exact ⟨h,not_ready hr⟩
theorem settled_right {q:Int} {lg ws:List Entry} (h:WaitOk q lg ws):WaitOk q (settled lg ws).1 (settled lg ws).2∧∀ e ∈ (settled lg ws).2,readyB (settled lg ws).1 e=false:=settleN_right _ q lg ws (Nat.le_refl _) h
theorem ap_right {q:Int} {lg ws:List Entry} {c:Int} {t:ByteArray} (h0:siErr q lg ws=0) (h1:apErr q lg c t=0):siErr q (settled (lg ++ [apE q lg c t]) ws).1 (settled (lg ++ [apE q lg c t]) ws).2=0:=by
 obtain ⟨hq,hok,hw,hwo,-⟩:=siErr_iff.1 h0
 have hwo2:WaitOk q (lg ++ [apE q lg c t]) ws:=⟨hwo.up,hwo.chk,hwo.other,fun e he=>findE_app (hwo.new e he) fun hn=>hwo.other e he (by rw [← hn]; rfl)⟩
 obtain ⟨a,b⟩:=settled_right hwo2
 have hs:=(settled_sum (lg ++ [apE q lg c t]) ws).2
 exact siErr_iff.2 ⟨hq,(settled_ok (apE_log hq hok h1) hwo.chk).1,by omega,a,b⟩
theorem ins_split (e:Entry):∀ (l:List Entry) (p:Nat),p≤l.length→l.insertIdx p e=l.take p ++ e :: l.drop p
 | _,0,_=>by simp
 | [],p + 1,h=>by simp at h
 | y :: l,p + 1,h=>by
  simp only [List.insertIdx_succ_cons,List.take_succ_cons,List.drop_succ_cons,List.cons_append]
  rw [ins_split e l p (by simpa using h)]
theorem upE_ins {ws:List Entry} {e:Entry} (h:upE ws) (hn:¬ 0≤findE ws e.id):upE (ws.insertIdx (posE ws e.id) e):=by
 obtain ⟨p1,p2,p3⟩:=posE_spec h e.id
 have hne:=findE_not hn
 have hil:ws.insertIdx (posE ws e.id) e=ws.take (posE ws e.id) ++ e :: ws.drop (posE ws e.id):=ins_split e _ _ p1
 rw [upE_iff,hil,List.pairwise_append]
 have hp:=upE_iff.1 h
 have t1:∀ a ∈ ws.take (posE ws e.id),lessB a.id e.id=true:=fun a ha=>by
  rw [List.mem_take_iff_getElem] at ha
  obtain ⟨k,hk,rfl⟩:=ha
  rw [← nth_eq _ _ (by omega)]
  exact p2 k (by omega)
 have t2:∀ b ∈ ws.drop (posE ws e.id),lessB e.id b.id=true:=fun b hb=>by
  rw [List.mem_drop_iff_getElem] at hb
  obtain ⟨k,hk,rfl⟩:=hb
  rw [← nth_eq _ _ (by omega)]
  have:=p3 (posE ws e.id + k) (by omega) (by omega)
  cases hq:lessB e.id (nth ws (posE ws e.id + k)).id
  ·
   exact (hne _ (nthM (by omega)) (idEq_of this hq)).elim
  ·
   rfl
 refine ⟨hp.sublist (List.take_sublist ..),List.pairwise_cons.2 ⟨fun b hb=>t2 b hb,hp.sublist (List.drop_sublist ..)⟩,fun a ha b hb=>?_⟩
 rcases List.mem_cons.1 hb with q | q
 ·
  rw [q]; exact t1 a ha
 ·
  exact lessB_trans (t1 a ha) (t2 b q)
end Go.Proofs.YtfdolehffjmdmaaGreatDoor
/- Sites: in whatever order two come,the same is left (plain). -/
namespace Go.Proofs.YtfdolehffjmdmaaGreatDoor
open Go.RowKit
def EId (W:List Entry):Prop:=W.Pairwise fun a b=>a.id≠b.id
theorem EId.inj {W:List Entry} (h:EId W) {a b:Entry} (ha:a ∈ W) (hb:b ∈ W) (e:a.id=b.id):a=b:=by
 obtain ⟨i,hi,rfl⟩:=List.getElem_of_mem ha
 obtain ⟨j,hj,rfl⟩:=List.getElem_of_mem hb
 have h2:=List.pairwise_iff_getElem.1 h
 rcases Nat.lt_trichotomy i j with q | q | q
 ·
  exact (h2 i j hi hj q e).elim
 ·
  subst q; rfl
 ·
  exact (h2 j i hj hi q e.symm).elim
theorem EId.perm {W V:List Entry} (h:EId W) (hp:V.Perm W):EId V:=(hp.pairwise_iff fun {a b} q r=>q r.symm).2 h
theorem LogOk.has_num {l:List Entry} (h:LogOk l) {r n:Int} (h1:1≤n) (h2:n≤(cntR l r:Int)):∃ e ∈ l,e.id=⟨r,n⟩:=by
 have key:∀ k,k≤l.length→n≤(cntR (l.take k) r:Int)→∃ e ∈ l,e.id=⟨r,n⟩:=by
  intro k
  induction k with
  | zero=>intro _ h; simp [cntR] at h; omega
  | succ k ih =>
   intro hk hn
   by_cases hle:n≤(cntR (l.take k) r:Int)
   ·
    exact ih (by omega) hle
   ·
    have hs:=cntR_take l k r (by omega)
    by_cases e:(nth l k).id.r=r
    ·
     have hm:=h.num k (by omega)
     rw [e] at hm
     rw [if_pos e] at hs
     refine ⟨_,nthM (by omega:k < l.length),?_⟩
     have:(nth l k).id.n=n:=by omega
     cases hid:(nth l k).id
     rw [hid] at e this
     simp only at e this
     rw [e,this]
    ·
     rw [if_neg e] at hs
     omega
 exact key l.length (Nat.le_refl _) (by rw [List.take_length]; exact h2)
theorem findE_pos {l:List Entry} {y:Id}:0≤findE l y↔∃ e ∈ l,e.id=y:=by
 constructor
 ·
  intro h
  obtain ⟨k,-,h2,h3⟩:=findE_spec h
  exact ⟨_,nthM h2,h3⟩
 ·
  rintro ⟨e,he,hy⟩
  by_cases h:findE l y < 0
  ·
   exact (findE_neg.1 h e he hy).elim
  ·
   omega
structure Settles (lg W A WA u:List Entry):Prop where
 eq:A=lg ++ u
 perm:(u ++ WA).Perm W
 rdy:∀ i,i < u.length→readyB (lg ++ u.take i) (nth u i)=true
theorem erase_permG:∀ (W:List Entry) (i:Nat) (h:i < W.length),(W[i] :: W.eraseIdx i).Perm W
 | x :: W,0,_=>List.Perm.refl _
 | x :: W,i + 1,h=>by
  have:=erase_permG W i (by simpa using h)
  simp only [List.getElem_cons_succ,List.eraseIdx_cons_succ]
  exact (List.Perm.swap x _ _).trans (List.Perm.cons x this)
theorem erase_perm {W:List Entry} {i:Nat} (h:i < W.length):(nth W i :: W.eraseIdx i).Perm W:=by
 rw [nth_eq _ _ h]
 exact erase_permG W i h
theorem settleN_how:∀ (k:Nat) (lg W:List Entry),∃ u,Settles lg W (settleN k lg W).1 (settleN k lg W).2 u
 | 0,lg,W=>⟨[],by simp [settleN],by simp [settleN],fun i hi=>by simp at hi⟩
 | k + 1,lg,W=>by
  rw [settleN]
  split
  ·
   rename_i hr
   have hl:=rdyI_lt hr
   have hrd:=rdyI_ready hr
   generalize (rdyI lg W).toNat=i at *
   obtain ⟨u,h1,h2,h3⟩:=settleN_how k (lg ++ [nth W i]) (W.eraseIdx i)
   refine ⟨nth W i :: u,by rw [h1]; simp,?_,fun j hj=>?_⟩
   ·
    exact (List.Perm.cons _ h2).trans (erase_perm hl)
   ·
    cases j with
    | zero=>simpa [nth] using hrd
    | succ j =>
     have hj':j < u.length:=by simpa using hj
     have:=h3 j hj'
     rw [nth_eq _ _ hj,List.take_succ_cons,List.getElem_cons_succ,← nth_eq _ _ hj']
     rwa [List.append_assoc] at this
  ·
   exact ⟨[],by simp,by simp,fun i hi=>by simp at hi⟩
theorem settled_how (lg W:List Entry):∃ u,Settles lg W (settled lg W).1 (settled lg W).2 u:=settleN_how _ _ _
theorem Settles.sub {lg W A WA u A' WA' u' : List Entry} (h : Settles lg W A WA u) (h' : Settles lg W A' WA' u') (hA : LogOk A) (hA' : LogOk A') (hn : ∀ e ∈ W, findE lg e.id < 0) (hid : EId W)
    (hfin:∀ e ∈ WA',readyB A' e=false):∀ i,i < u.length→nth u i ∈ u':=by
  intro i
  induction i using Nat.strongRecOn with
  | _ i ih =>
    intro hi
    have hW:nth u i ∈ W:=h.perm.mem_iff.1 (List.mem_append.2 (.inl (nthM hi)))
    rcases List.mem_append.1 (h'.perm.mem_iff.2 hW) with q | q
    · exact q
    · have hr:=hfin _ q
      have hrd:=ready_iff.1 (h.rdy i hi)
      have hin:∀ e ∈ lg ++ u.take i,e ∈ A':=fun e he=>by
        rw [h'.eq]
        rcases List.mem_append.1 he with z | z
        · exact List.mem_append.2 (.inl z)
        · rw [List.mem_take_iff_getElem] at z
          obtain ⟨j,hj,rfl⟩:=z
          rw [← nth_eq _ _ (by omega)]
          exact List.mem_append.2 (.inr (ih j (by omega) (by omega)))
      have hpre:LogOk (lg ++ u.take i):=by
        have:=hA.take (n:=lg.length + i) (by rw [h.eq]; simp; omega)
        rwa [h.eq,List.take_length_add_append] at this
      have hbad:readyB A' (nth u i)=true∨nth u i ∈ u':=by
        by_cases hc:(nth u i).id.n≤(cntR A' (nth u i).id.r:Int)
        · obtain ⟨y,hy,hye⟩:=hA'.has_num (r:=(nth u i).id.r) (n:=(nth u i).id.n) (by omega) hc
          have hye2:y.id=(nth u i).id:=hye
          rw [h'.eq] at hy
          rcases List.mem_append.1 hy with z | z
          · exact (findE_neg.1 (hn _ hW) y z hye2).elim
          · have:=hid.inj (h'.perm.mem_iff.1 (List.mem_append.2 (.inl z))) hW hye2
            exact .inr (this ▸ z)
        · left
          refine ready_iff.2 ⟨?_,fun y hy=>?_⟩
          · have hge:(cntR (lg ++ u.take i) (nth u i).id.r:Int)≤(cntR A' (nth u i).id.r:Int):=by
              by_cases h0:cntR (lg ++ u.take i) (nth u i).id.r=0
              · omega
              · obtain ⟨y,hy,hye⟩:=hpre.has_num (r:=(nth u i).id.r) (n:=(cntR (lg ++ u.take i) (nth u i).id.r:Int)) (by omega) (Int.le_refl _)
                obtain ⟨k,hk,rfl⟩:=memE.1 (hin y hy)
                have:=hA'.num_le hk
                rw [hye] at this
                exact this
            omega
          · obtain ⟨z,hz,hze⟩:=findE_pos.1 (hrd.2 y hy)
            exact findE_pos.2 ⟨z,hin z hz,hze⟩
      rcases hbad with z | z
      · rw [z] at hr; cases hr
      · exact z
theorem up_ext:∀ {l m:List Entry},(l.Pairwise fun a b=>lessB a.id b.id=true)→(m.Pairwise fun a b=>lessB a.id b.id=true)→(∀ x,x ∈ l↔x ∈ m)→l=m
 | [],[],_,_,_=>rfl
 | [],y :: m,_,_,h=>by have:=(h y).2 (by simp); simp at this
 | x :: l,[],_,_,h=>by have:=(h x).1 (by simp); simp at this
 | x :: l,y :: m,h1,h2,h=>by
  have h1':=List.pairwise_cons.1 h1
  have h2':=List.pairwise_cons.1 h2
  have hxy:x=y:=by
   rcases List.mem_cons.1 ((h x).1 (by simp)) with e | e
   ·
    exact e
   rcases List.mem_cons.1 ((h y).2 (by simp)) with e' | e'
   ·
    exact e'.symm
   have:=lessB_trans (h1'.1 y e') (h2'.1 x e)
   rw [lessB_irr] at this; cases this
  subst hxy
  rw [up_ext h1'.2 h2'.2 fun z=>?_]
  constructor
  ·
   intro hz
   rcases List.mem_cons.1 ((h z).1 (by simp [hz])) with e | e
   ·
    subst e; have:=h1'.1 z hz; rw [lessB_irr] at this; cases this
   ·
    exact e
  ·
   intro hz
   rcases List.mem_cons.1 ((h z).2 (by simp [hz])) with e | e
   ·
    subst e; have:=h2'.1 z hz; rw [lessB_irr] at this; cases this
   ·
    exact e
theorem mem_nth {u v:List Entry} (h:∀ i,i < u.length→nth u i ∈ v):∀ e ∈ u,e ∈ v:=fun e he=>by
 obtain ⟨k,hk,rfl⟩:=memE.1 he
 exact h k hk
theorem cnt_le {A A':List Entry} (hA:LogOk A) (hA':LogOk A') (h:∀ e ∈ A,e ∈ A') (r:Int):cntR A r≤cntR A' r:=by
 by_cases h0:cntR A r=0
 ·
  omega
 ·
  obtain ⟨y,hy,hye⟩:=hA.has_num (r:=r) (n:=(cntR A r:Int)) (by omega) (Int.le_refl _)
  obtain ⟨k,hk,rfl⟩:=memE.1 (h y hy)
  have:=hA'.num_le hk
  rw [hye] at this
  simp only at this
  omega
theorem Settles.same {q : Int} {lg W A WA u A' WA' u' : List Entry} (h : Settles lg W A WA u) (h' : Settles lg W A' WA' u') (hn : ∀ e ∈ W, findE lg e.id < 0) (hid : EId W) (hs : siErr q A WA = 0) (hs' : siErr q A' WA' = 0) :
    (∀ r,cntR A r=cntR A' r)∧WA=WA':=by
  obtain ⟨-,o,-,w,f⟩:=siErr_iff.1 hs
  obtain ⟨-,o',-,w',f'⟩:=siErr_iff.1 hs'
  have s1:=mem_nth (h.sub h' o o' hn hid f')
  have s2:=mem_nth (h'.sub h o' o hn hid f)
  have a1:∀ e ∈ A,e ∈ A':=fun e he=>by
    rw [h.eq] at he; rw [h'.eq]
    rcases List.mem_append.1 he with z | z
    · exact List.mem_append.2 (.inl z)
    · exact List.mem_append.2 (.inr (s1 e z))
  have a2:∀ e ∈ A',e ∈ A:=fun e he=>by
    rw [h'.eq] at he; rw [h.eq]
    rcases List.mem_append.1 he with z | z
    · exact List.mem_append.2 (.inl z)
    · exact List.mem_append.2 (.inr (s2 e z))
  refine ⟨fun r=>Nat.le_antisymm (cnt_le o o' a1 r) (cnt_le o' o a2 r),up_ext (upE_iff.1 w.up) (upE_iff.1 w'.up) fun x=>?_⟩
  have n1:=List.pairwise_append.1 (hid.perm h.perm)
  have n2:=List.pairwise_append.1 (hid.perm h'.perm)
  constructor
  · intro hx
    rcases List.mem_append.1 (h'.perm.mem_iff.2 (h.perm.mem_iff.1 (List.mem_append.2 (.inr hx)))) with z | z
    · exact (n1.2.2 x (s2 x z) x hx rfl).elim
    · exact z
  · intro hx
    rcases List.mem_append.1 (h.perm.mem_iff.2 (h'.perm.mem_iff.1 (List.mem_append.2 (.inr hx)))) with z | z
    · exact (n2.2.2 x (s1 x z) x hx rfl).elim
    · exact z
theorem Settles.trans {lg W A WA u B WB v:List Entry} {e:Entry} (h:Settles lg W A WA u) (h2:Settles A (WA.insertIdx (posE WA e.id) e) B WB v):Settles lg (e :: W) B WB (u ++ v):=by
 refine ⟨by rw [h2.eq,h.eq,List.append_assoc],?_,fun i hi=>?_⟩
 ·
  have p1:(WA.insertIdx (posE WA e.id) e).Perm (e :: WA):=by
   rw [ins_split e _ _ (posE_le ..)]
   refine List.perm_middle.trans (List.Perm.cons _ ?_)
   rw [List.take_append_drop]
  have p2:(v ++ WB).Perm (e :: WA):=h2.perm.trans p1
  rw [List.append_assoc]
  refine (List.Perm.append_left u p2).trans (List.perm_middle.trans (List.Perm.cons _ h.perm))
 ·
  by_cases hlt:i < u.length
  ·
   rw [List.take_append_of_le_length (by omega),nth_eq _ _ hi,List.getElem_append_left hlt,← nth_eq _ _ hlt]
   exact h.rdy i hlt
  ·
   have hi2:i - u.length < v.length:=by rw [List.length_append] at hi; omega
   have:=h2.rdy (i - u.length) hi2
   rw [h.eq] at this
   rw [nth_eq _ _ hi,List.getElem_append_right (by omega),← nth_eq _ _ hi2]
   rw [List.take_append,List.take_of_length_le (by omega),← List.append_assoc]
   exact this
end Go.Proofs.YtfdolehffjmdmaaGreatDoor
/- Sites: two that come,one way or the other (plain). -/
namespace Go.Proofs.YtfdolehffjmdmaaGreatDoor
open Go.RowKit
def there (lg ws:List Entry) (y:Id):Prop:=∃ x,(x ∈ lg∨x ∈ ws)∧x.id=y
theorem there_iff {lg ws:List Entry} {y:Id}:(0≤findE lg y∨0≤findE ws y)↔there lg ws y:=by
 rw [findE_pos,findE_pos]
 constructor
 ·
  rintro (⟨e,h,he⟩ | ⟨e,h,he⟩)
  ·
   exact ⟨e,.inl h,he⟩
  ·
   exact ⟨e,.inr h,he⟩
 ·
  rintro ⟨e,h | h,he⟩
  ·
   exact .inl ⟨e,h,he⟩
  ·
   exact .inr ⟨e,h,he⟩
theorem Settles.there_iff {lg W A WA u:List Entry} (h:Settles lg W A WA u) {y:Id}:there A WA y↔there lg W y:=by
 constructor
 ·
  rintro ⟨x,hx,hy⟩
  refine ⟨x,?_,hy⟩
  rw [h.eq] at hx
  rcases hx with z | z
  ·
   rcases List.mem_append.1 z with z | z
   ·
    exact .inl z
   ·
    exact .inr (h.perm.mem_iff.1 (List.mem_append.2 (.inl z)))
  ·
   exact .inr (h.perm.mem_iff.1 (List.mem_append.2 (.inr z)))
 ·
  rintro ⟨x,hx,hy⟩
  refine ⟨x,?_,hy⟩
  rw [h.eq]
  rcases hx with z | z
  ·
   exact .inl (List.mem_append.2 (.inl z))
  ·
   rcases List.mem_append.1 (h.perm.mem_iff.2 z) with z | z
   ·
    exact .inl (List.mem_append.2 (.inr z))
   ·
    exact .inr z
theorem there_ins {lg ws:List Entry} {e:Entry} {y:Id}:there lg (ws.insertIdx (posE ws e.id) e) y↔there lg ws y∨e.id=y:=by
 unfold there
 simp only [List.mem_insertIdx (posE_le ws e.id)]
 constructor
 ·
  rintro ⟨x,h | h | h,hy⟩
  ·
   exact .inl ⟨x,.inl h,hy⟩
  ·
   exact .inr (h ▸ hy)
  ·
   exact .inl ⟨x,.inr h,hy⟩
 ·
  rintro (⟨x,h | h,hy⟩ | hy)
  ·
   exact ⟨x,.inl h,hy⟩
  ·
   exact ⟨x,.inr (.inr h),hy⟩
  ·
   exact ⟨e,.inr (.inl rfl),hy⟩
theorem WaitOk.ins {q:Int} {lg ws:List Entry} {e:Entry} (h:WaitOk q lg ws) (h1:checkEntry e=0) (hn:¬ there lg ws e.id) (hr:e.id.r≠q):WaitOk q lg (ws.insertIdx (posE ws e.id) e):=by
 have hn2:¬ (0≤findE lg e.id∨0≤findE ws e.id):=fun z=>hn (there_iff.1 z)
 refine ⟨upE_ins h.up (by omega),fun y hy=>?_,fun y hy=>?_,fun y hy=>?_⟩
 all_goals
  rcases (List.mem_insertIdx (posE_le ws e.id)).1 hy with z | z
 ·
  rw [z]; exact h1
 ·
  exact h.chk y z
 ·
  rw [z]; exact hr
 ·
  exact h.other y z
 ·
  rw [z]; omega
 ·
  exact h.new y z
theorem WaitOk.len {q:Int} {lg ws:List Entry} (hq:q=0∨q=1) (h:WaitOk q lg ws):ws.length≤20:=by
 have hb:∀ e ∈ ws,(e.id.r=0∨e.id.r=1)∧1≤e.id.n∧e.id.n < 21:=fun e he=>by
  have:=(check_ok_bounds (h.chk e he)).1
  simp only [okId,Bool.and_eq_true,wthn_iff] at this
  omega
 have hp:(ws.map fun e=>e.id.n).Pairwise (· < ·):=by
  rw [List.pairwise_map,List.pairwise_iff_getElem]
  intro i j hi hj hij
  have h1:=(List.pairwise_iff_getElem.1 (upE_iff.1 h.up)) i j hi hj hij
  have m1:=List.getElem_mem hi
  have m2:=List.getElem_mem hj
  have b1:=hb _ m1
  have b2:=hb _ m2
  have o1:=h.other _ m1
  have o2:=h.other _ m2
  simp only [lessB,decide_eq_true_eq] at h1
  omega
 have:=rise_len _ 1 21 hp (fun x hx=>by
  obtain ⟨e,he,rfl⟩:=List.mem_map.1 hx
  have:=hb e he
  omega) (by omega)
 rw [List.length_map] at this
 omega
theorem rc_there {q:Int} {lg ws:List Entry} {e:Entry} (h0:siErr q lg ws=0) (h1:checkEntry e=0) (h:there lg ws e.id):rcErrX q lg ws e=0∧rcSiX q lg ws e=(q,lg,ws):=by
 have h2:=there_iff.2 h
 constructor
 ·
  rw [rcErrX,if_neg (by simp [h0]),if_neg (by simp [h1]),rcErr,if_pos h2]
 ·
  rw [rcSiX,if_neg (by simp [h0,h1]),rcSi,if_pos h2]
theorem rc_new {q:Int} {lg ws:List Entry} {e:Entry} (h0:siErr q lg ws=0) (h1:checkEntry e=0) (h:¬ there lg ws e.id) (hr:e.id.r≠q):rcErrX q lg ws e=0∧rcSiX q lg ws e=(q,(rcP lg ws e).1,(rcP lg ws e).2)∧siErr q (rcP lg ws e).1 (rcP lg ws e).2=0∧∃ u,Settles lg (ws.insertIdx (posE ws e.id) e) (rcP lg ws e).1 (rcP lg ws e).2 u:=by
 have h2:¬ (0≤findE lg e.id∨0≤findE ws e.id):=fun z=>h (there_iff.1 z)
 obtain ⟨hq,hok,hw,hwo,-⟩:=siErr_iff.1 h0
 have hwo2:=hwo.ins h1 h hr
 obtain ⟨a,b⟩:=settled_right hwo2
 obtain ⟨c,-,-⟩:=settled_ok hok hwo2.chk
 have hl:=a.len hq
 have hc:=c.len
 have he:rcErr q lg ws e=0:=by
  rw [rcErr,if_neg h2,if_neg hr,if_neg]
  show ¬ (20 < (settled lg (ws.insertIdx (posE ws e.id) e)).2.length∨40 < (settled lg (ws.insertIdx (posE ws e.id) e)).1.length)
  omega
 refine ⟨?_,?_,siErr_iff.2 ⟨hq,c,hl,a,b⟩,settled_how ..⟩
 ·
  rw [rcErrX,if_neg (by simp [h0]),if_neg (by simp [h1]),he]
 ·
  rw [rcSiX,if_neg (by simp [h0,h1]),rcSi,if_neg h2,if_pos he]
end Go.Proofs.YtfdolehffjmdmaaGreatDoor
/- Worlds: what is right,what an act does (plain). -/
namespace Go.Proofs.YtfdolehffjmdmaaGreatDoor
open Go.RowKit
theorem sameE_iff {a b:Entry}:sameE a b=true↔a=b:=by
 rw [Entry.eq_iff]; simp [sameE,and_assoc]
structure Wo where
 p:List Entry
 u:List Entry
 q:List Entry
 v:List Entry
 a:List Entry
 b:List Entry
def Wo.log (w:Wo) (i:Int):List Entry:=if i=0 then w.p else w.q
def Wo.wts (w:Wo) (i:Int):List Entry:=if i=0 then w.u else w.v
def Wo.way (w:Wo) (i:Int):List Entry:=if i=0 then w.a else w.b
def Wo.setS (w:Wo) (i:Int) (s:List Entry × List Entry):Wo:=if i=0 then { w with p:=s.1,u:=s.2 } else { w with q:=s.1,v:=s.2 }
def Wo.setY (w:Wo) (i:Int) (l:List Entry):Wo:=if i=0 then { w with a:=l } else { w with b:=l }
abbrev Si:=Int × List Entry × List Entry
def logAt (ss:List Si) (r:Int):List Entry:=(nth ss r.toNat).2.1
def bornB (ss:List Si) (e:Entry):Bool:=decide (0≤findE (logAt ss e.id.r) e.id) && sameE (nth (logAt ss e.id.r) (findE (logAt ss e.id.r) e.id).toNat) e
def wayE (ss:List Si) (l:List Entry) (k:Nat):Int:=if checkEntry (nth l k)=0 then (if bornB ss (nth l k)=true then 0 else 4) else checkEntry (nth l k)
def wayErr (ss:List Si) (l:List Entry):Int:=if 30 < l.length then 2 else firstNZ (wayE ss l) l.length
def steE (ss:List Si) (i:Nat):Int:=if siErr (nth ss i).1 (nth ss i).2.1 (nth ss i).2.2=0 then (if (nth ss i).1=(i:Int) then 0 else 4) else siErr (nth ss i).1 (nth ss i).2.1 (nth ss i).2.2
def strB (ss:List Si) (s:Si):Bool:=(s.2.1.any fun e => !bornB ss e) || s.2.2.any fun e => !bornB ss e
def woErr (ss:List Si) (ys:List (List Entry)):Int :=
 if ¬ (ss.length=2∧ys.length=2) then 1
 else if firstNZ (steE ss) 2≠0 then firstNZ (steE ss) 2
 else if firstNZ (fun i=>wayErr ss (nth ys i)) 2≠0 then firstNZ (fun i=>wayErr ss (nth ys i)) 2
 else if (strB ss (nth ss 0) || strB ss (nth ss 1))=true then 4 else 0
def Wo.ss (w:Wo):List Si := [(0,w.p,w.u),(1,w.q,w.v)]
def Wo.ys (w:Wo):List (List Entry) := [w.a,w.b]
def Born (w:Wo) (e:Entry):Prop:=e ∈ w.log e.id.r
structure WoOk (w:Wo):Prop where
 s0:siErr 0 w.p w.u=0
 s1:siErr 1 w.q w.v=0
 la:w.a.length≤30
 lb:w.b.length≤30
 ca:∀ e ∈ w.a,checkEntry e=0
 cb:∀ e ∈ w.b,checkEntry e=0
 ba:∀ e ∈ w.a,Born w e
 bb:∀ e ∈ w.b,Born w e
 bp:∀ e ∈ w.p,Born w e
 bu:∀ e ∈ w.u,Born w e
 bq:∀ e ∈ w.q,Born w e
 bv:∀ e ∈ w.v,Born w e
theorem logAt_of (w:Wo) {r:Int} (h:r=0∨r=1):logAt w.ss r=w.log r:=by
 rcases h with rfl | rfl
 ·
  rfl
 ·
  rfl
theorem LogOk.mem_find {l:List Entry} (h:LogOk l) {e:Entry} (he:e ∈ l):∃ k,k < l.length∧findE l e.id=k∧nth l k=e:=by
 obtain ⟨k,hk,rfl⟩:=memE.1 he
 exact ⟨k,hk,h.find hk,rfl⟩
theorem born_iff {w:Wo} (h0:LogOk w.p) (h1:LogOk w.q) {e:Entry} (hr:e.id.r=0∨e.id.r=1):bornB w.ss e=true↔Born w e:=by
 have hl:LogOk (w.log e.id.r):=by
  rcases hr with q | q
  ·
   rw [q]; exact h0
  ·
   rw [q]; exact h1
 rw [bornB,logAt_of w hr,Bool.and_eq_true,decide_eq_true_eq,sameE_iff]
 constructor
 ·
  rintro ⟨a,b⟩
  obtain ⟨k,c,d,-⟩:=findE_spec a
  rw [c,Int.toNat_natCast] at b
  rw [Born,← b]
  have:=nthM d
  rwa [b] at this ⊢
 ·
  intro hb
  obtain ⟨k,hk,hf,hn⟩:=hl.mem_find hb
  rw [hf,Int.toNat_natCast]
  exact ⟨by omega,hn⟩
theorem check_reg {e:Entry} (h:checkEntry e=0):e.id.r=0∨e.id.r=1:=reg_of_check h
theorem LogOk.mem_chk {l:List Entry} (h:LogOk l) {e:Entry} (he:e ∈ l):checkEntry e=0:=by
 obtain ⟨k,hk,rfl⟩:=memE.1 he
 exact h.chk k hk
theorem wayErr_iff {w:Wo} (h0:LogOk w.p) (h1:LogOk w.q) {l:List Entry}:wayErr w.ss l=0↔l.length≤30∧∀ e ∈ l,checkEntry e=0∧Born w e:=by
 have key:∀ k,wayE w.ss l k=0↔checkEntry (nth l k)=0∧Born w (nth l k):=by
  intro k
  unfold wayE
  by_cases hc:checkEntry (nth l k)=0
  ·
   rw [if_pos hc,← born_iff h0 h1 (check_reg hc)]
   by_cases hb:bornB w.ss (nth l k)=true
   ·
    rw [if_pos hb]; simp [hc,hb]
   ·
    rw [if_neg hb]; simp [hc,hb]
  ·
   rw [if_neg hc]; simp [hc]
 unfold wayErr
 by_cases hl:30 < l.length
 ·
  rw [if_pos hl]; constructor
  ·
   intro h; cases h
  ·
   rintro ⟨a,-⟩; omega
 ·
  rw [if_neg hl,firstNZ_zero]
  constructor
  ·
   intro h
   refine ⟨by omega,fun e he=>?_⟩
   obtain ⟨k,hk,rfl⟩:=memE.1 he
   exact (key k).1 (h k hk)
  ·
   rintro ⟨-,h⟩ k hk
   exact (key k).2 (h _ (nthM hk))
theorem strB_iff {w:Wo} (h0:LogOk w.p) (h1:LogOk w.q) {s:Si} (hs:∀ e,e ∈ s.2.1∨e ∈ s.2.2→e.id.r=0∨e.id.r=1):strB w.ss s=false↔(∀ e ∈ s.2.1,Born w e)∧∀ e ∈ s.2.2,Born w e:=by
 simp only [strB,Bool.or_eq_false_iff,List.any_eq_false,Bool.not_eq_true',Bool.not_eq_false]
 constructor
 ·
  rintro ⟨a,b⟩
  exact ⟨fun e he=>(born_iff h0 h1 (hs e (.inl he))).1 (a e he),fun e he=>(born_iff h0 h1 (hs e (.inr he))).1 (b e he)⟩
 ·
  rintro ⟨a,b⟩
  exact ⟨fun e he=>(born_iff h0 h1 (hs e (.inl he))).2 (a e he),fun e he=>(born_iff h0 h1 (hs e (.inr he))).2 (b e he)⟩
theorem si_reg {r:Int} {lg ws:List Entry} (h:siErr r lg ws=0):∀ e,e ∈ lg∨e ∈ ws→e.id.r=0∨e.id.r=1:=fun e he=>by
 obtain ⟨-,a,-,b,-⟩:=siErr_iff.1 h
 rcases he with q | q
 ·
  exact check_reg (a.mem_chk q)
 ·
  exact check_reg (b.chk e q)
theorem firstNZ2 (f:Nat→Int):firstNZ f 2=if f 0=0 then f 1 else f 0:=by
 simp only [firstNZ]
 by_cases h:f 0=0
 ·
  simp [h]
 ·
  simp [h]
theorem woErr_ok {w:Wo}:woErr w.ss w.ys=0↔WoOk w:=by
 unfold woErr
 rw [if_neg (by simp [Wo.ss,Wo.ys]),firstNZ2,firstNZ2]
 have e0:steE w.ss 0=siErr 0 w.p w.u:=by
  unfold steE
  show (if siErr 0 w.p w.u=0 then (if (0:Int)=((0:Nat):Int) then (0:Int) else 4) else siErr 0 w.p w.u)=_
  by_cases h:siErr 0 w.p w.u=0
  ·
   rw [if_pos h,if_pos (by simp),h]
  ·
   rw [if_neg h]
 have e1:steE w.ss 1=siErr 1 w.q w.v:=by
  unfold steE
  show (if siErr 1 w.q w.v=0 then (if (1:Int)=((1:Nat):Int) then (0:Int) else 4) else siErr 1 w.q w.v)=_
  by_cases h:siErr 1 w.q w.v=0
  ·
   rw [if_pos h,if_pos (by simp),h]
  ·
   rw [if_neg h]
 have n0:nth w.ys 0=w.a:=rfl
 have n1:nth w.ys 1=w.b:=rfl
 rw [e0,e1]
 simp only [n0,n1]
 by_cases h0:siErr 0 w.p w.u=0
 ·
  by_cases h1:siErr 1 w.q w.v=0
  ·
   obtain ⟨-,hp,-,-,-⟩:=siErr_iff.1 h0
   obtain ⟨-,hq,-,-,-⟩:=siErr_iff.1 h1
   simp only [h0,h1,if_true,ne_eq,not_true_eq_false,if_false]
   have wa:=wayErr_iff hp hq (l:=w.a)
   have wb:=wayErr_iff hp hq (l:=w.b)
   have x0:=strB_iff hp hq (s:=(0,w.p,w.u)) (si_reg h0)
   have x1:=strB_iff hp hq (s:=(1,w.q,w.v)) (si_reg h1)
   have y0:nth w.ss 0=(0,w.p,w.u):=rfl
   have y1:nth w.ss 1=(1,w.q,w.v):=rfl
   rw [y0,y1]
   by_cases ha:wayErr w.ss w.a=0
   ·
    by_cases hb:wayErr w.ss w.b=0
    ·
     simp only [ha,hb,if_true,not_true_eq_false,if_false]
     obtain ⟨a1,a2⟩:=wa.1 ha
     obtain ⟨b1,b2⟩:=wb.1 hb
     constructor
     ·
      intro h
      have hs:(strB w.ss (0,w.p,w.u) || strB w.ss (1,w.q,w.v))=false:=by
       cases hq:(strB w.ss (0,w.p,w.u) || strB w.ss (1,w.q,w.v))
       ·
        rfl
       ·
        rw [hq,if_pos rfl] at h; cases h
      rw [Bool.or_eq_false_iff] at hs
      obtain ⟨c1,c2⟩:=x0.1 hs.1
      obtain ⟨d1,d2⟩:=x1.1 hs.2
      exact ⟨h0,h1,a1,b1,fun e he=>(a2 e he).1,fun e he=>(b2 e he).1,fun e he=>(a2 e he).2,fun e he=>(b2 e he).2,c1,c2,d1,d2⟩
     ·
      intro h
      rw [x0.2 ⟨h.bp,h.bu⟩,x1.2 ⟨h.bq,h.bv⟩]; rfl
    ·
     simp only [ha,hb,if_true,not_false_eq_true]
     exact ⟨fun h=>h.elim,fun h=>(hb (wb.2 ⟨h.lb,fun e he=>⟨h.cb e he,h.bb e he⟩⟩)).elim⟩
   ·
    simp only [ha,if_false,not_false_eq_true,if_true]
    exact ⟨fun h=>h.elim,fun h=>(ha (wa.2 ⟨h.la,fun e he=>⟨h.ca e he,h.ba e he⟩⟩)).elim⟩
  ·
   simp only [h0,h1,if_true,ne_eq,not_false_eq_true]
   exact ⟨fun h=>h.elim,fun h=>(h1 h.s1).elim⟩
 ·
  simp only [h0,if_false,ne_eq,not_false_eq_true,if_true]
  exact ⟨fun h=>h.elim,fun h=>(h0 h.s0).elim⟩
theorem woErr_inv {ss:List Si} {ys:List (List Entry)} (h:woErr ss ys=0):∃ w:Wo,ss=w.ss∧ys=w.ys∧WoOk w:=by
 have hl:ss.length=2∧ys.length=2:=by
  by_cases hl:ss.length=2∧ys.length=2
  ·
   exact hl
  ·
   rw [woErr,if_pos hl] at h; cases h
 have h2:=h
 unfold woErr at h2
 rw [if_neg (by simp [hl]),firstNZ2] at h2
 match ss,ys,hl with
 | [(r,p,u),(t,q,v)],[a,b],_ =>
  have hs:r=0∧t=1:=by
   by_cases e0:steE [(r,p,u),(t,q,v)] 0=0
   ·
    rw [if_pos e0] at h2
    have e1:steE [(r,p,u),(t,q,v)] 1=0:=by
     by_cases e1:steE [(r,p,u),(t,q,v)] 1=0
     ·
      exact e1
     ·
      rw [if_pos e1] at h2; exact h2
    have f0:steE [(r,p,u),(t,q,v)] 0=if siErr r p u=0 then (if r=0 then 0 else 4) else siErr r p u:=rfl
    have f1:steE [(r,p,u),(t,q,v)] 1=if siErr t q v=0 then (if t=1 then 0 else 4) else siErr t q v:=rfl
    rw [f0] at e0; rw [f1] at e1
    constructor
    ·
     split at e0
     ·
      split at e0
      ·
       assumption
      ·
       cases e0
     ·
      exact (‹¬ _› e0).elim
    ·
     split at e1
     ·
      split at e1
      ·
       assumption
      ·
       cases e1
     ·
      exact (‹¬ _› e1).elim
   ·
    rw [if_neg e0,if_pos e0] at h2; exact (e0 h2).elim
  obtain ⟨rfl,rfl⟩:=hs
  exact ⟨⟨p,u,q,v,a,b⟩,rfl,rfl,woErr_ok.1 h⟩
end Go.Proofs.YtfdolehffjmdmaaGreatDoor
/- Worlds: what comes to a site (plain). -/
namespace Go.Proofs.YtfdolehffjmdmaaGreatDoor
open Go.RowKit
theorem rc_ok {r : Int} {p u : List Entry} {e : Entry} (h0 : siErr r p u = 0) (h1 : checkEntry e = 0) (hr : e.id.r ≠ r) :
    rcErr r p u e=0∧(rcSi r p u e).1=r∧siErr r (rcSi r p u e).2.1 (rcSi r p u e).2.2=0∧(∃ x,(rcSi r p u e).2.1=p ++ x)∧(∀ y,y ∈ (rcSi r p u e).2.1∨y ∈ (rcSi r p u e).2.2→y ∈ p∨y ∈ u∨y=e) ∧
      (∀ y,y ∈ p∨y ∈ u→y ∈ (rcSi r p u e).2.1∨y ∈ (rcSi r p u e).2.2)∧there (rcSi r p u e).2.1 (rcSi r p u e).2.2 e.id:=by
  have hx:rcErrX r p u e=rcErr r p u e:=by rw [rcErrX,if_neg (by simp [h0]),if_neg (by simp [h1])]
  have hs:rcSiX r p u e=rcSi r p u e:=by rw [rcSiX,if_neg (by simp [h0,h1])]
  by_cases ht:there p u e.id
  · obtain ⟨a,b⟩:=rc_there h0 h1 ht
    rw [hx] at a; rw [hs] at b
    rw [b]
    exact ⟨a,rfl,h0,⟨[],by simp⟩,fun y hy=>by rcases hy with q | q; exact .inl q; exact .inr (.inl q),fun y hy=>hy,ht⟩
  · obtain ⟨a,b,c,t,d⟩:=rc_new h0 h1 ht hr
    rw [hx] at a; rw [hs] at b
    rw [b]
    refine ⟨a,rfl,c,⟨t,d.eq⟩,fun y hy=>?_,fun y hy=>?_,?_⟩
    · have hm:y ∈ p∨y ∈ u.insertIdx (posE u e.id) e:=by
        simp only at hy
        rw [d.eq] at hy
        rcases hy with q | q
        · rcases List.mem_append.1 q with q | q
          · exact .inl q
          · exact .inr (d.perm.mem_iff.1 (List.mem_append.2 (.inl q)))
        · exact .inr (d.perm.mem_iff.1 (List.mem_append.2 (.inr q)))
      rcases hm with q | q
      · exact .inl q
      · rcases (List.mem_insertIdx (posE_le u e.id)).1 q with q | q
        · exact .inr (.inr q)
        · exact .inr (.inl q)
    · simp only
      rw [d.eq]
      rcases hy with q | q
      · exact .inl (List.mem_append.2 (.inl q))
      · rcases List.mem_append.1 (d.perm.mem_iff.2 ((List.mem_insertIdx (posE_le u e.id)).2 (.inr q))) with q | q
        · exact .inl (List.mem_append.2 (.inr q))
        · exact .inr q
    · exact d.there_iff.2 (there_ins.2 (.inr rfl))
def allN (r:Int):List Entry→List Entry→List Entry→Int × List Entry × List Entry
 | [],p,u=>(0,p,u)
 | e :: l,p,u=>if e.id.r=r then allN r l p u else if rcErr r p u e=0 then allN r l (rcSi r p u e).2.1 (rcSi r p u e).2.2 else (rcErr r p u e,p,u)
theorem allN_ok {r : Int} : ∀ (l p u : List Entry), siErr r p u = 0 → (∀ e ∈ l, checkEntry e = 0) →
    (allN r l p u).1=0∧siErr r (allN r l p u).2.1 (allN r l p u).2.2=0∧(∃ x,(allN r l p u).2.1=p ++ x) ∧
      ∀ y,y ∈ (allN r l p u).2.1∨y ∈ (allN r l p u).2.2→y ∈ p∨y ∈ u∨(y ∈ l∧y.id.r≠r)
  | [],p,u,h,_=>⟨rfl,h,⟨[],by simp [allN]⟩,fun y hy=>by rcases hy with q | q; exact .inl q; exact .inr (.inl q)⟩
  | e :: l,p,u,h,hc=>by
    rw [allN]
    by_cases hr:e.id.r=r
    · rw [if_pos hr]
      obtain ⟨a,b,c,d⟩:=allN_ok l p u h fun x hx=>hc x (List.mem_cons_of_mem _ hx)
      refine ⟨a,b,c,fun y hy=>?_⟩
      rcases d y hy with q | q | q
      · exact .inl q
      · exact .inr (.inl q)
      · exact .inr (.inr ⟨List.mem_cons_of_mem _ q.1,q.2⟩)
    · obtain ⟨a,-,b,⟨x,c⟩,d,-,-⟩:=rc_ok h (hc e List.mem_cons_self) hr
      rw [if_neg hr,if_pos a]
      obtain ⟨a2,b2,⟨x2,c2⟩,d2⟩:=allN_ok l _ _ b fun x hx=>hc x (List.mem_cons_of_mem _ hx)
      refine ⟨a2,b2,⟨x ++ x2,by rw [c2,c,List.append_assoc]⟩,fun y hy=>?_⟩
      rcases d2 y hy with q | q | q
      · rcases d y (.inl q) with z | z | z
        · exact .inl z
        · exact .inr (.inl z)
        · exact .inr (.inr ⟨z ▸ List.mem_cons_self,z ▸ hr⟩)
      · rcases d y (.inr q) with z | z | z
        · exact .inl z
        · exact .inr (.inl z)
        · exact .inr (.inr ⟨z ▸ List.mem_cons_self,z ▸ hr⟩)
      · exact .inr (.inr ⟨List.mem_cons_of_mem _ q.1,q.2⟩)
theorem allN_app (r:Int):∀ (l m p u:List Entry),(allN r l p u).1=0→allN r (l ++ m) p u=allN r m (allN r l p u).2.1 (allN r l p u).2.2
 | [],m,p,u,_=>rfl
 | e :: l,m,p,u,h=>by
  rw [List.cons_append,allN,allN]
  rw [allN] at h
  by_cases hr:e.id.r=r
  ·
   rw [if_pos hr] at h
   rw [if_pos hr,if_pos hr]; exact allN_app r l m p u h
  ·
   rw [if_neg hr] at h
   rw [if_neg hr,if_neg hr]
   by_cases he:rcErr r p u e=0
   ·
    rw [if_pos he] at h
    rw [if_pos he,if_pos he]; exact allN_app r l m _ _ h
   ·
    rw [if_neg he] at h; exact (he h).elim
theorem allN_same {r:Int}:∀ (l p u:List Entry),(∀ e ∈ l,e.id.r≠r→e ∈ p)→allN r l p u=(0,p,u)
 | [],p,u,_=>rfl
 | e :: l,p,u,h=>by
  rw [allN]
  have h2:=allN_same l p u fun x hx=>h x (List.mem_cons_of_mem _ hx)
  by_cases hr:e.id.r=r
  ·
   rw [if_pos hr,h2]
  ·
   have hf:0≤findE p e.id:=findE_pos.2 ⟨e,h e List.mem_cons_self hr,rfl⟩
   have he:rcErr r p u e=0:=by rw [rcErr,if_pos (.inl hf)]
   have hs:rcSi r p u e=(r,p,u):=by rw [rcSi,if_pos (.inl hf)]
   rw [if_neg hr,if_pos he,hs]; exact h2
theorem no_wait {r:Int} {P U B:List Entry} {k:Nat} (h:siErr r P U=0) (hB:LogOk B) (hk:k < B.length) (hr:(nth B k).id.r≠r) (hj:∀ j,j < k→nth B j ∈ P) (hP:∀ x ∈ P,x.id.r≠r→x ∈ B):nth B k ∉ U:=by
 intro hU
 obtain ⟨-,hp,-,hw,hn⟩:=siErr_iff.1 h
 have hnew:=hw.new _ hU
 have hrd:=hn _ hU
 have hrdy:readyB P (nth B k)=true:=by
  refine ready_iff.2 ⟨?_,fun x hx=>?_⟩
  ·
   have hnum:=hB.num k hk
   have h1:cntR P (nth B k).id.r=cntR (B.take k) (nth B k).id.r:=by
    apply Nat.le_antisymm
    ·
     apply Nat.le_of_not_lt
     intro hlt
     obtain ⟨x,hx,hxi⟩:=hp.has_num (r:=(nth B k).id.r) (n:=(nth B k).id.n) (by omega) (by omega)
     rw [findE_neg] at hnew
     exact hnew x hx (by rw [hxi])
    ·
     by_cases h0:cntR (B.take k) (nth B k).id.r=0
     ·
      omega
     ·
      have hok:=hB.take (n:=k) (by omega)
      obtain ⟨x,hx,hxi⟩:=hok.has_num (r:=(nth B k).id.r) (n:=(cntR (B.take k) (nth B k).id.r:Int)) (by omega) (by omega)
      have hxP:x ∈ P:=by
       rw [List.mem_take_iff_getElem] at hx
       obtain ⟨j,hj2,rfl⟩:=hx
       rw [← nth_eq _ _ (by omega)]
       exact hj j (by omega)
      obtain ⟨m,hm,rfl⟩:=memE.1 hxP
      have:=hp.num_le hm
      rw [hxi] at this
      simp only at this
      omega
   rw [h1]; exact hnum
  ·
   have:=hB.lnk k hk x hx
   rw [findE_pos] at this ⊢
   obtain ⟨y,hy,hyx⟩:=this
   rw [List.mem_take_iff_getElem] at hy
   obtain ⟨j,hj2,rfl⟩:=hy
   rw [← nth_eq _ _ (by omega)] at hyx
   exact ⟨_,hj j (by omega),hyx⟩
 rw [hrdy] at hrd; cases hrd
theorem allN_all {r : Int} {B : List Entry} (hB : LogOk B) {p u : List Entry} (h : siErr r p u = 0) (h1 : ∀ e ∈ B, e.id.r = r → e ∈ p) (h2 : ∀ e, e ∈ p ∨ e ∈ u → e.id.r ≠ r → e ∈ B) :
    (∀ e ∈ B,e ∈ (allN r B p u).2.1)∧(allN r B p u).2.2 = []:=by
  have hchk:∀ k,∀ e ∈ B.take k,checkEntry e=0:=fun k e he=>hB.mem_chk (List.mem_of_mem_take he)
  have key:∀ k,k≤B.length→∀ j,j < k→nth B j ∈ (allN r (B.take k) p u).2.1:=by
    intro k
    induction k with
    | zero=>intro _ j hj; omega
    | succ k ih =>
      intro hk j hj
      have ih:=ih (by omega)
      obtain ⟨a1,a2,⟨x1,a3⟩,a4⟩:=allN_ok (B.take k) p u h (hchk k)
      obtain ⟨b1,b2,⟨x2,b3⟩,b4⟩:=allN_ok (B.take (k + 1)) p u h (hchk (k + 1))
      have hst:allN r (B.take (k + 1)) p u=allN r [nth B k] (allN r (B.take k) p u).2.1 (allN r (B.take k) p u).2.2:=by
        rw [takeE_succ (by omega),allN_app r _ _ _ _ a1]
      have hsub:∀ y ∈ (allN r (B.take k) p u).2.1,y ∈ (allN r (B.take (k + 1)) p u).2.1:=by
        intro y hy
        rw [hst]
        obtain ⟨-,-,⟨x3,c3⟩,-⟩:=allN_ok [nth B k] _ _ a2 (fun e he=>by simp at he; subst he; exact hB.chk k (by omega))
        rw [c3]; exact List.mem_append.2 (.inl hy)
      by_cases hjk:j < k
      · exact hsub _ (ih j hjk)
      · obtain rfl:j=k:=by omega
        by_cases hr:(nth B j).id.r=r
        · rw [b3]; exact List.mem_append.2 (.inl (h1 _ (nthM (by omega)) hr))
        · have hbP:∀ x,x ∈ (allN r (B.take (j + 1)) p u).2.1∨x ∈ (allN r (B.take (j + 1)) p u).2.2→x.id.r≠r→x ∈ B:=fun x hx hxr=>by
            rcases b4 x hx with q | q | q
            · exact h2 x (.inl q) hxr
            · exact h2 x (.inr q) hxr
            · exact List.mem_of_mem_take q.1
          have hth:there (allN r (B.take (j + 1)) p u).2.1 (allN r (B.take (j + 1)) p u).2.2 (nth B j).id:=by
            rw [hst]
            obtain ⟨q1,-,-,-,-,-,q2⟩:=rc_ok a2 (hB.chk j (by omega)) hr
            rw [allN,if_neg hr,if_pos q1,allN]
            exact q2
          obtain ⟨x,hx,hxi⟩:=hth
          have hxB:x ∈ B:=hbP x hx (by rw [hxi]; exact hr)
          have hxe:x=nth B j:=by
            obtain ⟨m,hm,rfl⟩:=memE.1 hxB
            rw [hB.inj hm (by omega:j < B.length) hxi]
          subst hxe
          rcases hx with q | q
          · exact q
          · exact (no_wait b2 hB (by omega:j < B.length) hr (fun i hi=>hsub _ (ih i hi)) (fun y hy hyr=>hbP y (.inl hy) hyr) q).elim
  have hall:=key B.length (Nat.le_refl _)
  rw [List.take_length] at hall
  have hin:∀ e ∈ B,e ∈ (allN r B p u).2.1:=fun e he=>by
    obtain ⟨j,hj,rfl⟩:=memE.1 he
    exact hall j hj
  refine ⟨hin,?_⟩
  obtain ⟨a1,a2,-,a4⟩:=allN_ok B p u h fun e he=>hB.mem_chk he
  obtain ⟨-,-,-,hw,-⟩:=siErr_iff.1 a2
  apply List.eq_nil_iff_forall_not_mem.2
  intro e he
  have hr:=hw.other e he
  have heB:e ∈ B:=by
    rcases a4 e (.inr he) with q | q | q
    · exact h2 e (.inl q) hr
    · exact h2 e (.inr q) hr
    · exact q.1
  have:=hw.new e he
  rw [findE_neg] at this
  exact this e (hin e heB) rfl
end Go.Proofs.YtfdolehffjmdmaaGreatDoor
/- Worlds: acts,and settling (plain). -/
namespace Go.Proofs.YtfdolehffjmdmaaGreatDoor
open Go.RowKit
def allW (w:Wo) (i:Int):Int × List Entry × List Entry:=allN i (w.log (1 - i)) (w.log i) (w.wts i)
def extraB (k n c:Int) (t:ByteArray):Bool:=(decide (k≠1) && (decide (c≠0) || decide (t.size≠0))) || ((decide (k=1) || decide (k=5)) && decide (n≠0))
def doErr0 (w:Wo) (k i n c:Int) (t:ByteArray):Int :=
 if k=1 then apErr i (w.log i) c t
 else if k=5 then (allW w i).1
 else if n < 0∨(w.way i).length≤n then 5
 else if k=2 then rcErr i (w.log i) (w.wts i) (nth (w.way i) n.toNat)
 else if k=3 then 0
 else if (w.way i).length=30 then 2 else 0
def doErr (w:Wo) (k i n c:Int) (t:ByteArray):Int :=
 if k < 1∨5 < k then 7
 else if extraB k n c t=true then 1
 else if ¬ (i=0∨i=1) then 3
 else doErr0 w k i n c t
def sendW (w:Wo) (i:Int) (e:Entry):Wo:=if (w.way i).length=30 then w else w.setY i (w.way i ++ [e])
def doW (w:Wo) (k i n c:Int) (t:ByteArray):Wo :=
 if k=1 then sendW (w.setS i (settled (w.log i ++ [apE i (w.log i) c t]) (w.wts i))) (1 - i) (apE i (w.log i) c t)
 else if k=5 then w.setS i (allW w i).2
 else if k=2 then (w.setS i (rcSi i (w.log i) (w.wts i) (nth (w.way i) n.toNat)).2).setY i ((w.way i).eraseIdx n.toNat)
 else if k=3 then w.setY i ((w.way i).eraseIdx n.toNat)
 else w.setY i (w.way i ++ [nth (w.way i) n.toNat])
def stW (w:Wo):Wo:=(w.setS 0 (allW w 0).2).setS 1 (allW (w.setS 0 (allW w 0).2) 1).2
theorem log_setS {w:Wo} {i:Int} (h:i=0∨i=1) {s:List Entry × List Entry}:(w.setS i s).log i=s.1∧(w.setS i s).wts i=s.2∧(w.setS i s).log (1 - i)=w.log (1 - i)∧(w.setS i s).wts (1 - i)=w.wts (1 - i)∧∀ j,(w.setS i s).way j=w.way j:=by
 rcases h with rfl | rfl
 ·
  exact ⟨rfl,rfl,rfl,rfl,fun j=>rfl⟩
 ·
  exact ⟨rfl,rfl,rfl,rfl,fun j=>rfl⟩
theorem WoOk.si {w:Wo} (h:WoOk w) {i:Int} (hi:i=0∨i=1):siErr i (w.log i) (w.wts i)=0:=by
 rcases hi with rfl | rfl
 ·
  exact h.s0
 ·
  exact h.s1
theorem WoOk.bl {w:Wo} (h:WoOk w) {i:Int} (hi:i=0∨i=1):∀ e ∈ w.log i,Born w e:=by
 rcases hi with rfl | rfl
 ·
  exact h.bp
 ·
  exact h.bq
theorem WoOk.bw {w:Wo} (h:WoOk w) {i:Int} (hi:i=0∨i=1):∀ e ∈ w.wts i,Born w e:=by
 rcases hi with rfl | rfl
 ·
  exact h.bu
 ·
  exact h.bv
theorem WoOk.by_ {w:Wo} (h:WoOk w) {i:Int} (hi:i=0∨i=1):(w.way i).length≤30∧(∀ e ∈ w.way i,checkEntry e=0)∧∀ e ∈ w.way i,Born w e:=by
 rcases hi with rfl | rfl
 ·
  exact ⟨h.la,h.ca,h.ba⟩
 ·
  exact ⟨h.lb,h.cb,h.bb⟩
theorem WoOk.log {w:Wo} (h:WoOk w) {i:Int} (hi:i=0∨i=1):LogOk (w.log i):=(siErr_iff.1 (h.si hi)).2.1
theorem Born.reg {w:Wo} (h:WoOk w) {e:Entry} (hb:Born w e):e.id.r=0∨e.id.r=1:=by
 unfold Born Wo.log at hb
 split at hb
 ·
  exact .inl ‹_›
 ·
  exact si_reg h.s1 e (.inl hb)
theorem WoOk.setS {w:Wo} (h:WoOk w) {i:Int} (hi:i=0∨i=1) {P U:List Entry} (hs:siErr i P U=0) (hp:∃ x,P=w.log i ++ x) (hb:∀ e,e ∈ P∨e ∈ U→Born w e∨(e.id.r=i∧e ∈ P)):WoOk (w.setS i (P,U)):=by
 obtain ⟨x,hx⟩:=hp
 have hbn:∀ e,Born w e→Born (w.setS i (P,U)) e:=fun e he=>by
  rcases hi with rfl | rfl
  ·
   unfold Born Wo.log at he ⊢
   by_cases hr:e.id.r=0
   ·
    rw [if_pos hr] at he ⊢
    show e ∈ P
    rw [hx]; exact List.mem_append.2 (.inl he)
   ·
    rw [if_neg hr] at he ⊢; exact he
  ·
   unfold Born Wo.log at he ⊢
   by_cases hr:e.id.r=0
   ·
    rw [if_pos hr] at he ⊢; exact he
   ·
    rw [if_neg hr] at he ⊢
    show e ∈ P
    rw [hx]; exact List.mem_append.2 (.inl he)
 have hb2:∀ e,e ∈ P∨e ∈ U→Born (w.setS i (P,U)) e:=fun e he=>by
  rcases hb e he with q | ⟨q,q2⟩
  ·
   exact hbn e q
  ·
   rw [Born,q,(log_setS hi).1]; exact q2
 rcases hi with rfl | rfl
 ·
  exact ⟨hs,h.s1,h.la,h.lb,h.ca,h.cb,fun e he=>hbn e (h.ba e he),fun e he=>hbn e (h.bb e he),fun e he=>hb2 e (.inl he),fun e he=>hb2 e (.inr he),fun e he=>hbn e (h.bq e he),fun e he=>hbn e (h.bv e he)⟩
 ·
  exact ⟨h.s0,hs,h.la,h.lb,h.ca,h.cb,fun e he=>hbn e (h.ba e he),fun e he=>hbn e (h.bb e he),fun e he=>hbn e (h.bp e he),fun e he=>hbn e (h.bu e he),fun e he=>hb2 e (.inl he),fun e he=>hb2 e (.inr he)⟩
theorem WoOk.setY {w:Wo} (h:WoOk w) {i:Int} (hi:i=0∨i=1) {l:List Entry} (hl:l.length≤30) (hc:∀ e ∈ l,checkEntry e=0) (hb:∀ e ∈ l,Born w e):WoOk (w.setY i l):=by
 rcases hi with rfl | rfl
 ·
  exact ⟨h.s0,h.s1,hl,h.lb,hc,h.cb,hb,h.bb,h.bp,h.bu,h.bq,h.bv⟩
 ·
  exact ⟨h.s0,h.s1,h.la,hl,h.ca,hc,h.ba,hb,h.bp,h.bu,h.bq,h.bv⟩
theorem other_of {i:Int} (hi:i=0∨i=1):1 - i=0∨1 - i=1:=by omega
theorem born_other {w:Wo} (h:WoOk w) {i:Int} (hi:i=0∨i=1) {e:Entry} (hb:Born w e) (hr:e.id.r≠i):e ∈ w.log (1 - i):=by
 have:=hb.reg h
 rwa [Born,show e.id.r=1 - i by omega] at hb
theorem born_own {w:Wo} {i:Int} {e:Entry} (hb:Born w e) (hr:e.id.r=i):e ∈ w.log i:=by rwa [Born,hr] at hb
theorem allW_ok {w:Wo} (h:WoOk w) {i:Int} (hi:i=0∨i=1):(allW w i).1=0∧WoOk (w.setS i (allW w i).2)∧(∃ x,(allW w i).2.1=w.log i ++ x)∧(∀ e ∈ w.log (1 - i),e ∈ (allW w i).2.1)∧(allW w i).2.2 = []:=by
 have hB:=h.log (other_of hi)
 obtain ⟨a,b,c,d⟩:=allN_ok (w.log (1 - i)) (w.log i) (w.wts i) (h.si hi) fun e he=>hB.mem_chk he
 obtain ⟨e1,e2⟩:=allN_all hB (h.si hi) (fun e he hr=>born_own (h.bl (other_of hi) e he) hr)
  (fun e he hr=>born_other h hi (by rcases he with q | q; exact h.bl hi e q; exact h.bw hi e q) hr)
 refine ⟨a,h.setS hi b c fun e he => .inl ?_,c,e1,e2⟩
 rcases d e he with q | q | q
 ·
  exact h.bl hi e q
 ·
  exact h.bw hi e q
 ·
  exact h.bl (other_of hi) e q.1
theorem apE_reg {i:Int} {p:List Entry} {c:Int} {t:ByteArray}:(apE i p c t).id.r=i:=rfl
theorem doW_ok {w : Wo} (h : WoOk w) {k i n c : Int} {t : ByteArray} (he : doErr w k i n c t = 0) :
    (i=0∨i=1)∧WoOk (doW w k i n c t)∧(∃ x,(doW w k i n c t).log i=w.log i ++ x)∧(doW w k i n c t).log (1 - i)=w.log (1 - i):=by
  unfold doErr at he
  split at he
  · cases he
  · rename_i hk
    split at he
    · cases he
    · split at he
      · cases he
      · rename_i hi
        have hi:i=0∨i=1:=by omega
        refine ⟨hi,?_⟩
        have hsi:=h.si hi
        unfold doErr0 at he
        unfold doW
        by_cases k1:k=1
        · rw [if_pos k1] at he
          rw [if_pos k1]
          obtain ⟨hq,hok,-,hwo,-⟩:=siErr_iff.1 hsi
          have hr:=ap_right hsi he
          obtain ⟨-,hin,x,hx,hx2⟩:=settled_ok (lg:=w.log i ++ [apE i (w.log i) c t]) (ws:=w.wts i) (apE_log hq hok he) hwo.chk
          have hm:apE i (w.log i) c t ∈ (settled (w.log i ++ [apE i (w.log i) c t]) (w.wts i)).1:=by rw [hx]; simp
          have hw2:WoOk (w.setS i (settled (w.log i ++ [apE i (w.log i) c t]) (w.wts i))):=by
            refine WoOk.setS (P:=(settled (w.log i ++ [apE i (w.log i) c t]) (w.wts i)).1) (U:=(settled (w.log i ++ [apE i (w.log i) c t]) (w.wts i)).2) h hi hr ⟨[apE i (w.log i) c t] ++ x,by rw [hx,List.append_assoc]⟩ fun e he=>?_
            have hor:e ∈ w.log i∨e=apE i (w.log i) c t∨e ∈ w.wts i:=by
              rcases he with q | q
              · rw [hx] at q
                rcases List.mem_append.1 q with q | q
                · rcases List.mem_append.1 q with q | q
                  · exact .inl q
                  · exact .inr (.inl (by simpa using q))
                · exact .inr (.inr (hx2 e q))
              · exact .inr (.inr (hin e q))
            rcases hor with q | q | q
            · exact .inl (h.bl hi e q)
            · exact .inr ⟨by rw [q]; rfl,by rw [q]; exact hm⟩
            · exact .inl (h.bw hi e q)
          have hlog:(w.setS i (settled (w.log i ++ [apE i (w.log i) c t]) (w.wts i))).log i=w.log i ++ ([apE i (w.log i) c t] ++ x):=by rw [(log_setS hi).1,hx,List.append_assoc]
          have hlog2:=(log_setS (w:=w) hi (s:=settled (w.log i ++ [apE i (w.log i) c t]) (w.wts i))).2.2.1
          have hway:=(log_setS (w:=w) hi (s:=settled (w.log i ++ [apE i (w.log i) c t]) (w.wts i))).2.2.2.2
          have hbe:Born (w.setS i (settled (w.log i ++ [apE i (w.log i) c t]) (w.wts i))) (apE i (w.log i) c t):=by
            rw [Born,apE_reg,(log_setS hi).1]; exact hm
          have hce:=(apE_ok hq hok he).1
          generalize apE i (w.log i) c t=e at *
          generalize w.setS i (settled (w.log i ++ [e]) (w.wts i))=w2 at *
          unfold sendW
          split
          · exact ⟨hw2,⟨_,hlog⟩,hlog2⟩
          · rename_i hl
            obtain ⟨y1,y2,y3⟩:=hw2.by_ (other_of hi)
            refine ⟨hw2.setY (other_of hi) (by simp; omega) (fun y hy=>?_) (fun y hy=>?_),⟨[e] ++ x,?_⟩,?_⟩
            · rcases List.mem_append.1 hy with q | q
              · exact y2 y q
              · simp at q; rw [q]; exact hce
            · rcases List.mem_append.1 hy with q | q
              · exact y3 y q
              · simp at q; rw [q]; exact hbe
            · rw [← hlog]; rcases hi with rfl | rfl <;> rfl
            · rw [← hlog2]; rcases hi with rfl | rfl <;> rfl
        · rw [if_neg k1] at he
          rw [if_neg k1]
          by_cases k5:k=5
          · rw [if_pos k5]
            obtain ⟨a,b,c,-,-⟩:=allW_ok h hi
            obtain ⟨x,c⟩:=c
            exact ⟨b,⟨x,by rw [(log_setS hi).1,c]⟩,(log_setS hi).2.2.1⟩
          · rw [if_neg k5] at he
            rw [if_neg k5]
            split at he
            · cases he
            · rename_i hn
              have hnl:n.toNat < (w.way i).length:=by omega
              obtain ⟨y1,y2,y3⟩:=h.by_ hi
              have hm:=nthM hnl
              have hers:WoOk (w.setY i ((w.way i).eraseIdx n.toNat)):=h.setY hi (by rw [List.length_eraseIdx,if_pos hnl]; omega) (fun e he=>y2 e (List.mem_of_mem_eraseIdx he)) fun e he=>y3 e (List.mem_of_mem_eraseIdx he)
              by_cases k2:k=2
              · rw [if_pos k2] at he
                rw [if_pos k2]
                by_cases hre:(nth (w.way i) n.toNat).id.r=i
                · have hth:there (w.log i) (w.wts i) (nth (w.way i) n.toNat).id:=⟨_,.inl (born_own (y3 _ hm) hre),rfl⟩
                  have hst:rcSi i (w.log i) (w.wts i) (nth (w.way i) n.toNat)=(i,w.log i,w.wts i):=by rw [rcSi,if_pos (there_iff.2 hth)]
                  rw [hst]
                  have hid:w.setS i (w.log i,w.wts i)=w:=by rcases hi with rfl | rfl <;> rfl
                  rw [hid]
                  exact ⟨hers,⟨[],by rcases hi with rfl | rfl <;> simp [Wo.setY,Wo.log]⟩,by rcases hi with rfl | rfl <;> rfl⟩
                · obtain ⟨-,-,b,⟨x,c⟩,d,-,-⟩:=rc_ok hsi (y2 _ hm) hre
                  have hw2:WoOk (w.setS i (rcSi i (w.log i) (w.wts i) (nth (w.way i) n.toNat)).2):=h.setS hi b ⟨x,c⟩ fun e he => .inl (by
                    rcases d e he with q | q | q
                    · exact h.bl hi e q
                    · exact h.bw hi e q
                    · rw [q]; exact y3 _ hm)
                  have hway:=(log_setS (w:=w) hi (s:=(rcSi i (w.log i) (w.wts i) (nth (w.way i) n.toNat)).2)).2.2.2.2 i
                  obtain ⟨z1,z2,z3⟩:=hw2.by_ hi
                  rw [hway] at z1 z2 z3
                  refine ⟨hw2.setY hi (by rw [List.length_eraseIdx,if_pos hnl]; omega) (fun e he=>z2 e (List.mem_of_mem_eraseIdx he)) (fun e he=>z3 e (List.mem_of_mem_eraseIdx he)),⟨x,?_⟩,?_⟩
                  · rw [← c]; rcases hi with rfl | rfl <;> rfl
                  · rcases hi with rfl | rfl <;> rfl
              · rw [if_neg k2] at he
                rw [if_neg k2]
                by_cases k3:k=3
                · rw [if_pos k3]
                  exact ⟨hers,⟨[],by rcases hi with rfl | rfl <;> simp [Wo.setY,Wo.log]⟩,by rcases hi with rfl | rfl <;> rfl⟩
                · rw [if_neg k3] at he
                  rw [if_neg k3]
                  split at he
                  · cases he
                  · refine ⟨h.setY hi (by simp; omega) (fun e he=>?_) (fun e he=>?_),⟨[],by rcases hi with rfl | rfl <;> simp [Wo.setY,Wo.log]⟩,by rcases hi with rfl | rfl <;> rfl⟩
                    · rcases List.mem_append.1 he with q | q
                      · exact y2 e q
                      · simp at q; rw [q]; exact y2 _ hm
                    · rcases List.mem_append.1 he with q | q
                      · exact y3 e q
                      · simp at q; rw [q]; exact y3 _ hm
theorem stW_ok {w:Wo} (h:WoOk w):WoOk (stW w)∧(stW w).u = []∧(stW w).v = []∧(∀ e,e ∈ (stW w).p↔e ∈ (stW w).q)∧(stW w).p.length=(stW w).q.length∧stW (stW w)=stW w:=by
 obtain ⟨a1,a2,-,a4,a5⟩:=allW_ok h (.inl rfl)
 obtain ⟨b1,b2,-,b4,b5⟩:=allW_ok a2 (.inr rfl)
 have hb0:(stW w).p=(allW w 0).2.1:=rfl
 have hb1:(stW w).q=(allW (w.setS 0 (allW w 0).2) 1).2.1:=rfl
 have hu:(stW w).u = []:=a5
 have hv:(stW w).v = []:=b5
 have hok:WoOk (stW w):=b2
 have hpq:∀ e,e ∈ (stW w).p→e ∈ (stW w).q:=fun e he=>b4 e he
 have hqp:∀ e,e ∈ (stW w).q→e ∈ (stW w).p:=fun e he=>by
  have hb:=hok.bq e he
  by_cases hr:e.id.r=0
  ·
   unfold Born Wo.log at hb
   rw [if_pos hr] at hb; exact hb
  ·
   have hd:=(allN_ok ((w.setS 0 (allW w 0).2).log (1 - 1)) ((w.setS 0 (allW w 0).2).log 1) ((w.setS 0 (allW w 0).2).wts 1) (a2.si (.inr rfl)) fun e he=>(a2.log (other_of (i:=1) (.inr rfl))).mem_chk he).2.2.2 e (.inl he)
   rcases hd with q | q | q
   ·
    exact a4 e q
   ·
    have:=a2.bw (.inr rfl) e q
    unfold Born Wo.log at this
    rw [if_neg hr] at this
    exact a4 e this
   ·
    exact q.1
 have hp:=hok.log (i:=0) (.inl rfl)
 have hq:=hok.log (i:=1) (.inr rfl)
 have hlen:(stW w).p.length=(stW w).q.length:=by
  have c1:=cnt_le hp hq hpq
  have c2:=cnt_le hq hp hqp
  have s1:=cntR_sum hp.reg
  have s2:=cntR_sum hq.reg
  have d0:=c1 0
  have d1:=c1 1
  have d2:=c2 0
  have d3:=c2 1
  show (Wo.log (stW w) 0).length=(Wo.log (stW w) 1).length
  omega
 refine ⟨hok,hu,hv,fun e=>⟨hpq e,hqp e⟩,hlen,?_⟩
 generalize stW w=x at *
 have e0:allW x 0=(0,x.p,x.u):=allN_same _ _ _ fun e he _=>hqp e he
 have x0:x.setS 0 (allW x 0).2=x:=by rw [e0]; rfl
 have e1:allW x 1=(0,x.q,x.v):=allN_same _ _ _ fun e he _=>hpq e he
 unfold stW
 rw [x0,e1]; rfl
end Go.Proofs.YtfdolehffjmdmaaGreatDoor
/- Worlds: entries that are the same,that were born; ways; what is wrong with a world: contracts. -/
namespace Go.Proofs.YtfdolehffjmdmaaGreatDoor
set_option linter.unusedSimpArgs false
set_option linter.unusedVariables false
open Go.RowKit
theorem weak_pu {x : Cx} {nt : Nat} {st : St} (id : Nat) {v T sz : Nat} {sto : Bool} {rows rows' : List (List PV)} (h : st.heap[id]? = some (.arr v sto true T sz rows)) (hf : rows.map (·.map (frz st.heap)) = rows') (hp : rows'.all (fun r => r.all PV.isPure) = true) :
    Weak x nt st ⟨st.env,st.heap.set id (.arr v false false T sz rows')⟩:=by
  subst hf
  intro a w ⟨⟨C,hr,he⟩,hdf,hs⟩
  obtain ⟨k1,k2⟩:=hr.change (C':=C) (ob' := .arr v false false T sz (rows.map (·.map (frz st.heap)))) h (step_refl w) rfl (fun _=>rfl) (fun _ _=>⟨rfl,rfl⟩) (.inl ⟨rfl,rfl⟩)
    (fun b o _ hf hb=>by have:=hf hb; simp at this) (fun b o _ _=>rfl) (fun b h => .inl h)
    (fun hm hmp=>by
      obtain ⟨o1,o2,o3,xs,o4,o5⟩:=hr.obj id _ h
      refine ⟨o1,o2,fun row hrow=>?_,xs,by simpa using o4,fun k row j p u a b c=>?_⟩
      · obtain ⟨r,hr1,rfl⟩:=List.mem_map.1 hrow
        simpa using o3 r hr1
      · obtain ⟨r,hr1,rfl⟩:=map_get a
        obtain ⟨q,hq1,rfl⟩:=map_get b
        obtain ⟨e1,e2⟩:=o5 k r j q u hr1 hq1 c
        refine ⟨e1,?_⟩
        simp only [Bool.false_eq_true,if_false,if_true] at e2 ⊢
        refine hmp _ _ ((frz_rep hr e2).pureOf ?_)
        have h1:=List.all_eq_true.1 hp _ (List.mem_map.2 ⟨r,List.mem_of_getElem? hr1,rfl⟩)
        exact List.all_eq_true.1 h1 _ (List.mem_map.2 ⟨q,List.mem_of_getElem? hq1,rfl⟩))
  exact ⟨⟨C,k1,fun u=>k2 _ _ (he u)⟩,hdf,hs⟩
theorem equalI_meets (a b:List Id) (hm:a.length≤9223372036854775807):Meets Tryz.prog 177 [.list (a.map cId),.list (b.map cId)] [] (.bool (decide (a=b))) []:=by
 refine Meets.of_walk Tryz.func177 Tryz.ntmps177 low177 res177 (by simp) fun x hx=>?_
 by_cases hl:a.length=b.length
 ·
  have hl':((a.length:Int)=(b.length:Int))=True:=by simp [hl]
  simp only [go_sem,L177,R177,hl']
  refine loop_inv [0,1,12,13] 0 (fun n st=>∃ k:Nat,k + n=a.length∧(∀ j,j < k→nth a j=nth b j) ∧
   st=⟨mkE .top [(0,.list (a.map cId)),(1,.list (b.map cId)),(12,.int .i64 a.length),(13,.int .i64 k)],[]⟩) a.length (by simp [hx]) (by simp) ?_ ?_
  ·
   refine ⟨0,by omega,fun j h=>by omega,?_⟩
   simp [trim_mk,go_sem,subHeap,renObj,pos,List.range_succ]
  ·
   rintro n st ⟨k,hk,hz,rfl⟩
   simp only [go_sem]
   by_cases hlt:k < a.length
   ·
    have hg:a[k]? = some (nth a k):=nth_get? _ _ hlt
    have hlt2:k < b.length:=by omega
    have hg2:b[k]? = some (nth b k):=nth_get? _ _ hlt2
    have hw:=i64_up (k:=k) (by omega)
    by_cases he:nth a k=nth b k
    ·
     simp only [go_sem,hlt,hlt2,hg,hg2,cId,he,hw]
     refine ⟨by simp,n - 1,by omega,k + 1,by omega,fun j hj=>?_,?_⟩
     ·
      by_cases e:j=k
      ·
       rw [e]; exact he
      ·
       exact hz j (by omega)
     ·
      simp [trim_mk,go_sem,subHeap,renObj,pos]
    ·
     simp only [go_sem,hlt,hlt2,hg,hg2,cId,beqId,he]
     refine ret_pure hx ?_
     have:¬ a=b:=fun e=>he (by rw [e])
     simp [go_sem,L177,R177,this]
   ·
    simp only [go_sem,hlt,decide_false]
    refine ret_pure hx ?_
    have:a=b:=ids_ext' hl fun j hj=>hz j (by omega)
    simp [go_sem,L177,R177,this]
 ·
  have hl':((a.length:Int)=(b.length:Int))=False:=by simp; omega
  simp only [go_sem,L177,R177,hl']
  refine ret_pure hx ?_
  have:¬ a=b:=fun e=>hl (by rw [e])
  simp [go_sem,L177,R177,this]
theorem entSame_meets (a b:Entry):Meets Tryz.prog 152 [.agg (cE a),.agg (cE b)] [] (.bool (sameE a b)) []:=by
 refine Meets.len2 0 4 rfl (by simp [cE]; rfl) fun hm=>?_
 have hm':a.ls.length≤9223372036854775807:=by simp [maxLen] at hm; omega
 refine Meets.of_walk Tryz.func152 Tryz.ntmps152 low152 res152 (by simp) fun x hx=>?_
 by_cases h1:a.id=b.id
 ·
  by_cases h2:a.c=b.c
  ·
   by_cases h3:a.t=b.t
   ·
    simp only [go_sem,L152,R152,cE,beqId,h1,h2,h3]
    refine ops_call (.pure (equalI_meets _ _ hm')) ?_
    simp only [go_sem]
    refine ret_pure hx ?_
    simp [go_sem,L152,R152,sameE,h1,h2,h3]
   ·
    simp only [go_sem,L152,R152,cE,beqId,h1,h2,h3]
    refine ret_pure hx ?_
    simp [go_sem,L152,R152,sameE,h1,h2,h3]
  ·
   simp only [go_sem,L152,R152,cE,beqId,h1,h2]
   refine ret_pure hx ?_
   simp [go_sem,L152,R152,sameE,h1,h2]
 ·
  simp only [go_sem,L152,R152,cE,beqId,h1]
  refine ret_pure hx ?_
  simp [go_sem,L152,R152,sameE,h1]
def cYs (ys:List (List Entry)):List (List PV):=ys.map fun l => [PV.list (l.map cE)]
def cWd (ss:List Si) (ys:List (List Entry)):List PV := [.list (ss.map cSi3),.list (cYs ys)]
def okSs (ss:List Si):Prop:=∀ s ∈ ss,s.2.1.length≤1000000000000000∧s.2.2.length≤1000000000000000
theorem nthS {ss:List Si} {k:Nat} (h:k < ss.length) (ho:okSs ss):(nth ss k).2.1.length≤1000000000000000∧(nth ss k).2.2.length≤1000000000000000:=ho _ (by rw [nth_eq _ _ h]; exact List.getElem_mem h)
theorem cSi3_row (ss:List Si):∀ row ∈ ss.map cSi3,row.length=3:=fun row h=>by
 obtain ⟨s,-,rfl⟩:=List.mem_map.1 h
 rfl
theorem born_meets (ss:List Si) (ys:List (List Entry)) (e:Entry) (h2:ss.length=2) (ho:okSs ss) (he:e.id.r=0∨e.id.r=1):Meets Tryz.prog 118 [.agg (cWd ss ys),.agg (cE e)] [] (.bool (bornB ss e)) []:=by
 refine Meets.of_walk Tryz.func118 Tryz.ntmps118 low118 res118 (by simp) fun x hx=>?_
 obtain ⟨r,hr2,hr⟩:∃ r:Nat,r < 2∧e.id.r=(r:Int):=by
  rcases he with h | h
  ·
   exact ⟨0,by omega,h⟩
  ·
   exact ⟨1,by omega,h⟩
 have hlt:r < ss.length:=by omega
 have hg:ss[r]? = some (nth ss r):=nth_get? _ _ hlt
 have hl:=(nthS hlt ho).1
 have hla:logAt ss e.id.r=(nth ss r).2.1:=by rw [logAt,hr,Int.toNat_natCast]
 simp only [go_sem,L118,R118,cWd,cE,hr,hlt,hg,cSi3,cSi]
 refine ops_call (.pureE (find_meets (nth ss r).2.1 e.id (by omega)) (by simp [go_sem,cId,hr])) ?_
 by_cases h0:0≤findE (nth ss r).2.1 e.id
 ·
  obtain ⟨k,hk,hkl,hkn⟩:=findE_spec h0
  have hgk:(nth ss r).2.1[k]? = some (nth (nth ss r).2.1 k):=nth_get? _ _ hkl
  have hk0:(0:Int)≤(k:Int):=by omega
  have hb:bornB ss e=sameE (nth (nth ss r).2.1 k) e:=by rw [bornB,hla,hk,Int.toNat_natCast]; simp
  simp only [go_sem,hk,hk0,hkl,hgk,cE,hr]
  refine ops_call (.pureE (entSame_meets (nth (nth ss r).2.1 k) e) (by simp [go_sem,cE,hr])) ?_
  rw [← hb]
  simp only [go_sem]
  repeat refine ⟨rfl,?_⟩
  refine ret_pure hx ?_
  simp [go_sem,L118,R118]
 ·
  have hb:bornB ss e=false:=by rw [bornB,hla]; simp; intro h; omega
  simp only [go_sem,h0]
  repeat refine ⟨rfl,?_⟩
  refine ret_pure hx ?_
  simp [go_sem,L118,R118,hb]
theorem isBorn_meets (ss:List Si) (ys:List (List Entry)) (e:Entry) (h2:ss.length=2) (ho:okSs ss) (he:e.id.r=0∨e.id.r=1):Meets Tryz.prog 71 [.agg (cWd ss ys),.agg (cE e)] [] (.bool (bornB ss e)) []:=by
 refine Meets.of_walk Tryz.func71 Tryz.ntmps71 low71 res71 (by simp) fun x hx=>?_
 obtain ⟨r,hr2,hr⟩:∃ r:Nat,r < 2∧e.id.r=(r:Int):=by
  rcases he with h | h
  ·
   exact ⟨0,by omega,h⟩
  ·
   exact ⟨1,by omega,h⟩
 have hlt:r < ss.length:=by omega
 have hg:ss[r]? = some (nth ss r):=nth_get? _ _ hlt
 have hl:=(nthS hlt ho).1
 have hla:logAt ss e.id.r=(nth ss r).2.1:=by rw [logAt,hr,Int.toNat_natCast]
 simp only [go_sem,L71,R71,cWd,cE,hr,hlt,hg,cSi3,cSi]
 refine ops_call (.pureE (entryAt_meets (nth ss r).2.1 e.id (by omega)) (by simp [go_sem,cId,hr])) ?_
 by_cases h0:0≤findE (nth ss r).2.1 e.id
 ·
  obtain ⟨k,hk,hkl,hkn⟩:=findE_spec h0
  have hgk:(nth ss r).2.1[k]? = some (nth (nth ss r).2.1 k):=nth_get? _ _ hkl
  have hk0:(0:Int)≤(k:Int):=by omega
  have hb:bornB ss e=sameE (nth (nth ss r).2.1 k) e:=by rw [bornB,hla,hk,Int.toNat_natCast]; simp
  simp only [go_sem,hk,hk0,hkl,hgk,cE,hr]
  refine ops_call (.pureE (sameEntry_meets (nth (nth ss r).2.1 k) e) (by simp [go_sem,cE,hr])) ?_
  rw [← hb]
  simp only [go_sem]
  repeat refine ⟨rfl,?_⟩
  refine ret_pure hx ?_
  simp [go_sem,L71,R71]
 ·
  have hb:bornB ss e=false:=by rw [bornB,hla]; simp; intro h; omega
  simp only [go_sem,h0]
  repeat refine ⟨rfl,?_⟩
  refine ret_pure hx ?_
  simp [go_sem,L71,R71,hb]
set_option maxHeartbeats 1000000 in
theorem way_meets (ss:List Si) (ys:List (List Entry)) (l:List Entry) (h2:ss.length=2) (ho:okSs ss) (hl:l.length≤1000000000000000):Meets Tryz.prog 116 [.agg (cWd ss ys),.list (l.map cE)] [] (.int .i64 (wayErr ss l)) []:=by
 refine Meets.of_walk Tryz.func116 Tryz.ntmps116 low116 res116 (by simp) fun x hx=>?_
 by_cases h30:(30:Int) < (l.length:Int)
 ·
  have e:wayErr ss l=2:=by rw [wayErr,if_pos (by omega)]
  simp only [go_sem,L116,R116,cWd,h30]
  refine ret_pure hx ?_
  simp [go_sem,L116,R116,e]
 ·
  have e:wayErr ss l=firstNZ (wayE ss l) l.length:=by rw [wayErr,if_neg (by omega)]
  simp only [go_sem,L116,R116,cWd,h30,e]
  refine loop_inv [2,11,12,13] 1 (fun m st=>∃ k:Nat,k + m=l.length∧firstNZ (wayE ss l) k=0 ∧
   st=⟨mkE .top [(2,.ptr 0 0),(11,.list (l.map cE)),(12,.int .i64 l.length),(13,.int .i64 k)],[.box (cWd ss ys)]⟩) l.length (by simp [hx]) (by simp) ?_ ?_
  ·
   refine ⟨0,by omega,rfl,?_⟩
   simp [trim_mk,go_sem,subHeap,renObj,pos,List.range_succ,cWd]
  ·
   rintro m st ⟨k,hk,hz,rfl⟩
   by_cases hlt:k < l.length
   ·
    have hg:l[k]? = some (nth l k):=nth_get? _ _ hlt
    have wk:=i64_up (k:=k) (by omega)
    have fin:∀ q:Int,wayE ss l k=q→q≠0→firstNZ (wayE ss l) l.length=q:=fun q h1 h2=>by rw [firstNZ_hit hz (by rw [h1]; exact h2) hlt,h1]
    simp only [go_sem,hlt,hg,cE,cWd]
    refine ops_call (.pureE (check_meets (nth l k)) (by simp [go_sem,cE])) ?_
    by_cases h1:checkEntry (nth l k)=0
    ·
     simp only [go_sem,h1,cE,cWd]
     refine ops_call (.pureE (born_meets ss ys (nth l k) h2 ho (check_reg h1)) (by simp [go_sem,cE,cWd])) ?_
     cases hb:bornB ss (nth l k)
     ·
      have hw:wayE ss l k=4:=by rw [wayE,if_pos h1,if_neg (by simp [hb])]
      simp only [go_sem]
      refine ret_pure hx ?_
      simp [go_sem,L116,R116,fin 4 hw (by decide)]
     ·
      have hw:wayE ss l k=0:=by rw [wayE,if_pos h1,if_pos hb]
      simp only [go_sem,wk]
      refine ⟨by simp,m - 1,by omega,k + 1,by omega,firstNZ_succ hz hw,?_⟩
      simp [trim_mk,go_sem,subHeap,renObj,pos,List.range_succ,cWd]
    ·
     have hw:wayE ss l k=checkEntry (nth l k):=by rw [wayE,if_neg h1]
     simp only [go_sem,h1]
     refine ret_pure hx ?_
     simp [go_sem,L116,R116,fin _ hw h1]
   ·
    obtain rfl:k=l.length:=by omega
    simp only [go_sem,hlt]
    refine ret_pure hx ?_
    simp [go_sem,L116,R116,hz]
end Go.Proofs.YtfdolehffjmdmaaGreatDoor
