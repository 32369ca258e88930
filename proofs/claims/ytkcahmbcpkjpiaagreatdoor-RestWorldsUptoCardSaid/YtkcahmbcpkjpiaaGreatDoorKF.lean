/- Joined texts of this claim: T6 T7 E7 L7 L8 L10 T8 T9 T10 T11 V1 V2 V3 V4 V5 V6 V7 V8. -/
import Derived.Test.YtkcahmbcpkjpiaaGreatDoorKE
import Derived.Test.YtkcahmbcpkjpiaaGreatDoorKD
import Derived.Test.YtkcahmbcpkjpiaaGreatDoorKB
set_option linter.unusedSimpArgs false
set_option linter.unusedVariables false
set_option linter.unusedSectionVars false
set_option maxHeartbeats 8000000
set_option maxRecDepth 100000
namespace Go.Proofs.YtkcahmbcpkjpiaaGreatDoor
open Go.RowKit
theorem zcF (l:List Entry) (hl:l.length≤9223372036854775806):zg Tryz.prog 45 [.list (l.map cE),.list (l.map cE)] [] (.bool true) []:=by
 refine zg.of_walk Tryz.func45 Tryz.ntmps45 zx6 zx7 (by simp) fun x hx=>?_
 simp only [go_sem,L45,R45]
 refine zr [0,1,5] 0 (fun n st=>∃ k:Nat,k + n=l.length ∧
  st=⟨mkE .top [(0,.list (l.map cE)),(1,.list (l.map cE)),(5,.int .i64 k)],[]⟩) l.length (by simp [hx]) (by simp) ?_ ?_
 ·
  refine ⟨0,by omega,?_⟩
  simp [zi,go_sem,zc,zd,pos]
 ·
  rintro n st ⟨k,hk,rfl⟩
  by_cases hlt:k < l.length
  ·
   have hg:l[k]? = some (nth l k):=zk _ _ hlt
   have wk:=zD (k:=k) (by omega)
   have hs:zck (nth l k) (nth l k)=true:=by simp [zck]
   simp only [go_sem,hlt,hg,cE]
   refine za (.pureE (zbO (nth l k) (nth l k)) (by simp [go_sem,cE])) ?_
   rw [hs]
   simp only [go_sem,wk]
   repeat refine ⟨rfl,?_⟩
   refine ⟨by simp,n - 1,by omega,k + 1,by omega,?_⟩
   simp [zi,go_sem,zc,zd,pos]
  ·
   simp only [go_sem,hlt]
   refine zb hx ?_
   simp [go_sem,L45,R45]
theorem zgZ (s:Int × List Entry × List Entry) (h1:s.2.1.length≤9223372036854775806) (h2:s.2.2.length≤9223372036854775806):zg Tryz.prog 73 [.agg (zp s),.agg (zp s)] [] (.bool true) []:=by
 refine zg.of_walk Tryz.func73 Tryz.ntmps73 zyI zyJ (by simp) fun x hx=>?_
 simp only [go_sem,L73,R73,zp,cSi]
 refine za (.pureE (zcF s.2.1 h1) (by simp [go_sem])) ?_
 simp only [go_sem,cSi]
 refine za (.pureE (zcF s.2.2 h2) (by simp [go_sem])) ?_
 simp only [go_sem]
 refine zb hx ?_
 simp [go_sem,L73,R73]
theorem zg0 (r : Int) (lg ws : List Entry) (c : Int) (t : ByteArray) (hr : r = 0 ∨ r = 1) (h : LogOk lg) (hw : ws.length ≤ 20) (hf : zbT ws) :
    zg Tryz.prog 63 [.agg (cSi r lg ws),.int .i64 c,.str t] [] (.tup [.agg (zp (zbq r lg ws c t)),.agg (cE (zbr r lg c t)),.int .i64 (zO r lg c t)]) []:=by
  have hlen:=h.len
  refine zg.of_parts Tryz.func63 Tryz.ntmps63 zyy zyz (by simp) fun x hx=>?_
  simp only [L63,R63,LC.flat,List.cons_append,List.nil_append]
  refine Zq 7 [6,7,9,10] 6 (fun st=>zO r lg c t=0∧st=⟨mkE .top [(6,.ptr 1 0),(7,.ptr 2 0),(9,.ptr 3 0),(10,.ptr 5 0)],
    [.box (cSi r lg ws),.box [.int .i64 0,.nilsl,.nilsl],.box [.int .i64 0,.int .i64 0,.int .i64 0,.str ⟨#[]⟩,.nilsl],.box (cE (apE r lg c t)),.arr 3 false false 32 5 ((lg ++ [apE r lg c t]).map cE),.box [.int .i64 r,.arr 4 3,.list (ws.map cE)]]⟩) (by simp [hx]) (by simp) ?_ ?_
  · simp only [List.take_succ_cons,List.take_zero]
    simp only [go_sem,cSi]
    refine za (.pureE (zm c 1 7) (by simp [go_sem])) ?_
    cases hc:ZX c 1 7
    · have e:zO r lg c t=3:=by rw [zO,if_pos hc]
      simp only [go_sem]
      refine zb hx ?_
      simp [go_sem,L63,R63,zbq,zbr,e,zp,cSi,cE,zE]
    · have e0:zO r lg c t=if 12 < t.size∨(20:Int) < (ZB lg r:Int) + 1∨lg.length=40∨6 < (Zv (Za lg c)).length then 2 else 0:=by rw [zO,if_neg (by simp [hc])]
      rcases hr with rfl | rfl
      · skip
        have hcn:IntKind.i64.wrap ((ZB lg 0:Int) + 1)=(ZB lg 0:Int) + 1:=by have:=zbm lg 0; rw [IntWalk.i64_in _ (by omega)]
        simp only [go_sem,cSi]
        refine za (.pureE (zby lg h.reg (by omega)) (by simp [go_sem])) ?_
        simp only [go_sem,cSi,zq,Int.reduceLT,Int.reduceLE,Int.reduceToNat,Int.reduceAdd,frz,hcn]
        refine za (.pureE (zev lg c h hc) (by simp [go_sem])) ?_
        rw [zdv h c]
        simp only [go_sem,cSi]
        repeat refine ⟨rfl,?_⟩
        by_cases d1:(12:Int) < (t.size:Int)
        · have e:zO 0 lg c t=2:=by rw [e0,if_pos (by omega)]
          simp only [go_sem,d1]
          refine zb hx ?_
          simp [go_sem,L63,R63,zbq,zbr,e,zp,cSi,cE,zE]
        · by_cases d2:(20:Int) < (ZB lg 0:Int) + 1
          · have e:zO 0 lg c t=2:=by rw [e0,if_pos (by omega)]
            simp only [go_sem,d1,d2]
            refine zb hx ?_
            simp [go_sem,L63,R63,zbq,zbr,e,zp,cSi,cE,zE]
          · by_cases d3:(lg.length:Int)=40
            · have e:zO 0 lg c t=2:=by rw [e0,if_pos (by omega)]
              simp only [go_sem,d1,d2,d3,cSi]
              refine zb hx ?_
              simp [go_sem,L63,R63,zbq,zbr,e,zp,cSi,cE,zE]
            · by_cases d4:(6:Int) < ((Zv (Za lg c)).length:Int)
              · have e:zO 0 lg c t=2:=by rw [e0,if_pos (by omega)]
                simp only [go_sem,d1,d2,d3,d4,cSi]
                refine zb hx ?_
                simp [go_sem,L63,R63,zbq,zbr,e,zp,cSi,cE,zE]
              · have e:zO 0 lg c t=0:=by rw [e0,if_neg (by omega)]
                simp only [go_sem,d1,d2,d3,d4,cSi]
                rw [zB rfl rfl (zba lg) (by simp; omega)]
                simp only [go_sem,cSi]
                rw [zB rfl rfl (by simp) (by simp; omega)]
                have hce:List.map cE lg ++ [[PV.int .i64 0,.int .i64 ((ZB lg 0:Int) + 1),.int .i64 c,.str t,.list ((Zv (Za lg c)).map cId)]]=(lg ++ [apE 0 lg c t]).map cE:=by simp [cE,apE]
                simp only [go_sem,hce]
                repeat refine ⟨rfl,?_⟩
                refine ⟨by simp,_,zx 4 (v:=3) (T:=32) (sz:=5) (sto:=true) (rows:=(lg ++ [apE 0 lg c t]).map cE) (by simp [zi,zc,zd,pos,List.range_succ]),e,?_⟩
                simp [zi,go_sem,zc,zd,ze,zf,pos,List.range_succ,cSi,cE,apE]
      · skip
        have hcn:IntKind.i64.wrap ((ZB lg 1:Int) + 1)=(ZB lg 1:Int) + 1:=by have:=zbm lg 1; rw [IntWalk.i64_in _ (by omega)]
        simp only [go_sem,cSi]
        refine za (.pureE (zby lg h.reg (by omega)) (by simp [go_sem])) ?_
        simp only [go_sem,cSi,zq,Int.reduceLT,Int.reduceLE,Int.reduceToNat,Int.reduceAdd,frz,hcn]
        refine za (.pureE (zev lg c h hc) (by simp [go_sem])) ?_
        rw [zdv h c]
        simp only [go_sem,cSi]
        repeat refine ⟨rfl,?_⟩
        by_cases d1:(12:Int) < (t.size:Int)
        · have e:zO 1 lg c t=2:=by rw [e0,if_pos (by omega)]
          simp only [go_sem,d1]
          refine zb hx ?_
          simp [go_sem,L63,R63,zbq,zbr,e,zp,cSi,cE,zE]
        · by_cases d2:(20:Int) < (ZB lg 1:Int) + 1
          · have e:zO 1 lg c t=2:=by rw [e0,if_pos (by omega)]
            simp only [go_sem,d1,d2]
            refine zb hx ?_
            simp [go_sem,L63,R63,zbq,zbr,e,zp,cSi,cE,zE]
          · by_cases d3:(lg.length:Int)=40
            · have e:zO 1 lg c t=2:=by rw [e0,if_pos (by omega)]
              simp only [go_sem,d1,d2,d3,cSi]
              refine zb hx ?_
              simp [go_sem,L63,R63,zbq,zbr,e,zp,cSi,cE,zE]
            · by_cases d4:(6:Int) < ((Zv (Za lg c)).length:Int)
              · have e:zO 1 lg c t=2:=by rw [e0,if_pos (by omega)]
                simp only [go_sem,d1,d2,d3,d4,cSi]
                refine zb hx ?_
                simp [go_sem,L63,R63,zbq,zbr,e,zp,cSi,cE,zE]
              · have e:zO 1 lg c t=0:=by rw [e0,if_neg (by omega)]
                simp only [go_sem,d1,d2,d3,d4,cSi]
                rw [zB rfl rfl (zba lg) (by simp; omega)]
                simp only [go_sem,cSi]
                rw [zB rfl rfl (by simp) (by simp; omega)]
                have hce:List.map cE lg ++ [[PV.int .i64 1,.int .i64 ((ZB lg 1:Int) + 1),.int .i64 c,.str t,.list ((Zv (Za lg c)).map cId)]]=(lg ++ [apE 1 lg c t]).map cE:=by simp [cE,apE]
                simp only [go_sem,hce]
                repeat refine ⟨rfl,?_⟩
                refine ⟨by simp,_,zx 4 (v:=3) (T:=32) (sz:=5) (sto:=true) (rows:=(lg ++ [apE 1 lg c t]).map cE) (by simp [zi,zc,zd,pos,List.range_succ]),e,?_⟩
                simp [zi,go_sem,zc,zd,ze,zf,pos,List.range_succ,cSi,cE,apE]
  · rintro st ⟨e,rfl⟩
    simp only [List.drop_succ_cons,List.drop_zero]
    refine zY ?_
    simp only [go_sem]
    refine za (.pureE (zco ws.length r (lg ++ [apE r lg c t]) ws rfl (by simp; omega) (zc9 (zdb h) (zdc hr hlen)) hf) (by simp [go_sem,zu,pos,cSi])) ?_
    simp only [go_sem,zp,cSi,cE]
    repeat refine ⟨rfl,?_⟩
    refine zb hx ?_
    simp [go_sem,L63,R63,zbq,zbr,e,zp,cSi,cE]
theorem zjB {l:List Entry} (hu:upE l) (y:Id):zcQ l y≤l.length∧(∀ k,k < zcQ l y→zP (nth l k).id y=true)∧∀ k,zcQ l y≤k→k < l.length→zP (nth l k).id y=false:=by
 have key:∀ m,m≤l.length→∃ i,i≤m∧(∀ k,k < i→zP (nth l k).id y=true)∧∀ k,i≤k→k < m→zP (nth l k).id y=false:=by
  intro m
  induction m with
  | zero=>intro _; exact ⟨0,Nat.le_refl _,fun k h=>by omega,fun k a b=>by omega⟩
  | succ m ih =>
   intro hm
   by_cases h:zP (nth l m).id y=true
   ·
    refine ⟨m + 1,Nat.le_refl _,fun k hk=>?_,fun k a b=>by omega⟩
    by_cases e:k=m
    ·
     subst e; exact h
    ·
     exact zab (hu k m (by omega) (by omega)) h
   ·
    obtain ⟨i,h1,h2,h3⟩:=ih (by omega)
    refine ⟨i,by omega,h2,fun k a b=>?_⟩
    by_cases e:k=m
    ·
     subst e; simpa using h
    ·
     exact h3 k a (by omega)
 obtain ⟨i,h1,h2,h3⟩:=key l.length (Nat.le_refl _)
 rw [zon h1 h2 h3]
 exact ⟨h1,h2,h3⟩
theorem zjC {l:List Entry} {y:Id} (h:¬ 0≤zz l y):∀ e ∈ l,e.id≠y:=fun e he h2=>by
 have:=zcb (fun e:Entry=>decide (e.id=y)) l
 rw [show zaH (fun e:Entry=>decide (e.id=y)) l 0=zz l y from rfl,decide_eq_false h] at this
 have h3:=List.any_eq_false.1 this.symm e he
 simp [h2] at h3
theorem zic (x e:Entry):∀ (l:List Entry) (p:Nat),p≤l.length→(l ++ [x]).insertIdx p e=l.insertIdx p e ++ [x]
 | l,0,_=>by cases l <;> rfl
 | [],p + 1,h=>by simp at h
 | y :: l,p + 1,h=>by
  simp only [List.cons_append,List.insertIdx_succ_cons]
  rw [zic x e l p (by simpa using h)]
theorem zid (e:Entry):∀ (l:List Entry),l.insertIdx l.length e=l ++ [e]
 | []=>rfl
 | y :: l=>by
  simp only [List.length_cons,List.insertIdx_succ_cons,List.cons_append]
  rw [zid e l]
def zgL (ws:List Entry) (e:Entry) (p k:Nat):List Entry:=if p < k then (ws.take k).insertIdx p e else ws.take k
theorem Z5 {l:List Entry} {k:Nat} (h:k < l.length):l.take (k + 1)=l.take k ++ [nth l k]:=by rw [List.take_succ_eq_append_getElem h,zy _ _ h]
theorem zmw {ws:List Entry} {e:Entry} {p k:Nat} (hk:k < ws.length) (h:p < k):zgL ws e p (k + 1)=zgL ws e p k ++ [nth ws k]:=by
 rw [zgL,zgL,if_pos (by omega),if_pos h,Z5 hk,zic _ _ _ _ (by rw [List.length_take]; omega)]
theorem zkJ {ws:List Entry} {e:Entry} {p k:Nat} (hk:k < ws.length) (h:k < p):zgL ws e p (k + 1)=zgL ws e p k ++ [nth ws k]:=by
 rw [zgL,zgL,if_neg (by omega),if_neg (by omega),Z5 hk]
theorem zsV {ws:List Entry} {e:Entry} {k:Nat} (hk:k < ws.length):zgL ws e k (k + 1)=zgL ws e k k ++ [e] ++ [nth ws k]:=by
 have hl:(ws.take k).length=k:=by rw [List.length_take]; omega
 have h2:=zid e (ws.take k)
 rw [hl] at h2
 rw [zgL,zgL,if_pos (by omega),if_neg (by omega),Z5 hk,zic _ _ _ _ (by omega),h2]
theorem zlo (ws:List Entry) (e:Entry) (p k:Nat):(zgL ws e p k).length≤k + 1:=by
 unfold zgL
 split
 ·
  rw [List.length_insertIdx]
  split <;> rw [List.length_take] <;> omega
 ·
  rw [List.length_take]; omega
theorem zbW (r : Int) (lg ws : List Entry) (e : Entry) (hl : lg.length ≤ 1000) (hw : ws.length ≤ 1000) (hf1 : zbT lg) (hf2 : zbT ws) (hu : upE ws) (he : (e.id.r = 0 ∨ e.id.r = 1) ∧ e.ls.length ≤ 1000000) :
    zg Tryz.prog 64 [.agg (cSi r lg ws),.agg (cE e)] [] (.tup [.agg (zp (zas r lg ws e)),.int .i64 (zW r lg ws e)]) []:=by
  refine zg.of_walk Tryz.func64 Tryz.ntmps64 zyA zyB (by simp) fun x hx=>?_
  simp only [go_sem,L64,R64,cSi,cE]
  refine za (.pureE (Zf lg e.id (by omega)) (by simp [go_sem,cId])) ?_
  by_cases h1:0≤zz lg e.id
  · have e1:zW r lg ws e=0:=by rw [zW,if_pos (.inl h1)]
    simp only [go_sem,h1,cSi,cE]
    refine zb hx ?_
    simp [go_sem,L64,R64,zas,e1,h1,zp,cSi,cE,zu,pos]
  · simp only [go_sem,h1,cSi,cE]
    refine za (.pureE (Zf ws e.id (by omega)) (by simp [go_sem,cId])) ?_
    by_cases h2:0≤zz ws e.id
    · have e1:zW r lg ws e=0:=by rw [zW,if_pos (.inr h2)]
      simp only [go_sem,h2,cSi,cE]
      refine zb hx ?_
      simp [go_sem,L64,R64,zas,e1,h2,zp,cSi,cE,zu,pos]
    · by_cases h3:e.id.r=r
      · have e1:zW r lg ws e=4:=by rw [zW,if_neg (by omega),if_pos h3]
        simp only [go_sem,h2,h3,cSi,cE]
        refine zb hx ?_
        simp [go_sem,L64,R64,zas,e1,h1,h2,zp,cSi,cE,zu,pos]
      · have e0:zW r lg ws e=if 20 < (rcP lg ws e).2.length∨40 < (rcP lg ws e).1.length then 2 else 0:=by rw [zW,if_neg (by omega),if_neg h3]
        have hil:=zib ws e (zbo ws e.id)
        obtain ⟨p1,p2,p3⟩:=zjB hu e.id
        have hne:=zjC h2
        have hinsK:zgL ws e (zcQ ws e.id) ws.length=if zcQ ws e.id < ws.length then ws.insertIdx (zcQ ws e.id) e else ws:=by rw [zgL,List.take_length]
        simp only [go_sem,h2,h3,cSi,cE]
        refine zaa (Z9 3 2 0 32 5 true false rfl rfl (by omega)) ?_
        generalize hpe:zcQ ws e.id=p at *
        refine zr [2,3,4,6,7,8] 5 (fun m st=>∃ k v:Nat,k + m=ws.length ∧
          st=⟨mkE .top [(2,.ptr 0 0),(3,.ptr 1 0),(4,.ptr 2 0),(6,.ptr 3 0),(7,.bool (decide (p < k))),(8,.int .i64 k)],[.box (cSi r lg ws),.box (cE e),.box [.int .i64 0,.nilsl,.nilsl],.box [.int .i64 r,.list (lg.map cE),.arr 4 v],.arr v true false 32 5 ((zgL ws e p k).map cE)]⟩) ws.length (by simp [hx]) (by simp) ?_ ?_
        · refine ⟨0,0,by omega,?_⟩
          simp [zi,go_sem,zc,zd,ze,zf,pos,List.range_succ,cSi,cE,zgL]
        · rintro m st ⟨k,v,hk,rfl⟩
          by_cases hlt:k < ws.length
          · have hg:ws[k]? = some (nth ws k):=zk _ _ hlt
            have wk:=zD (k:=k) (by omega)
            have hkl:=zlo ws e p k
            by_cases hp:p < k
            · have hs:=zmw (e:=e) hlt hp
              have hp':p < k + 1:=by omega
              simp only [go_sem,hlt,hg,hp,cE,cSi]
              rw [zB rfl rfl (by simp) (by simp; omega)]
              simp only [go_sem,wk]
              repeat refine ⟨rfl,?_⟩
              refine ⟨by simp,m - 1,by omega,k + 1,v + 1,by omega,?_⟩
              simp [zi,go_sem,zc,zd,ze,zf,pos,List.range_succ,cSi,cE,hs,hp,hp']
            · by_cases hpk:k=p
              · subst hpk
                have hs:=zsV (e:=e) hlt
                have hle:zP e.id (nth ws k).id=true:=by
                  have a:=p3 k (Nat.le_refl _) hlt
                  cases h:zP e.id (nth ws k).id
                  · exact (hne _ (zcT hlt) (zol a h)).elim
                  · rfl
                simp only [go_sem,hlt,hg,hp,cE,cSi]
                refine za (.pureE (zbx e.id (nth ws k).id) (by simp [go_sem,cId])) ?_
                rw [hle]
                simp only [go_sem,cE,cSi]
                repeat refine ⟨rfl,?_⟩
                rw [zB rfl rfl (by simp) (by simp; omega)]
                have hce:List.map cE (zgL ws e k k) ++ [[PV.int .i64 e.id.r,.int .i64 e.id.n,.int .i64 e.c,.str e.t,.list (e.ls.map cId)]]=(zgL ws e k k ++ [e]).map cE:=by simp [cE]
                simp only [go_sem,hce,hlt,hg,cE,cSi]
                repeat refine ⟨rfl,?_⟩
                rw [zB rfl rfl (by simp) (by simp; omega)]
                simp only [go_sem,wk]
                repeat refine ⟨rfl,?_⟩
                refine ⟨by simp,m - 1,by omega,k + 1,v + 1 + 1,by omega,?_⟩
                simp [zi,go_sem,zc,zd,ze,zf,pos,List.range_succ,cSi,cE,hs]
              · have hs:=zkJ (e:=e) hlt (show k < p by omega)
                have hle:zP e.id (nth ws k).id=false:=zmv (p2 k (by omega))
                have hp':¬ p < k + 1:=by omega
                simp only [go_sem,hlt,hg,hp,cE,cSi]
                refine za (.pureE (zbx e.id (nth ws k).id) (by simp [go_sem,cId])) ?_
                rw [hle]
                simp only [go_sem,hlt,hg,cE,cSi]
                repeat refine ⟨rfl,?_⟩
                rw [zB rfl rfl (by simp) (by simp; omega)]
                simp only [go_sem,wk]
                repeat refine ⟨rfl,?_⟩
                refine ⟨by simp,m - 1,by omega,k + 1,v + 1,by omega,?_⟩
                simp [zi,go_sem,zc,zd,ze,zf,pos,List.range_succ,cSi,cE,hs,hp,hp']
          · obtain rfl:k=ws.length:=by omega
            have hkl:=zlo ws e p ws.length
            by_cases hp:p < ws.length
            · have hins:zgL ws e p ws.length=ws.insertIdx p e:=by rw [hinsK,if_pos hp]
              simp only [go_sem,hlt,hp,cSi,cE]
              rw [hins]
              refine za (.pureME (H1 := [.box (cSi r lg ws),.box (cE e),.box [.int .i64 0,.nilsl,.nilsl],.box [.int .i64 r,.list (lg.map cE),.arr 4 (v)],.arr (v) false false 32 5 ((ws.insertIdx p e).map cE)]) (zco _ r lg (ws.insertIdx p e) rfl (by rw [hil]; omega) hf1 (zia hf2 he p1)) (zct.shut 4 rfl) (by simp [go_sem,zu,pos,cSi])) ?_
              rw [show zv lg (ws.insertIdx p e)=rcP lg ws e from by rw [rcP,hpe]]
              by_cases g1:(20:Int) < ((rcP lg ws e).2.length:Int)
              · have e1:zW r lg ws e=2:=by rw [e0,if_pos (by omega)]
                simp only [go_sem,g1,cSi,cE,zp]
                refine zb hx ?_
                simp [go_sem,L64,R64,zas,e1,h1,h2,zp,cSi,cE,zu,pos]
              · by_cases g2:(40:Int) < ((rcP lg ws e).1.length:Int)
                · have e1:zW r lg ws e=2:=by rw [e0,if_pos (by omega)]
                  simp only [go_sem,g1,g2,cSi,cE,zp]
                  refine zb hx ?_
                  simp [go_sem,L64,R64,zas,e1,h1,h2,zp,cSi,cE,zu,pos]
                · have e1:zW r lg ws e=0:=by rw [e0,if_neg (by omega)]
                  simp only [go_sem,g1,g2,cSi,cE,zp]
                  refine zb hx ?_
                  simp [go_sem,L64,R64,zas,e1,h1,h2,zp,cSi,cE,zu,pos]
            · have hpl:p=ws.length:=by omega
              simp only [go_sem,hlt,hp,cSi,cE]
              rw [zB rfl rfl (by simp) (by simp; omega)]
              simp only [go_sem,cSi,cE]
              have hins:List.map cE (zgL ws e p ws.length) ++ [[PV.int .i64 e.id.r,.int .i64 e.id.n,.int .i64 e.c,.str e.t,.list (e.ls.map cId)]]=(ws.insertIdx p e).map cE:=by
                rw [hinsK,if_neg hp,hpl,zid]; simp [cE]
              rw [hins]
              refine za (.pureME (H1 := [.box (cSi r lg ws),.box (cE e),.box [.int .i64 0,.nilsl,.nilsl],.box [.int .i64 r,.list (lg.map cE),.arr 4 (v + 1)],.arr (v + 1) false false 32 5 ((ws.insertIdx p e).map cE)]) (zco _ r lg (ws.insertIdx p e) rfl (by rw [hil]; omega) hf1 (zia hf2 he p1)) (zct.shut 4 rfl) (by simp [go_sem,zu,pos,cSi])) ?_
              rw [show zv lg (ws.insertIdx p e)=rcP lg ws e from by rw [rcP,hpe]]
              by_cases g1:(20:Int) < ((rcP lg ws e).2.length:Int)
              · have e1:zW r lg ws e=2:=by rw [e0,if_pos (by omega)]
                simp only [go_sem,g1,cSi,cE,zp]
                refine zb hx ?_
                simp [go_sem,L64,R64,zas,e1,h1,h2,zp,cSi,cE,zu,pos]
              · by_cases g2:(40:Int) < ((rcP lg ws e).1.length:Int)
                · have e1:zW r lg ws e=2:=by rw [e0,if_pos (by omega)]
                  simp only [go_sem,g1,g2,cSi,cE,zp]
                  refine zb hx ?_
                  simp [go_sem,L64,R64,zas,e1,h1,h2,zp,cSi,cE,zu,pos]
                · have e1:zW r lg ws e=0:=by rw [e0,if_neg (by omega)]
                  simp only [go_sem,g1,g2,cSi,cE,zp]
                  refine zb hx ?_
                  simp [go_sem,L64,R64,zas,e1,h1,h2,zp,cSi,cE,zu,pos]
def e0:Entry:=⟨⟨0,1⟩,1,BA [112,117,116,32,97,32,120],[]⟩
def e1:Entry:=⟨⟨1,1⟩,3,BA [112,117,116,32,97,32,121],[]⟩
def e2:Entry:=⟨⟨0,2⟩,3,BA [100,114,111,112,32,97],[⟨0,1⟩]⟩
def e3:Entry:=⟨⟨1,2⟩,2,BA [112,117,116,32,98,32,122],[⟨0,2⟩,⟨1,1⟩]⟩
def cE0 (e:Entry):List PV := [.int .i64 e.id.r,.int .i64 e.id.n,.int .i64 e.c,.str e.t,if e.ls = [] then .nilsl else .list (e.ls.map cId)]
theorem zeA:zg Tryz.prog 43 [] [] (.list [cE e0,cE e1,cE e2,cE e3]) []:=by
 refine zg.nl (r := .list [cE0 e0,cE0 e1,cE0 e2,cE0 e3]) 4 ?_ (by simp [nlN,cE0,cE,cId,e0,e1,e2,e3])
 refine zg.of_walk Tryz.func43 Tryz.ntmps43 zx4 zx5 (by simp) fun x hx=>?_
 simp only [go_sem,L43,R43]
 iterate 7
  refine za (.pure (zdZ _ _)) ?_
  simp only [go_sem]
 refine zb hx ?_
 simp [go_sem,L43,R43,cE0,cId,e0,e1,e2,e3,BA]
theorem zsW {α:Type} [Inhabited α] {l:List α} {k:Nat} (h:k < l.length):nth l k ∈ l:=by rw [zy _ _ h]; exact List.getElem_mem h
theorem zsX {l:List Entry} (h0:z8 l=0) {k:Nat} (hk:k < l.length):zgf l (nth l k).id=0∧zkF l (nth l k).id=ZE l k:=by
 have hok:=zaQ.1 h0
 have hp:zgf l (nth l k).id=0:=by
  rw [zgf,if_neg (by simp [h0]),hok.find hk,if_neg (by omega)]
 exact ⟨hp,by rw [zkF,if_pos hp,hok.find hk,Int.toNat_natCast]⟩
theorem zfH {α:Type} [Inhabited α] {l:List α} {n i:Nat} (hi:i < n) (hn:n≤l.length):nth (l.take n) i=nth l i:=by
 rw [zy _ _ (by rw [List.length_take]; omega),zy _ _ (by omega),List.getElem_take]
theorem LogOk.take {l:List Entry} (h:LogOk l) {n:Nat} (hn:n≤l.length):LogOk (l.take n) where
 len:=by rw [List.length_take]; have:=h.len; omega
 chk:=fun k hk=>by
  rw [List.length_take] at hk
  rw [zfH (by omega) hn]; exact h.chk k (by omega)
 new:=fun k hk=>by
  rw [List.length_take] at hk
  rw [zfH (by omega) hn,List.take_take,Nat.min_eq_left (by omega)]; exact h.new k (by omega)
 num:=fun k hk=>by
  rw [List.length_take] at hk
  rw [zfH (by omega) hn,List.take_take,Nat.min_eq_left (by omega)]; exact h.num k (by omega)
 lnk:=fun k hk=>by
  rw [List.length_take] at hk
  rw [zfH (by omega) hn,List.take_take,Nat.min_eq_left (by omega)]; exact h.lnk k (by omega)
theorem zfI:∀ {l:List Entry},zhW l→ZB l 0 + ZB l 1=l.length
 | [],_=>rfl
 | e :: l,h=>by
  have ih:=zfI (l:=l) fun x hx=>h x (by simp [hx])
  have he:=h e (by simp)
  simp only [ZB,List.countP_cons,List.length_cons,decide_eq_true_eq] at ih ⊢
  rcases he with he | he <;> simp [he] <;> omega
theorem zoq {l:List Entry} {i n:Nat} (h:i≤n) (r:Int):ZB (l.take i) r≤ZB (l.take n) r :=
 List.Sublist.countP_le (List.take_sublist_take_left h)
theorem zsY {l:List Entry} {e:Entry} {k:Nat} (h:k < l.length):nth (l ++ [e]) k=nth l k:=by
 rw [zy _ _ (by simp; omega),zy _ _ h,List.getElem_append_left h]
theorem zkK (l:List Entry) (e:Entry):nth (l ++ [e]) l.length=e:=by
 rw [zy _ _ (by simp)]; simp
theorem zlp {l:List Entry} {e:Entry} {k:Nat} (h:k≤l.length):(l ++ [e]).take k=l.take k:=by
 rw [List.take_append_of_le_length h]
theorem LogOk.cnt {l:List Entry} (h:LogOk l) (r:Int):ZB l r≤20:=by
 have key:∀ k,k≤l.length→ZB (l.take k) r≤20:=by
  intro k
  induction k with
  | zero=>intro _; simp [ZB]
  | succ k ih =>
   intro hk
   rw [zbP l k r (by omega)]
   by_cases e:(nth l k).id.r=r
   ·
    rw [if_pos e]
    have h1:=h.num k (by omega)
    have h2:=h.id_ok (k:=k) (by omega)
    simp only [zeV,Bool.and_eq_true,zX] at h2
    rw [e] at h1
    omega
   ·
    rw [if_neg e]
    have:=ih (by omega)
    omega
 have:=key l.length (Nat.le_refl _)
 rwa [List.take_length] at this
theorem LogOk.num_le {l:List Entry} (h:LogOk l) {k:Nat} (hk:k < l.length):(nth l k).id.n≤(ZB l (nth l k).id.r:Int):=by
 have h1:=h.num k hk
 have h2:=zbP l k (nth l k).id.r hk
 rw [if_pos rfl] at h2
 have h3:=zoq (l:=l) (i:=k + 1) (n:=l.length) (by omega) (nth l k).id.r
 rw [List.take_length] at h3
 omega
theorem zdh {l:List Entry} {e:Entry}:zV l e=true↔(ZB l e.id.r:Int) + 1=e.id.n∧∀ x ∈ e.ls,0≤zz l x:=by
 simp only [zV,Bool.and_eq_true,decide_eq_true_eq,Bool.not_eq_true',List.any_eq_false]
 exact ⟨fun ⟨a,b⟩=>⟨a,fun x hx=>by have:=b x hx; omega⟩,fun ⟨a,b⟩=>⟨a,fun x hx=>by have:=b x hx; omega⟩⟩
theorem LogOk.app_new {l:List Entry} {e:Entry} (h:LogOk l) (hr:(ZB l e.id.r:Int) + 1=e.id.n):zz l e.id < 0:=by
 rw [zaI]
 intro y hy he
 obtain ⟨k,hk,rfl⟩:=List.getElem_of_mem hy
 rw [← zy _ _ hk] at he
 have:=h.num_le hk
 rw [he] at this
 omega
theorem LogOk.app {l:List Entry} {e:Entry} (h:LogOk l) (hc:zl e=0) (hr:zV l e=true):LogOk (l ++ [e]):=by
 obtain ⟨hn,hl⟩:=zdh.1 hr
 have hnew:=h.app_new hn
 have h1:∀ k,k < l.length + 1→(k < l.length∧nth (l ++ [e]) k=nth l k∧(l ++ [e]).take k=l.take k)∨(nth (l ++ [e]) k=e∧(l ++ [e]).take k=l):=by
  intro k hk
  by_cases hlt:k < l.length
  ·
   exact .inl ⟨hlt,zsY hlt,zlp (by omega)⟩
  ·
   obtain rfl:k=l.length:=by omega
   exact .inr ⟨zkK l e,by rw [zlp (Nat.le_refl _),List.take_length]⟩
 have hb:=(Zd hc).1
 simp only [zeV,Bool.and_eq_true,zX] at hb
 have hlen:l.length + 1≤40:=by
  have s:=zfI h.reg
  have c0:=h.cnt 0
  have c1:=h.cnt 1
  have hr2:e.id.r=0∨e.id.r=1:=by omega
  rcases hr2 with q | q
  all_goals
   rw [q] at hn
   omega
 refine ⟨by simp; omega,fun k hk=>?_,fun k hk=>?_,fun k hk=>?_,fun k hk=>?_⟩
 all_goals
  rw [List.length_append,List.length_singleton] at hk
  rcases h1 k hk with ⟨a,b,c⟩ | ⟨b,c⟩
 ·
  rw [b]; exact h.chk k a
 ·
  rw [b]; exact hc
 ·
  rw [b,c]; exact h.new k a
 ·
  rw [b,c]; exact hnew
 ·
  rw [b,c]; exact h.num k a
 ·
  rw [b,c]; exact hn
 ·
  rw [b,c]; exact h.lnk k a
 ·
  rw [b,c]; exact hl
theorem zhx {lg ws:List Entry} (h:0≤zd8 lg ws):zV lg (nth ws (zd8 lg ws).toNat)=true:=by
 obtain ⟨k,h1,h2,h3⟩:=zf9 (zV lg) ws 0 h
 have:(zd8 lg ws).toNat=k:=by unfold zd8; rw [h1]; simp
 rw [this]; exact h3
theorem zhy:∀ (k:Nat) (lg ws:List Entry),LogOk lg→(∀ e ∈ ws,zl e=0)→LogOk (Zr k lg ws).1∧(∀ e ∈ (Zr k lg ws).2,e ∈ ws)∧∃ t,(Zr k lg ws).1=lg ++ t∧∀ e ∈ t,e ∈ ws
 | 0,lg,ws,h,_=>⟨h,fun e he=>he,[],by simp [Zr],by simp⟩
 | k + 1,lg,ws,h,hc=>by
  rw [Zr]
  split
  ·
   rename_i hr
   have hm:=zcT (ze3 hr)
   obtain ⟨a,b,t,c,d⟩:=zhy k (lg ++ [nth ws (zd8 lg ws).toNat]) (ws.eraseIdx (zd8 lg ws).toNat) (h.app (hc _ hm) (zhx hr)) (fun e he=>hc e (List.mem_of_mem_eraseIdx he))
   refine ⟨a,fun e he=>List.mem_of_mem_eraseIdx (b e he),nth ws (zd8 lg ws).toNat :: t,by rw [c]; simp,fun e he=>?_⟩
   rcases List.mem_cons.1 he with q | q
   ·
    rw [q]; exact hm
   ·
    exact List.mem_of_mem_eraseIdx (d e q)
  ·
   exact ⟨h,fun e he=>he,[],by simp,by simp⟩
theorem ze4 {lg ws:List Entry} (h:LogOk lg) (hc:∀ e ∈ ws,zl e=0):LogOk (zv lg ws).1∧(∀ e ∈ (zv lg ws).2,e ∈ ws)∧∃ t,(zv lg ws).1=lg ++ t∧∀ e ∈ t,e ∈ ws:=zhy _ _ _ h hc
theorem zlq {lg:List Entry} (h:LogOk lg) {c:Int} {x:Id} (hx:x ∈ Zv (Za lg c)):∃ k,k < lg.length∧(nth lg k).id=x∧zak (nth lg k).c c=true:=by
 obtain ⟨k,a,b,d,-⟩:=(ze2 h).1 (zet.1 hx)
 exact ⟨k,a,b,d⟩
theorem zrP {r:Int} {lg:List Entry} {c:Int} {t:ByteArray} (hr:r=0∨r=1) (h:LogOk lg) (he:zO r lg c t=0):zl (apE r lg c t)=0∧zV lg (apE r lg c t)=true:=by
 unfold zO at he
 split at he
 ·
  cases he
 ·
  rename_i hc
  split at he
  ·
   cases he
  ·
   rename_i hq
   have hq1:¬ 12 < t.size:=by omega
   have hq2:¬ (20:Int) < (ZB lg r:Int) + 1:=by omega
   have hq3:¬ 6 < (Zv (Za lg c)).length:=by omega
   have hid:zeV (apE r lg c t).id=true:=by
    simp only [apE,zeV,Bool.and_eq_true,zX]; omega
   have hasc:Asc (Zv (Za lg c)):=zjl (zfi h c)
   have hin:∀ j,j < (Zv (Za lg c)).length→∃ k,k < lg.length∧(nth lg k).id=nth (Zv (Za lg c)) j:=fun j hj=>by
    obtain ⟨k,a,b,-⟩:=zlq h (zsW hj)
    exact ⟨k,a,b⟩
   refine ⟨?_,zdh.2 ⟨rfl,fun x hx=>?_⟩⟩
   ·
    rw [zl,if_neg (by simp [hid]),if_neg (by simpa [apE] using hc),if_neg (by simpa [apE] using hq1),if_neg (by simpa [apE] using hq3),ZY]
    intro j hj
    have hj':j < (Zv (Za lg c)).length:=hj
    obtain ⟨k,hk,hke⟩:=hin j hj'
    show z7 (apE r lg c t).id (Zv (Za lg c)) j=0
    rw [z7,← hke,if_neg (by simp [h.id_ok hk]),hke,if_neg,if_neg]
    ·
     rintro ⟨a,b⟩
     have:=h.num_le hk
     rw [hke] at this
     simp only [apE] at a b
     rw [a] at this
     omega
    ·
     intro q
     simp only [Bool.and_eq_true,decide_eq_true_eq,Bool.not_eq_true'] at q
     obtain ⟨q1,q2⟩:=q
     have:=(List.pairwise_iff_getElem.1 hasc) (j - 1) j (by omega) hj' (by omega)
     rw [← zy,← zy,q2] at this
     cases this
   ·
    obtain ⟨k,hk,hke,-⟩:=zlq h hx
    rw [← hke,h.find hk]; omega
theorem zor {r:Int} {lg:List Entry} {c:Int} {t:ByteArray} (hr:r=0∨r=1) (h:LogOk lg) (he:zO r lg c t=0):LogOk (lg ++ [apE r lg c t]):=by
 obtain ⟨a,b⟩:=zrP hr h he
 exact h.app a b
structure WaitOk (q:Int) (lg ws:List Entry):Prop where
 up:upE ws
 chk:∀ e ∈ ws,zl e=0
 other:∀ e ∈ ws,e.id.r≠q
 new:∀ e ∈ ws,zz lg e.id < 0
theorem zpO {ws:List Entry} {e:Entry}:e ∈ ws↔∃ k,k < ws.length∧nth ws k=e:=by
 constructor
 ·
  intro h
  obtain ⟨k,hk,rfl⟩:=List.getElem_of_mem h
  exact ⟨k,hk,zy _ _ hk⟩
 ·
  rintro ⟨k,hk,rfl⟩
  exact zcT hk
theorem ZR {q:Int} {lg ws:List Entry}:zL q lg ws=0↔(q=0∨q=1)∧LogOk lg∧ws.length≤20∧WaitOk q lg ws∧∀ e ∈ ws,zV lg e=false:=by
 have hb:∀ k,zac q lg ws k=false↔(0 < k→zP (nth ws (k - 1)).id (nth ws k).id=true)∧(nth ws k).id.r≠q∧zz lg (nth ws k).id < 0∧zV lg (nth ws k)=false:=by
  intro k
  unfold zac
  simp only [Bool.or_eq_false_iff,Bool.and_eq_false_iff,decide_eq_false_iff_not,Bool.not_eq_false',and_assoc,Int.not_le]
  constructor
  ·
   rintro ⟨a,b,c,d⟩
   exact ⟨fun hk=>a.resolve_left (by omega),b,c,d⟩
  ·
   rintro ⟨a,b,c,d⟩
   refine ⟨?_,b,c,d⟩
   by_cases hk:0 < k
   ·
    exact .inr (a hk)
   ·
    exact .inl hk
 constructor
 ·
  intro h
  obtain ⟨a,b,c,d⟩:=zdw h
  refine ⟨a,b,c,⟨zh9 h,fun e he=>?_,fun e he=>?_,fun e he=>?_⟩,fun e he=>?_⟩
  all_goals
   obtain ⟨k,hk,rfl⟩:=zpO.1 he
   obtain ⟨d1,d2⟩:=d k hk
   have d3:=(hb k).1 d2
  ·
   exact d1
  ·
   exact d3.2.1
  ·
   exact d3.2.2.1
  ·
   exact d3.2.2.2
 ·
  rintro ⟨a,b,c,d,e⟩
  rw [zL,if_neg (by simp [a]),if_neg (by simp [zaQ.2 b]),if_neg (by omega),ZY]
  intro k hk
  have hm:=zcT hk
  rw [zR,if_neg (by simp [d.chk _ hm]),if_neg]
  rw [Bool.not_eq_true]
  exact (hb k).2 ⟨fun h0=>d.up (k - 1) k (by omega) hk,d.other _ hm,d.new _ hm,e _ hm⟩
theorem zd5 {ws:List Entry}:upE ws↔ws.Pairwise fun a b=>zP a.id b.id=true:=by
 rw [List.pairwise_iff_getElem]
 constructor
 ·
  intro h i j hi hj hij
  have:=h i j hij hj
  rwa [zy _ _ hi,zy _ _ hj] at this
 ·
  intro h i j hij hj
  have:=h i j (by omega) hj hij
  rwa [← zy,← zy] at this
theorem zos {ws:List Entry} (h:upE ws) (i:Nat):upE (ws.eraseIdx i):=zd5.2 ((zd5.1 h).sublist (List.eraseIdx_sublist ..))
theorem zjD {lg:List Entry} {e:Entry} {y:Id} (h:zz lg y < 0) (hn:e.id≠y):zz (lg ++ [e]) y < 0:=by
 rw [zaI] at *
 intro x hx
 rcases List.mem_append.1 hx with q | q
 ·
  exact h x q
 ·
  simp at q; subst q; exact hn
theorem zqN {ws:List Entry} (h:upE ws) {i:Nat} (hi:i < ws.length) {e:Entry} (he:e ∈ ws.eraseIdx i):(nth ws i).id≠e.id:=by
 rw [List.mem_eraseIdx_iff_getElem] at he
 obtain ⟨j,hj,hji,rfl⟩:=he
 rw [← zy ws j hj]
 intro hq
 rcases Nat.lt_trichotomy i j with a | a | a
 ·
  have:=h i j a hj
  rw [hq,zbV] at this; cases this
 ·
  omega
 ·
  have:=h j i a hi
  rw [hq,zbV] at this; cases this
theorem WaitOk.step {q:Int} {lg ws:List Entry} (h:WaitOk q lg ws) {i:Nat} (hi:i < ws.length):WaitOk q (lg ++ [nth ws i]) (ws.eraseIdx i) :=
 ⟨zos h.up i,fun e he=>h.chk e (List.mem_of_mem_eraseIdx he),fun e he=>h.other e (List.mem_of_mem_eraseIdx he),fun e he=>zjD (h.new e (List.mem_of_mem_eraseIdx he)) (zqN h.up hi he)⟩
theorem zot {lg ws:List Entry} (h:¬ 0≤zd8 lg ws):∀ e ∈ ws,zV lg e=false:=by
 have:=zcb (zV lg) ws
 rw [show zaH (zV lg) ws 0=zd8 lg ws from rfl,decide_eq_false h] at this
 intro e he
 have:=List.any_eq_false.1 this.symm e he
 simpa using this
theorem zeB:∀ (k:Nat) (q:Int) (lg ws:List Entry),ws.length≤k→WaitOk q lg ws→WaitOk q (Zr k lg ws).1 (Zr k lg ws).2∧∀ e ∈ (Zr k lg ws).2,zV (Zr k lg ws).1 e=false
 | 0,q,lg,ws,hk,h=>by
  obtain rfl:=List.length_eq_zero_iff.1 (Nat.le_zero.1 hk)
  exact ⟨h,fun e he=>by simp [Zr] at he⟩
 | k + 1,q,lg,ws,hk,h=>by
  rw [Zr]
  split
  ·
   rename_i hr
   have hl:=ze3 hr
   exact zeB k q _ _ (by rw [List.length_eraseIdx,if_pos hl]; omega) (h.step hl)
  ·
   rename_i hr
   exact ⟨h,zot hr⟩
theorem zeC {q:Int} {lg ws:List Entry} (h:WaitOk q lg ws):WaitOk q (zv lg ws).1 (zv lg ws).2∧∀ e ∈ (zv lg ws).2,zV (zv lg ws).1 e=false:=zeB _ q lg ws (Nat.le_refl _) h
theorem zqO {q:Int} {lg ws:List Entry} {c:Int} {t:ByteArray} (h0:zL q lg ws=0) (h1:zO q lg c t=0):zL q (zv (lg ++ [apE q lg c t]) ws).1 (zv (lg ++ [apE q lg c t]) ws).2=0:=by
 obtain ⟨hq,hok,hw,hwo,-⟩:=ZR.1 h0
 have hwo2:WaitOk q (lg ++ [apE q lg c t]) ws:=⟨hwo.up,hwo.chk,hwo.other,fun e he=>zjD (hwo.new e he) fun hn=>hwo.other e he (by rw [← hn]; rfl)⟩
 obtain ⟨a,b⟩:=zeC hwo2
 have hs:=(zbU (lg ++ [apE q lg c t]) ws).2
 exact ZR.2 ⟨hq,(ze4 (zor hq hok h1) hwo.chk).1,by omega,a,b⟩
theorem zgr (e:Entry):∀ (l:List Entry) (p:Nat),p≤l.length→l.insertIdx p e=l.take p ++ e :: l.drop p
 | _,0,_=>by simp
 | [],p + 1,h=>by simp at h
 | y :: l,p + 1,h=>by
  simp only [List.insertIdx_succ_cons,List.take_succ_cons,List.drop_succ_cons,List.cons_append]
  rw [zgr e l p (by simpa using h)]
theorem zsZ {ws:List Entry} {e:Entry} (h:upE ws) (hn:¬ 0≤zz ws e.id):upE (ws.insertIdx (zcQ ws e.id) e):=by
 obtain ⟨p1,p2,p3⟩:=zjB h e.id
 have hne:=zjC hn
 have hil:ws.insertIdx (zcQ ws e.id) e=ws.take (zcQ ws e.id) ++ e :: ws.drop (zcQ ws e.id):=zgr e _ _ p1
 rw [zd5,hil,List.pairwise_append]
 have hp:=zd5.1 h
 have t1:∀ a ∈ ws.take (zcQ ws e.id),zP a.id e.id=true:=fun a ha=>by
  rw [List.mem_take_iff_getElem] at ha
  obtain ⟨k,hk,rfl⟩:=ha
  rw [← zy _ _ (by omega)]
  exact p2 k (by omega)
 have t2:∀ b ∈ ws.drop (zcQ ws e.id),zP e.id b.id=true:=fun b hb=>by
  rw [List.mem_drop_iff_getElem] at hb
  obtain ⟨k,hk,rfl⟩:=hb
  rw [← zy _ _ (by omega)]
  have:=p3 (zcQ ws e.id + k) (by omega) (by omega)
  cases hq:zP e.id (nth ws (zcQ ws e.id + k)).id
  ·
   exact (hne _ (zcT (by omega)) (zol this hq)).elim
  ·
   rfl
 refine ⟨hp.sublist (List.take_sublist ..),List.pairwise_cons.2 ⟨fun b hb=>t2 b hb,hp.sublist (List.drop_sublist ..)⟩,fun a ha b hb=>?_⟩
 rcases List.mem_cons.1 hb with q | q
 ·
  rw [q]; exact t1 a ha
 ·
  exact zab (t1 a ha) (t2 b q)
def EId (W:List Entry):Prop:=W.Pairwise fun a b=>a.id≠b.id
theorem EId.inj {W:List Entry} (h:EId W) {a b:Entry} (ha:a ∈ W) (hb:b ∈ W) (e:a.id=b.id):a=b:=by
 obtain ⟨i,hi,rfl⟩:=List.getElem_of_mem ha
 obtain ⟨j,hj,rfl⟩:=List.getElem_of_mem hb
 have h2:=List.pairwise_iff_getElem.1 h
 rcases Nat.lt_trichotomy i j with q | q | q
 ·
  exact (h2 i j hi hj q e).elim
 ·
  subst q; rfl
 ·
  exact (h2 j i hj hi q e.symm).elim
theorem EId.perm {W V:List Entry} (h:EId W) (hp:V.Perm W):EId V:=(hp.pairwise_iff fun {a b} q r=>q r.symm).2 h
theorem LogOk.has_num {l:List Entry} (h:LogOk l) {r n:Int} (h1:1≤n) (h2:n≤(ZB l r:Int)):∃ e ∈ l,e.id=⟨r,n⟩:=by
 have key:∀ k,k≤l.length→n≤(ZB (l.take k) r:Int)→∃ e ∈ l,e.id=⟨r,n⟩:=by
  intro k
  induction k with
  | zero=>intro _ h; simp [ZB] at h; omega
  | succ k ih =>
   intro hk hn
   by_cases hle:n≤(ZB (l.take k) r:Int)
   ·
    exact ih (by omega) hle
   ·
    have hs:=zbP l k r (by omega)
    by_cases e:(nth l k).id.r=r
    ·
     have hm:=h.num k (by omega)
     rw [e] at hm
     rw [if_pos e] at hs
     refine ⟨_,zcT (by omega:k < l.length),?_⟩
     have:(nth l k).id.n=n:=by omega
     cases hid:(nth l k).id
     rw [hid] at e this
     simp only at e this
     rw [e,this]
    ·
     rw [if_neg e] at hs
     omega
 exact key l.length (Nat.le_refl _) (by rw [List.take_length]; exact h2)
theorem zbX {l:List Entry} {y:Id}:0≤zz l y↔∃ e ∈ l,e.id=y:=by
 constructor
 ·
  intro h
  obtain ⟨k,-,h2,h3⟩:=ZO h
  exact ⟨_,zcT h2,h3⟩
 ·
  rintro ⟨e,he,hy⟩
  by_cases h:zz l y < 0
  ·
   exact (zaI.1 h e he hy).elim
  ·
   omega
structure Settles (lg W A WA u:List Entry):Prop where
 eq:A=lg ++ u
 perm:(u ++ WA).Perm W
 rdy:∀ i,i < u.length→zV (lg ++ u.take i) (nth u i)=true
theorem zgs:∀ (W:List Entry) (i:Nat) (h:i < W.length),(W[i] :: W.eraseIdx i).Perm W
 | x :: W,0,_=>List.Perm.refl _
 | x :: W,i + 1,h=>by
  have:=zgs W i (by simpa using h)
  simp only [List.getElem_cons_succ,List.eraseIdx_cons_succ]
  exact (List.Perm.swap x _ _).trans (List.Perm.cons x this)
theorem zmx {W:List Entry} {i:Nat} (h:i < W.length):(nth W i :: W.eraseIdx i).Perm W:=by
 rw [zy _ _ h]
 exact zgs W i h
theorem zgt:∀ (k:Nat) (lg W:List Entry),∃ u,Settles lg W (Zr k lg W).1 (Zr k lg W).2 u
 | 0,lg,W=>⟨[],by simp [Zr],by simp [Zr],fun i hi=>by simp at hi⟩
 | k + 1,lg,W=>by
  rw [Zr]
  split
  ·
   rename_i hr
   have hl:=ze3 hr
   have hrd:=zhx hr
   generalize (zd8 lg W).toNat=i at *
   obtain ⟨u,h1,h2,h3⟩:=zgt k (lg ++ [nth W i]) (W.eraseIdx i)
   refine ⟨nth W i :: u,by rw [h1]; simp,?_,fun j hj=>?_⟩
   ·
    exact (List.Perm.cons _ h2).trans (zmx hl)
   ·
    cases j with
    | zero=>simpa [nth] using hrd
    | succ j =>
     have hj':j < u.length:=by simpa using hj
     have:=h3 j hj'
     rw [zy _ _ hj,List.take_succ_cons,List.getElem_cons_succ,← zy _ _ hj']
     rwa [List.append_assoc] at this
  ·
   exact ⟨[],by simp,by simp,fun i hi=>by simp at hi⟩
theorem zkL (lg W:List Entry):∃ u,Settles lg W (zv lg W).1 (zv lg W).2 u:=zgt _ _ _
theorem Settles.sub {lg W A WA u A' WA' u' : List Entry} (h : Settles lg W A WA u) (h' : Settles lg W A' WA' u') (hA : LogOk A) (hA' : LogOk A') (hn : ∀ e ∈ W, zz lg e.id < 0) (hid : EId W)
    (hfin:∀ e ∈ WA',zV A' e=false):∀ i,i < u.length→nth u i ∈ u':=by
  intro i
  induction i using Nat.strongRecOn with
  | _ i ih =>
    intro hi
    have hW:nth u i ∈ W:=h.perm.mem_iff.1 (List.mem_append.2 (.inl (zcT hi)))
    rcases List.mem_append.1 (h'.perm.mem_iff.2 hW) with q | q
    · exact q
    · have hr:=hfin _ q
      have hrd:=zdh.1 (h.rdy i hi)
      have hin:∀ e ∈ lg ++ u.take i,e ∈ A':=fun e he=>by
        rw [h'.eq]
        rcases List.mem_append.1 he with z | z
        · exact List.mem_append.2 (.inl z)
        · rw [List.mem_take_iff_getElem] at z
          obtain ⟨j,hj,rfl⟩:=z
          rw [← zy _ _ (by omega)]
          exact List.mem_append.2 (.inr (ih j (by omega) (by omega)))
      have hpre:LogOk (lg ++ u.take i):=by
        have:=hA.take (n:=lg.length + i) (by rw [h.eq]; simp; omega)
        rwa [h.eq,List.take_length_add_append] at this
      have hbad:zV A' (nth u i)=true∨nth u i ∈ u':=by
        by_cases hc:(nth u i).id.n≤(ZB A' (nth u i).id.r:Int)
        · obtain ⟨y,hy,hye⟩:=hA'.has_num (r:=(nth u i).id.r) (n:=(nth u i).id.n) (by omega) hc
          have hye2:y.id=(nth u i).id:=hye
          rw [h'.eq] at hy
          rcases List.mem_append.1 hy with z | z
          · exact (zaI.1 (hn _ hW) y z hye2).elim
          · have:=hid.inj (h'.perm.mem_iff.1 (List.mem_append.2 (.inl z))) hW hye2
            exact .inr (this ▸ z)
        · left
          refine zdh.2 ⟨?_,fun y hy=>?_⟩
          · have hge:(ZB (lg ++ u.take i) (nth u i).id.r:Int)≤(ZB A' (nth u i).id.r:Int):=by
              by_cases h0:ZB (lg ++ u.take i) (nth u i).id.r=0
              · omega
              · obtain ⟨y,hy,hye⟩:=hpre.has_num (r:=(nth u i).id.r) (n:=(ZB (lg ++ u.take i) (nth u i).id.r:Int)) (by omega) (Int.le_refl _)
                obtain ⟨k,hk,rfl⟩:=zpO.1 (hin y hy)
                have:=hA'.num_le hk
                rw [hye] at this
                exact this
            omega
          · obtain ⟨z,hz,hze⟩:=zbX.1 (hrd.2 y hy)
            exact zbX.2 ⟨z,hin z hz,hze⟩
      rcases hbad with z | z
      · rw [z] at hr; cases hr
      · exact z
theorem zrQ:∀ {l m:List Entry},(l.Pairwise fun a b=>zP a.id b.id=true)→(m.Pairwise fun a b=>zP a.id b.id=true)→(∀ x,x ∈ l↔x ∈ m)→l=m
 | [],[],_,_,_=>rfl
 | [],y :: m,_,_,h=>by have:=(h y).2 (by simp); simp at this
 | x :: l,[],_,_,h=>by have:=(h x).1 (by simp); simp at this
 | x :: l,y :: m,h1,h2,h=>by
  have h1':=List.pairwise_cons.1 h1
  have h2':=List.pairwise_cons.1 h2
  have hxy:x=y:=by
   rcases List.mem_cons.1 ((h x).1 (by simp)) with e | e
   ·
    exact e
   rcases List.mem_cons.1 ((h y).2 (by simp)) with e' | e'
   ·
    exact e'.symm
   have:=zab (h1'.1 y e') (h2'.1 x e)
   rw [zbV] at this; cases this
  subst hxy
  rw [zrQ h1'.2 h2'.2 fun z=>?_]
  constructor
  ·
   intro hz
   rcases List.mem_cons.1 ((h z).1 (by simp [hz])) with e | e
   ·
    subst e; have:=h1'.1 z hz; rw [zbV] at this; cases this
   ·
    exact e
  ·
   intro hz
   rcases List.mem_cons.1 ((h z).2 (by simp [hz])) with e | e
   ·
    subst e; have:=h2'.1 z hz; rw [zbV] at this; cases this
   ·
    exact e
theorem zou {u v:List Entry} (h:∀ i,i < u.length→nth u i ∈ v):∀ e ∈ u,e ∈ v:=fun e he=>by
 obtain ⟨k,hk,rfl⟩:=zpO.1 he
 exact h k hk
theorem zlr {A A':List Entry} (hA:LogOk A) (hA':LogOk A') (h:∀ e ∈ A,e ∈ A') (r:Int):ZB A r≤ZB A' r:=by
 by_cases h0:ZB A r=0
 ·
  omega
 ·
  obtain ⟨y,hy,hye⟩:=hA.has_num (r:=r) (n:=(ZB A r:Int)) (by omega) (Int.le_refl _)
  obtain ⟨k,hk,rfl⟩:=zpO.1 (h y hy)
  have:=hA'.num_le hk
  rw [hye] at this
  simp only at this
  omega
theorem Settles.same {q : Int} {lg W A WA u A' WA' u' : List Entry} (h : Settles lg W A WA u) (h' : Settles lg W A' WA' u') (hn : ∀ e ∈ W, zz lg e.id < 0) (hid : EId W) (hs : zL q A WA = 0) (hs' : zL q A' WA' = 0) :
    (∀ r,ZB A r=ZB A' r)∧WA=WA':=by
  obtain ⟨-,o,-,w,f⟩:=ZR.1 hs
  obtain ⟨-,o',-,w',f'⟩:=ZR.1 hs'
  have s1:=zou (h.sub h' o o' hn hid f')
  have s2:=zou (h'.sub h o' o hn hid f)
  have a1:∀ e ∈ A,e ∈ A':=fun e he=>by
    rw [h.eq] at he; rw [h'.eq]
    rcases List.mem_append.1 he with z | z
    · exact List.mem_append.2 (.inl z)
    · exact List.mem_append.2 (.inr (s1 e z))
  have a2:∀ e ∈ A',e ∈ A:=fun e he=>by
    rw [h'.eq] at he; rw [h.eq]
    rcases List.mem_append.1 he with z | z
    · exact List.mem_append.2 (.inl z)
    · exact List.mem_append.2 (.inr (s2 e z))
  refine ⟨fun r=>Nat.le_antisymm (zlr o o' a1 r) (zlr o' o a2 r),zrQ (zd5.1 w.up) (zd5.1 w'.up) fun x=>?_⟩
  have n1:=List.pairwise_append.1 (hid.perm h.perm)
  have n2:=List.pairwise_append.1 (hid.perm h'.perm)
  constructor
  · intro hx
    rcases List.mem_append.1 (h'.perm.mem_iff.2 (h.perm.mem_iff.1 (List.mem_append.2 (.inr hx)))) with z | z
    · exact (n1.2.2 x (s2 x z) x hx rfl).elim
    · exact z
  · intro hx
    rcases List.mem_append.1 (h.perm.mem_iff.2 (h'.perm.mem_iff.1 (List.mem_append.2 (.inr hx)))) with z | z
    · exact (n2.2.2 x (s1 x z) x hx rfl).elim
    · exact z
theorem Settles.trans {lg W A WA u B WB v:List Entry} {e:Entry} (h:Settles lg W A WA u) (h2:Settles A (WA.insertIdx (zcQ WA e.id) e) B WB v):Settles lg (e :: W) B WB (u ++ v):=by
 refine ⟨by rw [h2.eq,h.eq,List.append_assoc],?_,fun i hi=>?_⟩
 ·
  have p1:(WA.insertIdx (zcQ WA e.id) e).Perm (e :: WA):=by
   rw [zgr e _ _ (zbo ..)]
   refine List.perm_middle.trans (List.Perm.cons _ ?_)
   rw [List.take_append_drop]
  have p2:(v ++ WB).Perm (e :: WA):=h2.perm.trans p1
  rw [List.append_assoc]
  refine (List.Perm.append_left u p2).trans (List.perm_middle.trans (List.Perm.cons _ h.perm))
 ·
  by_cases hlt:i < u.length
  ·
   rw [List.take_append_of_le_length (by omega),zy _ _ hi,List.getElem_append_left hlt,← zy _ _ hlt]
   exact h.rdy i hlt
  ·
   have hi2:i - u.length < v.length:=by rw [List.length_append] at hi; omega
   have:=h2.rdy (i - u.length) hi2
   rw [h.eq] at this
   rw [zy _ _ hi,List.getElem_append_right (by omega),← zy _ _ hi2]
   rw [List.take_append,List.take_of_length_le (by omega),← List.append_assoc]
   exact this
def zex (lg ws:List Entry) (y:Id):Prop:=∃ x,(x ∈ lg∨x ∈ ws)∧x.id=y
theorem there_iff {lg ws:List Entry} {y:Id}:(0≤zz lg y∨0≤zz ws y)↔zex lg ws y:=by
 rw [zbX,zbX]
 constructor
 ·
  rintro (⟨e,h,he⟩ | ⟨e,h,he⟩)
  ·
   exact ⟨e,.inl h,he⟩
  ·
   exact ⟨e,.inr h,he⟩
 ·
  rintro ⟨e,h | h,he⟩
  ·
   exact .inl ⟨e,h,he⟩
  ·
   exact .inr ⟨e,h,he⟩
theorem Settles.there_iff {lg W A WA u:List Entry} (h:Settles lg W A WA u) {y:Id}:zex A WA y↔zex lg W y:=by
 constructor
 ·
  rintro ⟨x,hx,hy⟩
  refine ⟨x,?_,hy⟩
  rw [h.eq] at hx
  rcases hx with z | z
  ·
   rcases List.mem_append.1 z with z | z
   ·
    exact .inl z
   ·
    exact .inr (h.perm.mem_iff.1 (List.mem_append.2 (.inl z)))
  ·
   exact .inr (h.perm.mem_iff.1 (List.mem_append.2 (.inr z)))
 ·
  rintro ⟨x,hx,hy⟩
  refine ⟨x,?_,hy⟩
  rw [h.eq]
  rcases hx with z | z
  ·
   exact .inl (List.mem_append.2 (.inl z))
  ·
   rcases List.mem_append.1 (h.perm.mem_iff.2 z) with z | z
   ·
    exact .inl (List.mem_append.2 (.inr z))
   ·
    exact .inr z
theorem zov {lg ws:List Entry} {e:Entry} {y:Id}:zex lg (ws.insertIdx (zcQ ws e.id) e) y↔zex lg ws y∨e.id=y:=by
 unfold zex
 simp only [List.mem_insertIdx (zbo ws e.id)]
 constructor
 ·
  rintro ⟨x,h | h | h,hy⟩
  ·
   exact .inl ⟨x,.inl h,hy⟩
  ·
   exact .inr (h ▸ hy)
  ·
   exact .inl ⟨x,.inr h,hy⟩
 ·
  rintro (⟨x,h | h,hy⟩ | hy)
  ·
   exact ⟨x,.inl h,hy⟩
  ·
   exact ⟨x,.inr (.inr h),hy⟩
  ·
   exact ⟨e,.inr (.inl rfl),hy⟩
theorem WaitOk.ins {q:Int} {lg ws:List Entry} {e:Entry} (h:WaitOk q lg ws) (h1:zl e=0) (hn:¬ zex lg ws e.id) (hr:e.id.r≠q):WaitOk q lg (ws.insertIdx (zcQ ws e.id) e):=by
 have hn2:¬ (0≤zz lg e.id∨0≤zz ws e.id):=fun z=>hn (there_iff.1 z)
 refine ⟨zsZ h.up (by omega),fun y hy=>?_,fun y hy=>?_,fun y hy=>?_⟩
 all_goals
  rcases (List.mem_insertIdx (zbo ws e.id)).1 hy with z | z
 ·
  rw [z]; exact h1
 ·
  exact h.chk y z
 ·
  rw [z]; exact hr
 ·
  exact h.other y z
 ·
  rw [z]; omega
 ·
  exact h.new y z
theorem WaitOk.len {q:Int} {lg ws:List Entry} (hq:q=0∨q=1) (h:WaitOk q lg ws):ws.length≤20:=by
 have hb:∀ e ∈ ws,(e.id.r=0∨e.id.r=1)∧1≤e.id.n∧e.id.n < 21:=fun e he=>by
  have:=(Zd (h.chk e he)).1
  simp only [zeV,Bool.and_eq_true,zX] at this
  omega
 have hp:(ws.map fun e=>e.id.n).Pairwise (· < ·):=by
  rw [List.pairwise_map,List.pairwise_iff_getElem]
  intro i j hi hj hij
  have h1:=(List.pairwise_iff_getElem.1 (zd5.1 h.up)) i j hi hj hij
  have m1:=List.getElem_mem hi
  have m2:=List.getElem_mem hj
  have b1:=hb _ m1
  have b2:=hb _ m2
  have o1:=h.other _ m1
  have o2:=h.other _ m2
  simp only [zP,decide_eq_true_eq] at h1
  omega
 have:=zhX _ 1 21 hp (fun x hx=>by
  obtain ⟨e,he,rfl⟩:=List.mem_map.1 hx
  have:=hb e he
  omega) (by omega)
 rw [List.length_map] at this
 omega
theorem zqP {q:Int} {lg ws:List Entry} {e:Entry} (h0:zL q lg ws=0) (h1:zl e=0) (h:zex lg ws e.id):zbs q lg ws e=0∧zdf q lg ws e=(q,lg,ws):=by
 have h2:=there_iff.2 h
 constructor
 ·
  rw [zbs,if_neg (by simp [h0]),if_neg (by simp [h1]),zW,if_pos h2]
 ·
  rw [zdf,if_neg (by simp [h0,h1]),zas,if_pos h2]
theorem zwc {q:Int} {lg ws:List Entry} {e:Entry} (h0:zL q lg ws=0) (h1:zl e=0) (h:¬ zex lg ws e.id) (hr:e.id.r≠q):zbs q lg ws e=0∧zdf q lg ws e=(q,(rcP lg ws e).1,(rcP lg ws e).2)∧zL q (rcP lg ws e).1 (rcP lg ws e).2=0∧∃ u,Settles lg (ws.insertIdx (zcQ ws e.id) e) (rcP lg ws e).1 (rcP lg ws e).2 u:=by
 have h2:¬ (0≤zz lg e.id∨0≤zz ws e.id):=fun z=>h (there_iff.1 z)
 obtain ⟨hq,hok,hw,hwo,-⟩:=ZR.1 h0
 have hwo2:=hwo.ins h1 h hr
 obtain ⟨a,b⟩:=zeC hwo2
 obtain ⟨c,-,-⟩:=ze4 hok hwo2.chk
 have hl:=a.len hq
 have hc:=c.len
 have he:zW q lg ws e=0:=by
  rw [zW,if_neg h2,if_neg hr,if_neg]
  show ¬ (20 < (zv lg (ws.insertIdx (zcQ ws e.id) e)).2.length∨40 < (zv lg (ws.insertIdx (zcQ ws e.id) e)).1.length)
  omega
 refine ⟨?_,?_,ZR.2 ⟨hq,c,hl,a,b⟩,zkL ..⟩
 ·
  rw [zbs,if_neg (by simp [h0]),if_neg (by simp [h1]),he]
 ·
  rw [zdf,if_neg (by simp [h0,h1]),zas,if_neg h2,if_pos he]
theorem zow {a b:Entry}:zck a b=true↔a=b:=by
 rw [Entry.eq_iff]; simp [zck,and_assoc]
structure Wo where
 p:List Entry
 u:List Entry
 q:List Entry
 v:List Entry
 a:List Entry
 b:List Entry
def Wo.log (w:Wo) (i:Int):List Entry:=if i=0 then w.p else w.q
def Wo.wts (w:Wo) (i:Int):List Entry:=if i=0 then w.u else w.v
def Wo.way (w:Wo) (i:Int):List Entry:=if i=0 then w.a else w.b
def Wo.setS (w:Wo) (i:Int) (s:List Entry × List Entry):Wo:=if i=0 then { w with p:=s.1,u:=s.2 } else { w with q:=s.1,v:=s.2 }
def Wo.setY (w:Wo) (i:Int) (l:List Entry):Wo:=if i=0 then { w with a:=l } else { w with b:=l }
abbrev Si:=Int × List Entry × List Entry
def zjE (ss:List Si) (r:Int):List Entry:=(nth ss r.toNat).2.1
def zaP (ss:List Si) (e:Entry):Bool:=decide (0≤zz (zjE ss e.id.r) e.id) && zck (nth (zjE ss e.id.r) (zz (zjE ss e.id.r) e.id).toNat) e
def zgM (ss:List Si) (l:List Entry) (k:Nat):Int:=if zl (nth l k)=0 then (if zaP ss (nth l k)=true then 0 else 4) else zl (nth l k)
def ZT (ss:List Si) (l:List Entry):Int:=if 30 < l.length then 2 else zw (zgM ss l) l.length
def zdi (ss:List Si) (i:Nat):Int:=if zL (nth ss i).1 (nth ss i).2.1 (nth ss i).2.2=0 then (if (nth ss i).1=(i:Int) then 0 else 4) else zL (nth ss i).1 (nth ss i).2.1 (nth ss i).2.2
def zgN (ss:List Si) (s:Si):Bool:=(s.2.1.any fun e => !zaP ss e) || s.2.2.any fun e => !zaP ss e
def Zw (ss:List Si) (ys:List (List Entry)):Int :=
 if ¬ (ss.length=2∧ys.length=2) then 1
 else if zw (zdi ss) 2≠0 then zw (zdi ss) 2
 else if zw (fun i=>ZT ss (nth ys i)) 2≠0 then zw (fun i=>ZT ss (nth ys i)) 2
 else if (zgN ss (nth ss 0) || zgN ss (nth ss 1))=true then 4 else 0
def Wo.ss (w:Wo):List Si := [(0,w.p,w.u),(1,w.q,w.v)]
def Wo.ys (w:Wo):List (List Entry) := [w.a,w.b]
def zdj (w:Wo) (e:Entry):Prop:=e ∈ w.log e.id.r
structure WoOk (w:Wo):Prop where
 s0:zL 0 w.p w.u=0
 s1:zL 1 w.q w.v=0
 la:w.a.length≤30
 lb:w.b.length≤30
 ca:∀ e ∈ w.a,zl e=0
 cb:∀ e ∈ w.b,zl e=0
 ba:∀ e ∈ w.a,zdj w e
 bb:∀ e ∈ w.b,zdj w e
 bp:∀ e ∈ w.p,zdj w e
 bu:∀ e ∈ w.u,zdj w e
 bq:∀ e ∈ w.q,zdj w e
 bv:∀ e ∈ w.v,zdj w e
theorem zqQ (w:Wo) {r:Int} (h:r=0∨r=1):zjE w.ss r=w.log r:=by
 rcases h with rfl | rfl
 ·
  rfl
 ·
  rfl
theorem LogOk.mem_find {l:List Entry} (h:LogOk l) {e:Entry} (he:e ∈ l):∃ k,k < l.length∧zz l e.id=k∧nth l k=e:=by
 obtain ⟨k,hk,rfl⟩:=zpO.1 he
 exact ⟨k,hk,h.find hk,rfl⟩
theorem zeD {w:Wo} (h0:LogOk w.p) (h1:LogOk w.q) {e:Entry} (hr:e.id.r=0∨e.id.r=1):zaP w.ss e=true↔zdj w e:=by
 have hl:LogOk (w.log e.id.r):=by
  rcases hr with q | q
  ·
   rw [q]; exact h0
  ·
   rw [q]; exact h1
 rw [zaP,zqQ w hr,Bool.and_eq_true,decide_eq_true_eq,zow]
 constructor
 ·
  rintro ⟨a,b⟩
  obtain ⟨k,c,d,-⟩:=ZO a
  rw [c,Int.toNat_natCast] at b
  rw [zdj,← b]
  have:=zcT d
  rwa [b] at this ⊢
 ·
  intro hb
  obtain ⟨k,hk,hf,hn⟩:=hl.mem_find hb
  rw [hf,Int.toNat_natCast]
  exact ⟨by omega,hn⟩
theorem zdk {e:Entry} (h:zl e=0):e.id.r=0∨e.id.r=1:=zaz h
theorem LogOk.mem_chk {l:List Entry} (h:LogOk l) {e:Entry} (he:e ∈ l):zl e=0:=by
 obtain ⟨k,hk,rfl⟩:=zpO.1 he
 exact h.chk k hk
theorem zhz {w:Wo} (h0:LogOk w.p) (h1:LogOk w.q) {l:List Entry}:ZT w.ss l=0↔l.length≤30∧∀ e ∈ l,zl e=0∧zdj w e:=by
 have key:∀ k,zgM w.ss l k=0↔zl (nth l k)=0∧zdj w (nth l k):=by
  intro k
  unfold zgM
  by_cases hc:zl (nth l k)=0
  ·
   rw [if_pos hc,← zeD h0 h1 (zdk hc)]
   by_cases hb:zaP w.ss (nth l k)=true
   ·
    rw [if_pos hb]; simp [hc,hb]
   ·
    rw [if_neg hb]; simp [hc,hb]
  ·
   rw [if_neg hc]; simp [hc]
 unfold ZT
 by_cases hl:30 < l.length
 ·
  rw [if_pos hl]; constructor
  ·
   intro h; cases h
  ·
   rintro ⟨a,-⟩; omega
 ·
  rw [if_neg hl,ZY]
  constructor
  ·
   intro h
   refine ⟨by omega,fun e he=>?_⟩
   obtain ⟨k,hk,rfl⟩:=zpO.1 he
   exact (key k).1 (h k hk)
  ·
   rintro ⟨-,h⟩ k hk
   exact (key k).2 (h _ (zcT hk))
theorem zls {w:Wo} (h0:LogOk w.p) (h1:LogOk w.q) {s:Si} (hs:∀ e,e ∈ s.2.1∨e ∈ s.2.2→e.id.r=0∨e.id.r=1):zgN w.ss s=false↔(∀ e ∈ s.2.1,zdj w e)∧∀ e ∈ s.2.2,zdj w e:=by
 simp only [zgN,Bool.or_eq_false_iff,List.any_eq_false,Bool.not_eq_true',Bool.not_eq_false]
 constructor
 ·
  rintro ⟨a,b⟩
  exact ⟨fun e he=>(zeD h0 h1 (hs e (.inl he))).1 (a e he),fun e he=>(zeD h0 h1 (hs e (.inr he))).1 (b e he)⟩
 ·
  rintro ⟨a,b⟩
  exact ⟨fun e he=>(zeD h0 h1 (hs e (.inl he))).2 (a e he),fun e he=>(zeD h0 h1 (hs e (.inr he))).2 (b e he)⟩
theorem zjF {r:Int} {lg ws:List Entry} (h:zL r lg ws=0):∀ e,e ∈ lg∨e ∈ ws→e.id.r=0∨e.id.r=1:=fun e he=>by
 obtain ⟨-,a,-,b,-⟩:=ZR.1 h
 rcases he with q | q
 ·
  exact zdk (a.mem_chk q)
 ·
  exact zdk (b.chk e q)
theorem zie (f:Nat→Int):zw f 2=if f 0=0 then f 1 else f 0:=by
 simp only [zw]
 by_cases h:f 0=0
 ·
  simp [h]
 ·
  simp [h]
theorem Z8 {w:Wo}:Zw w.ss w.ys=0↔WoOk w:=by
 unfold Zw
 rw [if_neg (by simp [Wo.ss,Wo.ys]),zie,zie]
 have e0:zdi w.ss 0=zL 0 w.p w.u:=by
  unfold zdi
  show (if zL 0 w.p w.u=0 then (if (0:Int)=((0:Nat):Int) then (0:Int) else 4) else zL 0 w.p w.u)=_
  by_cases h:zL 0 w.p w.u=0
  ·
   rw [if_pos h,if_pos (by simp),h]
  ·
   rw [if_neg h]
 have e1:zdi w.ss 1=zL 1 w.q w.v:=by
  unfold zdi
  show (if zL 1 w.q w.v=0 then (if (1:Int)=((1:Nat):Int) then (0:Int) else 4) else zL 1 w.q w.v)=_
  by_cases h:zL 1 w.q w.v=0
  ·
   rw [if_pos h,if_pos (by simp),h]
  ·
   rw [if_neg h]
 have n0:nth w.ys 0=w.a:=rfl
 have n1:nth w.ys 1=w.b:=rfl
 rw [e0,e1]
 simp only [n0,n1]
 by_cases h0:zL 0 w.p w.u=0
 ·
  by_cases h1:zL 1 w.q w.v=0
  ·
   obtain ⟨-,hp,-,-,-⟩:=ZR.1 h0
   obtain ⟨-,hq,-,-,-⟩:=ZR.1 h1
   simp only [h0,h1,if_true,ne_eq,not_true_eq_false,if_false]
   have wa:=zhz hp hq (l:=w.a)
   have wb:=zhz hp hq (l:=w.b)
   have x0:=zls hp hq (s:=(0,w.p,w.u)) (zjF h0)
   have x1:=zls hp hq (s:=(1,w.q,w.v)) (zjF h1)
   have y0:nth w.ss 0=(0,w.p,w.u):=rfl
   have y1:nth w.ss 1=(1,w.q,w.v):=rfl
   rw [y0,y1]
   by_cases ha:ZT w.ss w.a=0
   ·
    by_cases hb:ZT w.ss w.b=0
    ·
     simp only [ha,hb,if_true,not_true_eq_false,if_false]
     obtain ⟨a1,a2⟩:=wa.1 ha
     obtain ⟨b1,b2⟩:=wb.1 hb
     constructor
     ·
      intro h
      have hs:(zgN w.ss (0,w.p,w.u) || zgN w.ss (1,w.q,w.v))=false:=by
       cases hq:(zgN w.ss (0,w.p,w.u) || zgN w.ss (1,w.q,w.v))
       ·
        rfl
       ·
        rw [hq,if_pos rfl] at h; cases h
      rw [Bool.or_eq_false_iff] at hs
      obtain ⟨c1,c2⟩:=x0.1 hs.1
      obtain ⟨d1,d2⟩:=x1.1 hs.2
      exact ⟨h0,h1,a1,b1,fun e he=>(a2 e he).1,fun e he=>(b2 e he).1,fun e he=>(a2 e he).2,fun e he=>(b2 e he).2,c1,c2,d1,d2⟩
     ·
      intro h
      rw [x0.2 ⟨h.bp,h.bu⟩,x1.2 ⟨h.bq,h.bv⟩]; rfl
    ·
     simp only [ha,hb,if_true,not_false_eq_true]
     exact ⟨fun h=>h.elim,fun h=>(hb (wb.2 ⟨h.lb,fun e he=>⟨h.cb e he,h.bb e he⟩⟩)).elim⟩
   ·
    simp only [ha,if_false,not_false_eq_true,if_true]
    exact ⟨fun h=>h.elim,fun h=>(ha (wa.2 ⟨h.la,fun e he=>⟨h.ca e he,h.ba e he⟩⟩)).elim⟩
  ·
   simp only [h0,h1,if_true,ne_eq,not_false_eq_true]
   exact ⟨fun h=>h.elim,fun h=>(h1 h.s1).elim⟩
 ·
  simp only [h0,if_false,ne_eq,not_false_eq_true,if_true]
  exact ⟨fun h=>h.elim,fun h=>(h0 h.s0).elim⟩
theorem zjG {ss:List Si} {ys:List (List Entry)} (h:Zw ss ys=0):∃ w:Wo,ss=w.ss∧ys=w.ys∧WoOk w:=by
 have hl:ss.length=2∧ys.length=2:=by
  by_cases hl:ss.length=2∧ys.length=2
  ·
   exact hl
  ·
   rw [Zw,if_pos hl] at h; cases h
 have h2:=h
 unfold Zw at h2
 rw [if_neg (by simp [hl]),zie] at h2
 match ss,ys,hl with
 | [(r,p,u),(t,q,v)],[a,b],_ =>
  have hs:r=0∧t=1:=by
   by_cases e0:zdi [(r,p,u),(t,q,v)] 0=0
   ·
    rw [if_pos e0] at h2
    have e1:zdi [(r,p,u),(t,q,v)] 1=0:=by
     by_cases e1:zdi [(r,p,u),(t,q,v)] 1=0
     ·
      exact e1
     ·
      rw [if_pos e1] at h2; exact h2
    have f0:zdi [(r,p,u),(t,q,v)] 0=if zL r p u=0 then (if r=0 then 0 else 4) else zL r p u:=rfl
    have f1:zdi [(r,p,u),(t,q,v)] 1=if zL t q v=0 then (if t=1 then 0 else 4) else zL t q v:=rfl
    rw [f0] at e0; rw [f1] at e1
    constructor
    ·
     split at e0
     ·
      split at e0
      ·
       assumption
      ·
       cases e0
     ·
      exact (‹¬ _› e0).elim
    ·
     split at e1
     ·
      split at e1
      ·
       assumption
      ·
       cases e1
     ·
      exact (‹¬ _› e1).elim
   ·
    rw [if_neg e0,if_pos e0] at h2; exact (e0 h2).elim
  obtain ⟨rfl,rfl⟩:=hs
  exact ⟨⟨p,u,q,v,a,b⟩,rfl,rfl,Z8.1 h⟩
theorem zjH {r : Int} {p u : List Entry} {e : Entry} (h0 : zL r p u = 0) (h1 : zl e = 0) (hr : e.id.r ≠ r) :
    zW r p u e=0∧(zas r p u e).1=r∧zL r (zas r p u e).2.1 (zas r p u e).2.2=0∧(∃ x,(zas r p u e).2.1=p ++ x)∧(∀ y,y ∈ (zas r p u e).2.1∨y ∈ (zas r p u e).2.2→y ∈ p∨y ∈ u∨y=e) ∧
      (∀ y,y ∈ p∨y ∈ u→y ∈ (zas r p u e).2.1∨y ∈ (zas r p u e).2.2)∧zex (zas r p u e).2.1 (zas r p u e).2.2 e.id:=by
  have hx:zbs r p u e=zW r p u e:=by rw [zbs,if_neg (by simp [h0]),if_neg (by simp [h1])]
  have hs:zdf r p u e=zas r p u e:=by rw [zdf,if_neg (by simp [h0,h1])]
  by_cases ht:zex p u e.id
  · obtain ⟨a,b⟩:=zqP h0 h1 ht
    rw [hx] at a; rw [hs] at b
    rw [b]
    exact ⟨a,rfl,h0,⟨[],by simp⟩,fun y hy=>by rcases hy with q | q; exact .inl q; exact .inr (.inl q),fun y hy=>hy,ht⟩
  · obtain ⟨a,b,c,t,d⟩:=zwc h0 h1 ht hr
    rw [hx] at a; rw [hs] at b
    rw [b]
    refine ⟨a,rfl,c,⟨t,d.eq⟩,fun y hy=>?_,fun y hy=>?_,?_⟩
    · have hm:y ∈ p∨y ∈ u.insertIdx (zcQ u e.id) e:=by
        simp only at hy
        rw [d.eq] at hy
        rcases hy with q | q
        · rcases List.mem_append.1 q with q | q
          · exact .inl q
          · exact .inr (d.perm.mem_iff.1 (List.mem_append.2 (.inl q)))
        · exact .inr (d.perm.mem_iff.1 (List.mem_append.2 (.inr q)))
      rcases hm with q | q
      · exact .inl q
      · rcases (List.mem_insertIdx (zbo u e.id)).1 q with q | q
        · exact .inr (.inr q)
        · exact .inr (.inl q)
    · simp only
      rw [d.eq]
      rcases hy with q | q
      · exact .inl (List.mem_append.2 (.inl q))
      · rcases List.mem_append.1 (d.perm.mem_iff.2 ((List.mem_insertIdx (zbo u e.id)).2 (.inr q))) with q | q
        · exact .inl (List.mem_append.2 (.inr q))
        · exact .inr q
    · exact d.there_iff.2 (zov.2 (.inr rfl))
def Zs (r:Int):List Entry→List Entry→List Entry→Int × List Entry × List Entry
 | [],p,u=>(0,p,u)
 | e :: l,p,u=>if e.id.r=r then Zs r l p u else if zW r p u e=0 then Zs r l (zas r p u e).2.1 (zas r p u e).2.2 else (zW r p u e,p,u)
theorem zbp {r : Int} : ∀ (l p u : List Entry), zL r p u = 0 → (∀ e ∈ l, zl e = 0) →
    (Zs r l p u).1=0∧zL r (Zs r l p u).2.1 (Zs r l p u).2.2=0∧(∃ x,(Zs r l p u).2.1=p ++ x) ∧
      ∀ y,y ∈ (Zs r l p u).2.1∨y ∈ (Zs r l p u).2.2→y ∈ p∨y ∈ u∨(y ∈ l∧y.id.r≠r)
  | [],p,u,h,_=>⟨rfl,h,⟨[],by simp [Zs]⟩,fun y hy=>by rcases hy with q | q; exact .inl q; exact .inr (.inl q)⟩
  | e :: l,p,u,h,hc=>by
    rw [Zs]
    by_cases hr:e.id.r=r
    · rw [if_pos hr]
      obtain ⟨a,b,c,d⟩:=zbp l p u h fun x hx=>hc x (List.mem_cons_of_mem _ hx)
      refine ⟨a,b,c,fun y hy=>?_⟩
      rcases d y hy with q | q | q
      · exact .inl q
      · exact .inr (.inl q)
      · exact .inr (.inr ⟨List.mem_cons_of_mem _ q.1,q.2⟩)
    · obtain ⟨a,-,b,⟨x,c⟩,d,-,-⟩:=zjH h (hc e List.mem_cons_self) hr
      rw [if_neg hr,if_pos a]
      obtain ⟨a2,b2,⟨x2,c2⟩,d2⟩:=zbp l _ _ b fun x hx=>hc x (List.mem_cons_of_mem _ hx)
      refine ⟨a2,b2,⟨x ++ x2,by rw [c2,c,List.append_assoc]⟩,fun y hy=>?_⟩
      rcases d2 y hy with q | q | q
      · rcases d y (.inl q) with z | z | z
        · exact .inl z
        · exact .inr (.inl z)
        · exact .inr (.inr ⟨z ▸ List.mem_cons_self,z ▸ hr⟩)
      · rcases d y (.inr q) with z | z | z
        · exact .inl z
        · exact .inr (.inl z)
        · exact .inr (.inr ⟨z ▸ List.mem_cons_self,z ▸ hr⟩)
      · exact .inr (.inr ⟨List.mem_cons_of_mem _ q.1,q.2⟩)
theorem zfJ (r:Int):∀ (l m p u:List Entry),(Zs r l p u).1=0→Zs r (l ++ m) p u=Zs r m (Zs r l p u).2.1 (Zs r l p u).2.2
 | [],m,p,u,_=>rfl
 | e :: l,m,p,u,h=>by
  rw [List.cons_append,Zs,Zs]
  rw [Zs] at h
  by_cases hr:e.id.r=r
  ·
   rw [if_pos hr] at h
   rw [if_pos hr,if_pos hr]; exact zfJ r l m p u h
  ·
   rw [if_neg hr] at h
   rw [if_neg hr,if_neg hr]
   by_cases he:zW r p u e=0
   ·
    rw [if_pos he] at h
    rw [if_pos he,if_pos he]; exact zfJ r l m _ _ h
   ·
    rw [if_neg he] at h; exact (he h).elim
theorem zgu {r:Int}:∀ (l p u:List Entry),(∀ e ∈ l,e.id.r≠r→e ∈ p)→Zs r l p u=(0,p,u)
 | [],p,u,_=>rfl
 | e :: l,p,u,h=>by
  rw [Zs]
  have h2:=zgu l p u fun x hx=>h x (List.mem_cons_of_mem _ hx)
  by_cases hr:e.id.r=r
  ·
   rw [if_pos hr,h2]
  ·
   have hf:0≤zz p e.id:=zbX.2 ⟨e,h e List.mem_cons_self hr,rfl⟩
   have he:zW r p u e=0:=by rw [zW,if_pos (.inl hf)]
   have hs:zas r p u e=(r,p,u):=by rw [zas,if_pos (.inl hf)]
   rw [if_neg hr,if_pos he,hs]; exact h2
theorem zs0 {r:Int} {P U B:List Entry} {k:Nat} (h:zL r P U=0) (hB:LogOk B) (hk:k < B.length) (hr:(nth B k).id.r≠r) (hj:∀ j,j < k→nth B j ∈ P) (hP:∀ x ∈ P,x.id.r≠r→x ∈ B):nth B k ∉ U:=by
 intro hU
 obtain ⟨-,hp,-,hw,hn⟩:=ZR.1 h
 have hnew:=hw.new _ hU
 have hrd:=hn _ hU
 have hrdy:zV P (nth B k)=true:=by
  refine zdh.2 ⟨?_,fun x hx=>?_⟩
  ·
   have hnum:=hB.num k hk
   have h1:ZB P (nth B k).id.r=ZB (B.take k) (nth B k).id.r:=by
    apply Nat.le_antisymm
    ·
     apply Nat.le_of_not_lt
     intro hlt
     obtain ⟨x,hx,hxi⟩:=hp.has_num (r:=(nth B k).id.r) (n:=(nth B k).id.n) (by omega) (by omega)
     rw [zaI] at hnew
     exact hnew x hx (by rw [hxi])
    ·
     by_cases h0:ZB (B.take k) (nth B k).id.r=0
     ·
      omega
     ·
      have hok:=hB.take (n:=k) (by omega)
      obtain ⟨x,hx,hxi⟩:=hok.has_num (r:=(nth B k).id.r) (n:=(ZB (B.take k) (nth B k).id.r:Int)) (by omega) (by omega)
      have hxP:x ∈ P:=by
       rw [List.mem_take_iff_getElem] at hx
       obtain ⟨j,hj2,rfl⟩:=hx
       rw [← zy _ _ (by omega)]
       exact hj j (by omega)
      obtain ⟨m,hm,rfl⟩:=zpO.1 hxP
      have:=hp.num_le hm
      rw [hxi] at this
      simp only at this
      omega
   rw [h1]; exact hnum
  ·
   have:=hB.lnk k hk x hx
   rw [zbX] at this ⊢
   obtain ⟨y,hy,hyx⟩:=this
   rw [List.mem_take_iff_getElem] at hy
   obtain ⟨j,hj2,rfl⟩:=hy
   rw [← zy _ _ (by omega)] at hyx
   exact ⟨_,hj j (by omega),hyx⟩
 rw [hrdy] at hrd; cases hrd
theorem zqR {r : Int} {B : List Entry} (hB : LogOk B) {p u : List Entry} (h : zL r p u = 0) (h1 : ∀ e ∈ B, e.id.r = r → e ∈ p) (h2 : ∀ e, e ∈ p ∨ e ∈ u → e.id.r ≠ r → e ∈ B) :
    (∀ e ∈ B,e ∈ (Zs r B p u).2.1)∧(Zs r B p u).2.2 = []:=by
  have hchk:∀ k,∀ e ∈ B.take k,zl e=0:=fun k e he=>hB.mem_chk (List.mem_of_mem_take he)
  have key:∀ k,k≤B.length→∀ j,j < k→nth B j ∈ (Zs r (B.take k) p u).2.1:=by
    intro k
    induction k with
    | zero=>intro _ j hj; omega
    | succ k ih =>
      intro hk j hj
      have ih:=ih (by omega)
      obtain ⟨a1,a2,⟨x1,a3⟩,a4⟩:=zbp (B.take k) p u h (hchk k)
      obtain ⟨b1,b2,⟨x2,b3⟩,b4⟩:=zbp (B.take (k + 1)) p u h (hchk (k + 1))
      have hst:Zs r (B.take (k + 1)) p u=Zs r [nth B k] (Zs r (B.take k) p u).2.1 (Zs r (B.take k) p u).2.2:=by
        rw [Z5 (by omega),zfJ r _ _ _ _ a1]
      have hsub:∀ y ∈ (Zs r (B.take k) p u).2.1,y ∈ (Zs r (B.take (k + 1)) p u).2.1:=by
        intro y hy
        rw [hst]
        obtain ⟨-,-,⟨x3,c3⟩,-⟩:=zbp [nth B k] _ _ a2 (fun e he=>by simp at he; subst he; exact hB.chk k (by omega))
        rw [c3]; exact List.mem_append.2 (.inl hy)
      by_cases hjk:j < k
      · exact hsub _ (ih j hjk)
      · obtain rfl:j=k:=by omega
        by_cases hr:(nth B j).id.r=r
        · rw [b3]; exact List.mem_append.2 (.inl (h1 _ (zcT (by omega)) hr))
        · have hbP:∀ x,x ∈ (Zs r (B.take (j + 1)) p u).2.1∨x ∈ (Zs r (B.take (j + 1)) p u).2.2→x.id.r≠r→x ∈ B:=fun x hx hxr=>by
            rcases b4 x hx with q | q | q
            · exact h2 x (.inl q) hxr
            · exact h2 x (.inr q) hxr
            · exact List.mem_of_mem_take q.1
          have hth:zex (Zs r (B.take (j + 1)) p u).2.1 (Zs r (B.take (j + 1)) p u).2.2 (nth B j).id:=by
            rw [hst]
            obtain ⟨q1,-,-,-,-,-,q2⟩:=zjH a2 (hB.chk j (by omega)) hr
            rw [Zs,if_neg hr,if_pos q1,Zs]
            exact q2
          obtain ⟨x,hx,hxi⟩:=hth
          have hxB:x ∈ B:=hbP x hx (by rw [hxi]; exact hr)
          have hxe:x=nth B j:=by
            obtain ⟨m,hm,rfl⟩:=zpO.1 hxB
            rw [hB.inj hm (by omega:j < B.length) hxi]
          subst hxe
          rcases hx with q | q
          · exact q
          · exact (zs0 b2 hB (by omega:j < B.length) hr (fun i hi=>hsub _ (ih i hi)) (fun y hy hyr=>hbP y (.inl hy) hyr) q).elim
  have hall:=key B.length (Nat.le_refl _)
  rw [List.take_length] at hall
  have hin:∀ e ∈ B,e ∈ (Zs r B p u).2.1:=fun e he=>by
    obtain ⟨j,hj,rfl⟩:=zpO.1 he
    exact hall j hj
  refine ⟨hin,?_⟩
  obtain ⟨a1,a2,-,a4⟩:=zbp B p u h fun e he=>hB.mem_chk he
  obtain ⟨-,-,-,hw,-⟩:=ZR.1 a2
  apply List.eq_nil_iff_forall_not_mem.2
  intro e he
  have hr:=hw.other e he
  have heB:e ∈ B:=by
    rcases a4 e (.inr he) with q | q | q
    · exact h2 e (.inl q) hr
    · exact h2 e (.inr q) hr
    · exact q.1
  have:=hw.new e he
  rw [zaI] at this
  exact this e (hin e heB) rfl
def zcU (w:Wo) (i:Int):Int × List Entry × List Entry:=Zs i (w.log (1 - i)) (w.log i) (w.wts i)
def Z3 (k n c:Int) (t:ByteArray):Bool:=(decide (k≠1) && (decide (c≠0) || decide (t.size≠0))) || ((decide (k=1) || decide (k=5)) && decide (n≠0))
def zN (w:Wo) (k i n c:Int) (t:ByteArray):Int :=
 if k=1 then zO i (w.log i) c t
 else if k=5 then (zcU w i).1
 else if n < 0∨(w.way i).length≤n then 5
 else if k=2 then zW i (w.log i) (w.wts i) (nth (w.way i) n.toNat)
 else if k=3 then 0
 else if (w.way i).length=30 then 2 else 0
def ZF (w:Wo) (k i n c:Int) (t:ByteArray):Int :=
 if k < 1∨5 < k then 7
 else if Z3 k n c t=true then 1
 else if ¬ (i=0∨i=1) then 3
 else zN w k i n c t
def zay (w:Wo) (i:Int) (e:Entry):Wo:=if (w.way i).length=30 then w else w.setY i (w.way i ++ [e])
def doW (w:Wo) (k i n c:Int) (t:ByteArray):Wo :=
 if k=1 then zay (w.setS i (zv (w.log i ++ [apE i (w.log i) c t]) (w.wts i))) (1 - i) (apE i (w.log i) c t)
 else if k=5 then w.setS i (zcU w i).2
 else if k=2 then (w.setS i (zas i (w.log i) (w.wts i) (nth (w.way i) n.toNat)).2).setY i ((w.way i).eraseIdx n.toNat)
 else if k=3 then w.setY i ((w.way i).eraseIdx n.toNat)
 else w.setY i (w.way i ++ [nth (w.way i) n.toNat])
def stW (w:Wo):Wo:=(w.setS 0 (zcU w 0).2).setS 1 (zcU (w.setS 0 (zcU w 0).2) 1).2
theorem za1 {w:Wo} {i:Int} (h:i=0∨i=1) {s:List Entry × List Entry}:(w.setS i s).log i=s.1∧(w.setS i s).wts i=s.2∧(w.setS i s).log (1 - i)=w.log (1 - i)∧(w.setS i s).wts (1 - i)=w.wts (1 - i)∧∀ j,(w.setS i s).way j=w.way j:=by
 rcases h with rfl | rfl
 ·
  exact ⟨rfl,rfl,rfl,rfl,fun j=>rfl⟩
 ·
  exact ⟨rfl,rfl,rfl,rfl,fun j=>rfl⟩
theorem WoOk.si {w:Wo} (h:WoOk w) {i:Int} (hi:i=0∨i=1):zL i (w.log i) (w.wts i)=0:=by
 rcases hi with rfl | rfl
 ·
  exact h.s0
 ·
  exact h.s1
theorem WoOk.bl {w:Wo} (h:WoOk w) {i:Int} (hi:i=0∨i=1):∀ e ∈ w.log i,zdj w e:=by
 rcases hi with rfl | rfl
 ·
  exact h.bp
 ·
  exact h.bq
theorem WoOk.bw {w:Wo} (h:WoOk w) {i:Int} (hi:i=0∨i=1):∀ e ∈ w.wts i,zdj w e:=by
 rcases hi with rfl | rfl
 ·
  exact h.bu
 ·
  exact h.bv
theorem WoOk.by_ {w:Wo} (h:WoOk w) {i:Int} (hi:i=0∨i=1):(w.way i).length≤30∧(∀ e ∈ w.way i,zl e=0)∧∀ e ∈ w.way i,zdj w e:=by
 rcases hi with rfl | rfl
 ·
  exact ⟨h.la,h.ca,h.ba⟩
 ·
  exact ⟨h.lb,h.cb,h.bb⟩
theorem WoOk.log {w:Wo} (h:WoOk w) {i:Int} (hi:i=0∨i=1):LogOk (w.log i):=(ZR.1 (h.si hi)).2.1
theorem zdj.reg {w:Wo} (h:WoOk w) {e:Entry} (hb:zdj w e):e.id.r=0∨e.id.r=1:=by
 unfold zdj Wo.log at hb
 split at hb
 ·
  exact .inl ‹_›
 ·
  exact zjF h.s1 e (.inl hb)
theorem WoOk.setS {w:Wo} (h:WoOk w) {i:Int} (hi:i=0∨i=1) {P U:List Entry} (hs:zL i P U=0) (hp:∃ x,P=w.log i ++ x) (hb:∀ e,e ∈ P∨e ∈ U→zdj w e∨(e.id.r=i∧e ∈ P)):WoOk (w.setS i (P,U)):=by
 obtain ⟨x,hx⟩:=hp
 have hbn:∀ e,zdj w e→zdj (w.setS i (P,U)) e:=fun e he=>by
  rcases hi with rfl | rfl
  ·
   unfold zdj Wo.log at he ⊢
   by_cases hr:e.id.r=0
   ·
    rw [if_pos hr] at he ⊢
    show e ∈ P
    rw [hx]; exact List.mem_append.2 (.inl he)
   ·
    rw [if_neg hr] at he ⊢; exact he
  ·
   unfold zdj Wo.log at he ⊢
   by_cases hr:e.id.r=0
   ·
    rw [if_pos hr] at he ⊢; exact he
   ·
    rw [if_neg hr] at he ⊢
    show e ∈ P
    rw [hx]; exact List.mem_append.2 (.inl he)
 have hb2:∀ e,e ∈ P∨e ∈ U→zdj (w.setS i (P,U)) e:=fun e he=>by
  rcases hb e he with q | ⟨q,q2⟩
  ·
   exact hbn e q
  ·
   rw [zdj,q,(za1 hi).1]; exact q2
 rcases hi with rfl | rfl
 ·
  exact ⟨hs,h.s1,h.la,h.lb,h.ca,h.cb,fun e he=>hbn e (h.ba e he),fun e he=>hbn e (h.bb e he),fun e he=>hb2 e (.inl he),fun e he=>hb2 e (.inr he),fun e he=>hbn e (h.bq e he),fun e he=>hbn e (h.bv e he)⟩
 ·
  exact ⟨h.s0,hs,h.la,h.lb,h.ca,h.cb,fun e he=>hbn e (h.ba e he),fun e he=>hbn e (h.bb e he),fun e he=>hbn e (h.bp e he),fun e he=>hbn e (h.bu e he),fun e he=>hb2 e (.inl he),fun e he=>hb2 e (.inr he)⟩
theorem WoOk.setY {w:Wo} (h:WoOk w) {i:Int} (hi:i=0∨i=1) {l:List Entry} (hl:l.length≤30) (hc:∀ e ∈ l,zl e=0) (hb:∀ e ∈ l,zdj w e):WoOk (w.setY i l):=by
 rcases hi with rfl | rfl
 ·
  exact ⟨h.s0,h.s1,hl,h.lb,hc,h.cb,hb,h.bb,h.bp,h.bu,h.bq,h.bv⟩
 ·
  exact ⟨h.s0,h.s1,h.la,hl,h.ca,hc,h.ba,hb,h.bp,h.bu,h.bq,h.bv⟩
theorem zce {i:Int} (hi:i=0∨i=1):1 - i=0∨1 - i=1:=by omega
theorem zmy {w:Wo} (h:WoOk w) {i:Int} (hi:i=0∨i=1) {e:Entry} (hb:zdj w e) (hr:e.id.r≠i):e ∈ w.log (1 - i):=by
 have:=hb.reg h
 rwa [zdj,show e.id.r=1 - i by omega] at hb
theorem zif {w:Wo} {i:Int} {e:Entry} (hb:zdj w e) (hr:e.id.r=i):e ∈ w.log i:=by rwa [zdj,hr] at hb
theorem zd6 {w:Wo} (h:WoOk w) {i:Int} (hi:i=0∨i=1):(zcU w i).1=0∧WoOk (w.setS i (zcU w i).2)∧(∃ x,(zcU w i).2.1=w.log i ++ x)∧(∀ e ∈ w.log (1 - i),e ∈ (zcU w i).2.1)∧(zcU w i).2.2 = []:=by
 have hB:=h.log (zce hi)
 obtain ⟨a,b,c,d⟩:=zbp (w.log (1 - i)) (w.log i) (w.wts i) (h.si hi) fun e he=>hB.mem_chk he
 obtain ⟨e1,e2⟩:=zqR hB (h.si hi) (fun e he hr=>zif (h.bl (zce hi) e he) hr)
  (fun e he hr=>zmy h hi (by rcases he with q | q; exact h.bl hi e q; exact h.bw hi e q) hr)
 refine ⟨a,h.setS hi b c fun e he => .inl ?_,c,e1,e2⟩
 rcases d e he with q | q | q
 ·
  exact h.bl hi e q
 ·
  exact h.bw hi e q
 ·
  exact h.bl (zce hi) e q.1
theorem zs1 {i:Int} {p:List Entry} {c:Int} {t:ByteArray}:(apE i p c t).id.r=i:=rfl
theorem zrR {w : Wo} (h : WoOk w) {k i n c : Int} {t : ByteArray} (he : ZF w k i n c t = 0) :
    (i=0∨i=1)∧WoOk (doW w k i n c t)∧(∃ x,(doW w k i n c t).log i=w.log i ++ x)∧(doW w k i n c t).log (1 - i)=w.log (1 - i):=by
  unfold ZF at he
  split at he
  · cases he
  · rename_i hk
    split at he
    · cases he
    · split at he
      · cases he
      · rename_i hi
        have hi:i=0∨i=1:=by omega
        refine ⟨hi,?_⟩
        have hsi:=h.si hi
        unfold zN at he
        unfold doW
        by_cases k1:k=1
        · rw [if_pos k1] at he
          rw [if_pos k1]
          obtain ⟨hq,hok,-,hwo,-⟩:=ZR.1 hsi
          have hr:=zqO hsi he
          obtain ⟨-,hin,x,hx,hx2⟩:=ze4 (lg:=w.log i ++ [apE i (w.log i) c t]) (ws:=w.wts i) (zor hq hok he) hwo.chk
          have hm:apE i (w.log i) c t ∈ (zv (w.log i ++ [apE i (w.log i) c t]) (w.wts i)).1:=by rw [hx]; simp
          have hw2:WoOk (w.setS i (zv (w.log i ++ [apE i (w.log i) c t]) (w.wts i))):=by
            refine WoOk.setS (P:=(zv (w.log i ++ [apE i (w.log i) c t]) (w.wts i)).1) (U:=(zv (w.log i ++ [apE i (w.log i) c t]) (w.wts i)).2) h hi hr ⟨[apE i (w.log i) c t] ++ x,by rw [hx,List.append_assoc]⟩ fun e he=>?_
            have hor:e ∈ w.log i∨e=apE i (w.log i) c t∨e ∈ w.wts i:=by
              rcases he with q | q
              · rw [hx] at q
                rcases List.mem_append.1 q with q | q
                · rcases List.mem_append.1 q with q | q
                  · exact .inl q
                  · exact .inr (.inl (by simpa using q))
                · exact .inr (.inr (hx2 e q))
              · exact .inr (.inr (hin e q))
            rcases hor with q | q | q
            · exact .inl (h.bl hi e q)
            · exact .inr ⟨by rw [q]; rfl,by rw [q]; exact hm⟩
            · exact .inl (h.bw hi e q)
          have hlog:(w.setS i (zv (w.log i ++ [apE i (w.log i) c t]) (w.wts i))).log i=w.log i ++ ([apE i (w.log i) c t] ++ x):=by rw [(za1 hi).1,hx,List.append_assoc]
          have hlog2:=(za1 (w:=w) hi (s:=zv (w.log i ++ [apE i (w.log i) c t]) (w.wts i))).2.2.1
          have hway:=(za1 (w:=w) hi (s:=zv (w.log i ++ [apE i (w.log i) c t]) (w.wts i))).2.2.2.2
          have hbe:zdj (w.setS i (zv (w.log i ++ [apE i (w.log i) c t]) (w.wts i))) (apE i (w.log i) c t):=by
            rw [zdj,zs1,(za1 hi).1]; exact hm
          have hce:=(zrP hq hok he).1
          generalize apE i (w.log i) c t=e at *
          generalize w.setS i (zv (w.log i ++ [e]) (w.wts i))=w2 at *
          unfold zay
          split
          · exact ⟨hw2,⟨_,hlog⟩,hlog2⟩
          · rename_i hl
            obtain ⟨y1,y2,y3⟩:=hw2.by_ (zce hi)
            refine ⟨hw2.setY (zce hi) (by simp; omega) (fun y hy=>?_) (fun y hy=>?_),⟨[e] ++ x,?_⟩,?_⟩
            · rcases List.mem_append.1 hy with q | q
              · exact y2 y q
              · simp at q; rw [q]; exact hce
            · rcases List.mem_append.1 hy with q | q
              · exact y3 y q
              · simp at q; rw [q]; exact hbe
            · rw [← hlog]; rcases hi with rfl | rfl <;> rfl
            · rw [← hlog2]; rcases hi with rfl | rfl <;> rfl
        · rw [if_neg k1] at he
          rw [if_neg k1]
          by_cases k5:k=5
          · rw [if_pos k5]
            obtain ⟨a,b,c,-,-⟩:=zd6 h hi
            obtain ⟨x,c⟩:=c
            exact ⟨b,⟨x,by rw [(za1 hi).1,c]⟩,(za1 hi).2.2.1⟩
          · rw [if_neg k5] at he
            rw [if_neg k5]
            split at he
            · cases he
            · rename_i hn
              have hnl:n.toNat < (w.way i).length:=by omega
              obtain ⟨y1,y2,y3⟩:=h.by_ hi
              have hm:=zcT hnl
              have hers:WoOk (w.setY i ((w.way i).eraseIdx n.toNat)):=h.setY hi (by rw [List.length_eraseIdx,if_pos hnl]; omega) (fun e he=>y2 e (List.mem_of_mem_eraseIdx he)) fun e he=>y3 e (List.mem_of_mem_eraseIdx he)
              by_cases k2:k=2
              · rw [if_pos k2] at he
                rw [if_pos k2]
                by_cases hre:(nth (w.way i) n.toNat).id.r=i
                · have hth:zex (w.log i) (w.wts i) (nth (w.way i) n.toNat).id:=⟨_,.inl (zif (y3 _ hm) hre),rfl⟩
                  have hst:zas i (w.log i) (w.wts i) (nth (w.way i) n.toNat)=(i,w.log i,w.wts i):=by rw [zas,if_pos (there_iff.2 hth)]
                  rw [hst]
                  have hid:w.setS i (w.log i,w.wts i)=w:=by rcases hi with rfl | rfl <;> rfl
                  rw [hid]
                  exact ⟨hers,⟨[],by rcases hi with rfl | rfl <;> simp [Wo.setY,Wo.log]⟩,by rcases hi with rfl | rfl <;> rfl⟩
                · obtain ⟨-,-,b,⟨x,c⟩,d,-,-⟩:=zjH hsi (y2 _ hm) hre
                  have hw2:WoOk (w.setS i (zas i (w.log i) (w.wts i) (nth (w.way i) n.toNat)).2):=h.setS hi b ⟨x,c⟩ fun e he => .inl (by
                    rcases d e he with q | q | q
                    · exact h.bl hi e q
                    · exact h.bw hi e q
                    · rw [q]; exact y3 _ hm)
                  have hway:=(za1 (w:=w) hi (s:=(zas i (w.log i) (w.wts i) (nth (w.way i) n.toNat)).2)).2.2.2.2 i
                  obtain ⟨z1,z2,z3⟩:=hw2.by_ hi
                  rw [hway] at z1 z2 z3
                  refine ⟨hw2.setY hi (by rw [List.length_eraseIdx,if_pos hnl]; omega) (fun e he=>z2 e (List.mem_of_mem_eraseIdx he)) (fun e he=>z3 e (List.mem_of_mem_eraseIdx he)),⟨x,?_⟩,?_⟩
                  · rw [← c]; rcases hi with rfl | rfl <;> rfl
                  · rcases hi with rfl | rfl <;> rfl
              · rw [if_neg k2] at he
                rw [if_neg k2]
                by_cases k3:k=3
                · rw [if_pos k3]
                  exact ⟨hers,⟨[],by rcases hi with rfl | rfl <;> simp [Wo.setY,Wo.log]⟩,by rcases hi with rfl | rfl <;> rfl⟩
                · rw [if_neg k3] at he
                  rw [if_neg k3]
                  split at he
                  · cases he
                  · refine ⟨h.setY hi (by simp; omega) (fun e he=>?_) (fun e he=>?_),⟨[],by rcases hi with rfl | rfl <;> simp [Wo.setY,Wo.log]⟩,by rcases hi with rfl | rfl <;> rfl⟩
                    · rcases List.mem_append.1 he with q | q
                      · exact y2 e q
                      · simp at q; rw [q]; exact y2 _ hm
                    · rcases List.mem_append.1 he with q | q
                      · exact y3 e q
                      · simp at q; rw [q]; exact y3 _ hm
theorem zwd {w:Wo} (h:WoOk w):WoOk (stW w)∧(stW w).u = []∧(stW w).v = []∧(∀ e,e ∈ (stW w).p↔e ∈ (stW w).q)∧(stW w).p.length=(stW w).q.length∧stW (stW w)=stW w:=by
 obtain ⟨a1,a2,-,a4,a5⟩:=zd6 h (.inl rfl)
 obtain ⟨b1,b2,-,b4,b5⟩:=zd6 a2 (.inr rfl)
 have hb0:(stW w).p=(zcU w 0).2.1:=rfl
 have hb1:(stW w).q=(zcU (w.setS 0 (zcU w 0).2) 1).2.1:=rfl
 have hu:(stW w).u = []:=a5
 have hv:(stW w).v = []:=b5
 have hok:WoOk (stW w):=b2
 have hpq:∀ e,e ∈ (stW w).p→e ∈ (stW w).q:=fun e he=>b4 e he
 have hqp:∀ e,e ∈ (stW w).q→e ∈ (stW w).p:=fun e he=>by
  have hb:=hok.bq e he
  by_cases hr:e.id.r=0
  ·
   unfold zdj Wo.log at hb
   rw [if_pos hr] at hb; exact hb
  ·
   have hd:=(zbp ((w.setS 0 (zcU w 0).2).log (1 - 1)) ((w.setS 0 (zcU w 0).2).log 1) ((w.setS 0 (zcU w 0).2).wts 1) (a2.si (.inr rfl)) fun e he=>(a2.log (zce (i:=1) (.inr rfl))).mem_chk he).2.2.2 e (.inl he)
   rcases hd with q | q | q
   ·
    exact a4 e q
   ·
    have:=a2.bw (.inr rfl) e q
    unfold zdj Wo.log at this
    rw [if_neg hr] at this
    exact a4 e this
   ·
    exact q.1
 have hp:=hok.log (i:=0) (.inl rfl)
 have hq:=hok.log (i:=1) (.inr rfl)
 have hlen:(stW w).p.length=(stW w).q.length:=by
  have c1:=zlr hp hq hpq
  have c2:=zlr hq hp hqp
  have s1:=zfI hp.reg
  have s2:=zfI hq.reg
  have d0:=c1 0
  have d1:=c1 1
  have d2:=c2 0
  have d3:=c2 1
  show (Wo.log (stW w) 0).length=(Wo.log (stW w) 1).length
  omega
 refine ⟨hok,hu,hv,fun e=>⟨hpq e,hqp e⟩,hlen,?_⟩
 generalize stW w=x at *
 have e0:zcU x 0=(0,x.p,x.u):=zgu _ _ _ fun e he _=>hqp e he
 have x0:x.setS 0 (zcU x 0).2=x:=by rw [e0]; rfl
 have e1:zcU x 1=(0,x.q,x.v):=zgu _ _ _ fun e he _=>hpq e he
 unfold stW
 rw [x0,e1]; rfl
theorem Z6 {x : Cx} {nt : Nat} {st : St} (id : Nat) {v T sz : Nat} {sto : Bool} {rows rows' : List (List PV)} (h : st.heap[id]? = some (.arr v sto true T sz rows)) (hf : rows.map (·.map (frz st.heap)) = rows') (hp : rows'.all (fun r => r.all PV.isPure) = true) :
    zbk x nt st ⟨st.env,st.heap.set id (.arr v false false T sz rows')⟩:=by
  subst hf
  intro a w ⟨⟨C,hr,he⟩,hdf,hs⟩
  obtain ⟨k1,k2⟩:=hr.change (C':=C) (ob' := .arr v false false T sz (rows.map (·.map (frz st.heap)))) h (za5 w) rfl (fun _=>rfl) (fun _ _=>⟨rfl,rfl⟩) (.inl ⟨rfl,rfl⟩)
    (fun b o _ hf hb=>by have:=hf hb; simp at this) (fun b o _ _=>rfl) (fun b h => .inl h)
    (fun hm hmp=>by
      obtain ⟨o1,o2,o3,xs,o4,o5⟩:=hr.obj id _ h
      refine ⟨o1,o2,fun row hrow=>?_,xs,by simpa using o4,fun k row j p u a b c=>?_⟩
      · obtain ⟨r,hr1,rfl⟩:=List.mem_map.1 hrow
        simpa using o3 r hr1
      · obtain ⟨r,hr1,rfl⟩:=zJ a
        obtain ⟨q,hq1,rfl⟩:=zJ b
        obtain ⟨e1,e2⟩:=o5 k r j q u hr1 hq1 c
        refine ⟨e1,?_⟩
        simp only [Bool.false_eq_true,if_false,if_true] at e2 ⊢
        refine hmp _ _ ((zfO hr e2).pureOf ?_)
        have h1:=List.all_eq_true.1 hp _ (List.mem_map.2 ⟨r,List.mem_of_getElem? hr1,rfl⟩)
        exact List.all_eq_true.1 h1 _ (List.mem_map.2 ⟨q,List.mem_of_getElem? hq1,rfl⟩))
  exact ⟨⟨C,k1,fun u=>k2 _ _ (he u)⟩,hdf,hs⟩
theorem zjI (a b:List Id) (hm:a.length≤9223372036854775807):zg Tryz.prog 240 [.list (a.map cId),.list (b.map cId)] [] (.bool (decide (a=b))) []:=by
 refine zg.of_walk Tryz.func240 Tryz.ntmps240 zv4 zv5 (by simp) fun x hx=>?_
 by_cases hl:a.length=b.length
 ·
  have hl':((a.length:Int)=(b.length:Int))=True:=by simp [hl]
  simp only [go_sem,ztB,ztC,hl']
  refine zr [0,1,12,13] 0 (fun n st=>∃ k:Nat,k + n=a.length∧(∀ j,j < k→nth a j=nth b j) ∧
   st=⟨mkE .top [(0,.list (a.map cId)),(1,.list (b.map cId)),(12,.int .i64 a.length),(13,.int .i64 k)],[]⟩) a.length (by simp [hx]) (by simp) ?_ ?_
  ·
   refine ⟨0,by omega,fun j h=>by omega,?_⟩
   simp [zi,go_sem,zc,zd,pos,List.range_succ]
  ·
   rintro n st ⟨k,hk,hz,rfl⟩
   simp only [go_sem]
   by_cases hlt:k < a.length
   ·
    have hg:a[k]? = some (nth a k):=zk _ _ hlt
    have hlt2:k < b.length:=by omega
    have hg2:b[k]? = some (nth b k):=zk _ _ hlt2
    have hw:=zD (k:=k) (by omega)
    by_cases he:nth a k=nth b k
    ·
     simp only [go_sem,hlt,hlt2,hg,hg2,cId,he,hw]
     refine ⟨by simp,n - 1,by omega,k + 1,by omega,fun j hj=>?_,?_⟩
     ·
      by_cases e:j=k
      ·
       rw [e]; exact he
      ·
       exact hz j (by omega)
     ·
      simp [zi,go_sem,zc,zd,pos]
    ·
     simp only [go_sem,hlt,hlt2,hg,hg2,cId,zd0,he]
     refine zb hx ?_
     have:¬ a=b:=fun e=>he (by rw [e])
     simp [go_sem,ztB,ztC,this]
   ·
    simp only [go_sem,hlt,decide_false]
    refine zb hx ?_
    have:a=b:=zll hl fun j hj=>hz j (by omega)
    simp [go_sem,ztB,ztC,this]
 ·
  have hl':((a.length:Int)=(b.length:Int))=False:=by simp; omega
  simp only [go_sem,ztB,ztC,hl']
  refine zb hx ?_
  have:¬ a=b:=fun e=>hl (by rw [e])
  simp [go_sem,ztB,ztC,this]
theorem zig (a b:Entry):zg Tryz.prog 205 [.agg (cE a),.agg (cE b)] [] (.bool (zck a b)) []:=by
 refine zg.len2 0 4 rfl (by simp [cE]; rfl) fun hm=>?_
 have hm':a.ls.length≤9223372036854775807:=by simp [maxLen] at hm; omega
 refine zg.of_walk Tryz.func205 Tryz.ntmps205 zvG zvH (by simp) fun x hx=>?_
 by_cases h1:a.id=b.id
 ·
  by_cases h2:a.c=b.c
  ·
   by_cases h3:a.t=b.t
   ·
    simp only [go_sem,zqw,zqx,cE,zd0,h1,h2,h3]
    refine za (.pure (zjI _ _ hm')) ?_
    simp only [go_sem]
    refine zb hx ?_
    simp [go_sem,zqw,zqx,zck,h1,h2,h3]
   ·
    simp only [go_sem,zqw,zqx,cE,zd0,h1,h2,h3]
    refine zb hx ?_
    simp [go_sem,zqw,zqx,zck,h1,h2,h3]
  ·
   simp only [go_sem,zqw,zqx,cE,zd0,h1,h2]
   refine zb hx ?_
   simp [go_sem,zqw,zqx,zck,h1,h2]
 ·
  simp only [go_sem,zqw,zqx,cE,zd0,h1]
  refine zb hx ?_
  simp [go_sem,zqw,zqx,zck,h1]
def cYs (ys:List (List Entry)):List (List PV):=ys.map fun l => [PV.list (l.map cE)]
def cWd (ss:List Si) (ys:List (List Entry)):List PV := [.list (ss.map zp),.list (cYs ys)]
def zg1 (ss:List Si):Prop:=∀ s ∈ ss,s.2.1.length≤1000000000000000∧s.2.2.length≤1000000000000000
theorem zrS {ss:List Si} {k:Nat} (h:k < ss.length) (ho:zg1 ss):(nth ss k).2.1.length≤1000000000000000∧(nth ss k).2.2.length≤1000000000000000:=ho _ (by rw [zy _ _ h]; exact List.getElem_mem h)
theorem zlt (ss:List Si):∀ row ∈ ss.map zp,row.length=3:=fun row h=>by
 obtain ⟨s,-,rfl⟩:=List.mem_map.1 h
 rfl
theorem zhA (ss:List Si) (ys:List (List Entry)) (e:Entry) (h2:ss.length=2) (ho:zg1 ss) (he:e.id.r=0∨e.id.r=1):zg Tryz.prog 127 [.agg (cWd ss ys),.agg (cE e)] [] (.bool (zaP ss e)) []:=by
 refine zg.of_walk Tryz.func127 Tryz.ntmps127 zuy zuz (by simp) fun x hx=>?_
 obtain ⟨r,hr2,hr⟩:∃ r:Nat,r < 2∧e.id.r=(r:Int):=by
  rcases he with h | h
  ·
   exact ⟨0,by omega,h⟩
  ·
   exact ⟨1,by omega,h⟩
 have hlt:r < ss.length:=by omega
 have hg:ss[r]? = some (nth ss r):=zk _ _ hlt
 have hl:=(zrS hlt ho).1
 have hla:zjE ss e.id.r=(nth ss r).2.1:=by rw [zjE,hr,Int.toNat_natCast]
 simp only [go_sem,zw8,zw9,cWd,cE,hr,hlt,hg,zp,cSi]
 refine za (.pureE (ZN (nth ss r).2.1 e.id (by omega)) (by simp [go_sem,cId,hr])) ?_
 by_cases h0:0≤zz (nth ss r).2.1 e.id
 ·
  obtain ⟨k,hk,hkl,hkn⟩:=ZO h0
  have hgk:(nth ss r).2.1[k]? = some (nth (nth ss r).2.1 k):=zk _ _ hkl
  have hk0:(0:Int)≤(k:Int):=by omega
  have hb:zaP ss e=zck (nth (nth ss r).2.1 k) e:=by rw [zaP,hla,hk,Int.toNat_natCast]; simp
  simp only [go_sem,hk,hk0,hkl,hgk,cE,hr]
  refine za (.pureE (zig (nth (nth ss r).2.1 k) e) (by simp [go_sem,cE,hr])) ?_
  rw [← hb]
  simp only [go_sem]
  repeat refine ⟨rfl,?_⟩
  refine zb hx ?_
  simp [go_sem,zw8,zw9]
 ·
  have hb:zaP ss e=false:=by rw [zaP,hla]; simp; intro h; omega
  simp only [go_sem,h0]
  repeat refine ⟨rfl,?_⟩
  refine zb hx ?_
  simp [go_sem,zw8,zw9,hb]
theorem zfk (ss:List Si) (ys:List (List Entry)) (e:Entry) (h2:ss.length=2) (ho:zg1 ss) (he:e.id.r=0∨e.id.r=1):zg Tryz.prog 59 [.agg (cWd ss ys),.agg (cE e)] [] (.bool (zaP ss e)) []:=by
 refine zg.of_walk Tryz.func59 Tryz.ntmps59 zys zyt (by simp) fun x hx=>?_
 obtain ⟨r,hr2,hr⟩:∃ r:Nat,r < 2∧e.id.r=(r:Int):=by
  rcases he with h | h
  ·
   exact ⟨0,by omega,h⟩
  ·
   exact ⟨1,by omega,h⟩
 have hlt:r < ss.length:=by omega
 have hg:ss[r]? = some (nth ss r):=zk _ _ hlt
 have hl:=(zrS hlt ho).1
 have hla:zjE ss e.id.r=(nth ss r).2.1:=by rw [zjE,hr,Int.toNat_natCast]
 simp only [go_sem,L59,R59,cWd,cE,hr,hlt,hg,zp,cSi]
 refine za (.pureE (Zf (nth ss r).2.1 e.id (by omega)) (by simp [go_sem,cId,hr])) ?_
 by_cases h0:0≤zz (nth ss r).2.1 e.id
 ·
  obtain ⟨k,hk,hkl,hkn⟩:=ZO h0
  have hgk:(nth ss r).2.1[k]? = some (nth (nth ss r).2.1 k):=zk _ _ hkl
  have hk0:(0:Int)≤(k:Int):=by omega
  have hb:zaP ss e=zck (nth (nth ss r).2.1 k) e:=by rw [zaP,hla,hk,Int.toNat_natCast]; simp
  simp only [go_sem,hk,hk0,hkl,hgk,cE,hr]
  refine za (.pureE (zbO (nth (nth ss r).2.1 k) e) (by simp [go_sem,cE,hr])) ?_
  rw [← hb]
  simp only [go_sem]
  repeat refine ⟨rfl,?_⟩
  refine zb hx ?_
  simp [go_sem,L59,R59]
 ·
  have hb:zaP ss e=false:=by rw [zaP,hla]; simp; intro h; omega
  simp only [go_sem,h0]
  repeat refine ⟨rfl,?_⟩
  refine zb hx ?_
  simp [go_sem,L59,R59,hb]
theorem zox (ss:List Si) (ys:List (List Entry)) (l:List Entry) (h2:ss.length=2) (ho:zg1 ss) (hl:l.length≤1000000000000000):zg Tryz.prog 125 [.agg (cWd ss ys),.list (l.map cE)] [] (.int .i64 (ZT ss l)) []:=by
 refine zg.of_walk Tryz.func125 Tryz.ntmps125 zuu zuv (by simp) fun x hx=>?_
 by_cases h30:(30:Int) < (l.length:Int)
 ·
  have e:ZT ss l=2:=by rw [ZT,if_pos (by omega)]
  simp only [go_sem,zsy,zsz,cWd,h30]
  refine zb hx ?_
  simp [go_sem,zsy,zsz,e]
 ·
  have e:ZT ss l=zw (zgM ss l) l.length:=by rw [ZT,if_neg (by omega)]
  simp only [go_sem,zsy,zsz,cWd,h30,e]
  refine zr [2,11,12,13] 1 (fun m st=>∃ k:Nat,k + m=l.length∧zw (zgM ss l) k=0 ∧
   st=⟨mkE .top [(2,.ptr 0 0),(11,.list (l.map cE)),(12,.int .i64 l.length),(13,.int .i64 k)],[.box (cWd ss ys)]⟩) l.length (by simp [hx]) (by simp) ?_ ?_
  ·
   refine ⟨0,by omega,rfl,?_⟩
   simp [zi,go_sem,zc,zd,pos,List.range_succ,cWd]
  ·
   rintro m st ⟨k,hk,hz,rfl⟩
   by_cases hlt:k < l.length
   ·
    have hg:l[k]? = some (nth l k):=zk _ _ hlt
    have wk:=zD (k:=k) (by omega)
    have fin:∀ q:Int,zgM ss l k=q→q≠0→zw (zgM ss l) l.length=q:=fun q h1 h2=>by rw [zZ hz (by rw [h1]; exact h2) hlt,h1]
    simp only [go_sem,hlt,hg,cE,cWd]
    refine za (.pureE (zaU (nth l k)) (by simp [go_sem,cE])) ?_
    by_cases h1:zl (nth l k)=0
    ·
     simp only [go_sem,h1,cE,cWd]
     refine za (.pureE (zhA ss ys (nth l k) h2 ho (zdk h1)) (by simp [go_sem,cE,cWd])) ?_
     cases hb:zaP ss (nth l k)
     ·
      have hw:zgM ss l k=4:=by rw [zgM,if_pos h1,if_neg (by simp [hb])]
      simp only [go_sem]
      refine zb hx ?_
      simp [go_sem,zsy,zsz,fin 4 hw (by decide)]
     ·
      have hw:zgM ss l k=0:=by rw [zgM,if_pos h1,if_pos hb]
      simp only [go_sem,wk]
      refine ⟨by simp,m - 1,by omega,k + 1,by omega,zQ hz hw,?_⟩
      simp [zi,go_sem,zc,zd,pos,List.range_succ,cWd]
    ·
     have hw:zgM ss l k=zl (nth l k):=by rw [zgM,if_neg h1]
     simp only [go_sem,h1]
     refine zb hx ?_
     simp [go_sem,zsy,zsz,fin _ hw h1]
   ·
    obtain rfl:k=l.length:=by omega
    simp only [go_sem,hlt]
    refine zb hx ?_
    simp [go_sem,zsy,zsz,hz]
theorem zwe {α:Type} {l:List α} (h:l.length=2):∃ a b,l = [a,b]:=by
 match l,h with
 | [a,b],_=>exact ⟨a,b,rfl⟩
def zkb (ys:List (List Entry)):Prop:=∀ l ∈ ys,l.length≤1000000000000000
theorem zzR {ys:List (List Entry)} {k:Nat} (h:k < ys.length) (ho:zkb ys):(nth ys k).length≤1000000000000000:=ho _ (by rw [zy _ _ h]; exact List.getElem_mem h)
theorem zoy {ss:List Si} {k:Nat} (h:zdi ss k=0):zL (nth ss k).1 (nth ss k).2.1 (nth ss k).2.2=0∧(nth ss k).1=(k:Int):=by
 unfold zdi at h
 split at h
 ·
  split at h
  ·
   exact ⟨‹_›,‹_›⟩
  ·
   cases h
 ·
  exact (‹¬ _› h).elim
theorem zih (ss:List Si) (ys:List (List Entry)) (e:Entry) (h2:ss.length=2) (ho:zg1 ss) (he:e.id.r=0∨e.id.r=1):zg Tryz.prog 126 [.agg (cE e),.rptr (cWd ss ys)] [] (.bool (!zaP ss e)) []:=by
 refine zg.of_walk Tryz.func126 Tryz.ntmps126 zuw zux (by simp) fun x hx=>?_
 simp only [go_sem,zy6,zy7,cE,cWd]
 refine za (.pureE (zhA ss ys e h2 ho he) (by simp [go_sem,cE,cWd])) ?_
 simp only [go_sem]
 refine zb hx ?_
 simp [go_sem,zy6,zy7]
theorem zgv (ss : List Si) (ys : List (List Entry)) (l : List Entry) (h2 : ss.length = 2) (ho : zg1 ss) (hl : l.length ≤ 1000000000000000) (he : ∀ e ∈ l, e.id.r = 0 ∨ e.id.r = 1) :
    zg Tryz.prog 128 [.list (l.map cE),.clo 126 [.rptr (cWd ss ys)]] [] (.bool (l.any fun e => !zaP ss e)) [] :=
  zc5 l 126 [.rptr (cWd ss ys)] [] (fun e => !zaP ss e) (by kernel_rfl) (by omega) ⟨by simp [zf],by simp [ren,ze,zf],by simp [zc],by simp [Zk],by simp [zc]⟩
    fun e hm=>zih ss ys e h2 ho (he e hm)
def zd7 (ss:List Si) (k:Nat):Bool:=(ss.take k).any (zgN ss)
theorem zhB {ss:List Si} {k:Nat} (h:k < ss.length):zd7 ss (k + 1)=(zd7 ss k || zgN ss (nth ss k)):=by
 unfold zd7
 rw [List.take_succ_eq_append_getElem h,List.any_append,← zy _ _ h]; simp
theorem zjJ {ss:List Si} (h:ss.length=2):zd7 ss 2=(zgN ss (nth ss 0) || zgN ss (nth ss 1)):=by
 obtain ⟨a,b,rfl⟩:=zwe h
 simp [zd7]; rfl
theorem zjK {ss:List Si} {k n:Nat} (hk:k < n) (hn:n≤ss.length) (h:zgN ss (nth ss k)=true):zd7 ss n=true:=by
 unfold zd7
 rw [List.any_eq_true]
 refine ⟨nth ss k,?_,h⟩
 rw [zy _ _ (by omega),List.mem_take_iff_getElem]
 exact ⟨k,by omega,rfl⟩
theorem Z4 (ss:List Si) (ys:List (List Entry)) (hs:ss.length≤1000000000000000) (hy:ys.length≤1000000000000000) (ho:zg1 ss) (hoy:zkb ys):zg Tryz.prog 52 [.agg (cWd ss ys)] [] (.int .i64 (Zw ss ys)) []:=by
 refine zg.of_walk Tryz.func52 Tryz.ntmps52 zye zyf (by simp) fun x hx=>?_
 by_cases h1:(ss.length:Int)=2
 ·
  by_cases h2:(ys.length:Int)=2
  ·
   have s2:ss.length=2:=by omega
   have y2:ys.length=2:=by omega
   have e1:Zw ss ys=if zw (zdi ss) 2≠0 then zw (zdi ss) 2 else if zw (fun i=>ZT ss (nth ys i)) 2≠0 then zw (fun i=>ZT ss (nth ys i)) 2 else if zd7 ss 2=true then 4 else 0:=by rw [Zw,if_neg (by simp [s2,y2]),zjJ s2]
   have hyl:(cYs ys).length=ys.length:=by simp [cYs]
   simp only [go_sem,L52,R52,cWd,h1,h2,hyl]
   refine zr [1,23,24,25] 1 (fun m st=>∃ k:Nat,k + m=2∧zw (zdi ss) k=0 ∧
    st=⟨mkE .top [(1,.ptr 0 0),(23,.list (ss.map zp)),(24,.int .i64 2),(25,.int .i64 k)],[.box (cWd ss ys)]⟩) 2 (by simp [hx]) (by simp) ?_ ?_
   ·
    refine ⟨0,by omega,rfl,?_⟩
    simp [zi,go_sem,zc,zd,pos,List.range_succ,cWd]
   ·
    rintro m st ⟨k,hk,hz,rfl⟩
    by_cases hk2:(k:Int) < 2
    ·
     have hlt:k < ss.length:=by omega
     have hg:ss[k]? = some (nth ss k):=zk _ _ hlt
     have wk:=zD (k:=k) (by omega)
     obtain ⟨l1,l2⟩:=zrS hlt ho
     have fin:∀ q:Int,zdi ss k=q→q≠0→Zw ss ys=q:=fun q h3 h4=>by rw [e1,zZ hz (by rw [h3]; exact h4) (by omega:k < 2),h3,if_pos h4]
     simp only [go_sem,hk2,hlt,hg,zp,cSi,cWd]
     refine za (.pureE (zaN (nth ss k).1 (nth ss k).2.1 (nth ss k).2.2 (by omega) (by omega)) (by simp [go_sem,cSi])) ?_
     by_cases h3:zL (nth ss k).1 (nth ss k).2.1 (nth ss k).2.2=0
     ·
      by_cases h4:(nth ss k).1=(k:Int)
      ·
       have h5:zdi ss k=0:=by rw [zdi,if_pos h3,if_pos h4]
       simp only [go_sem,h3]
       simp only [go_sem,h4,wk]
       refine ⟨by simp,m - 1,by omega,k + 1,by omega,zQ hz h5,?_⟩
       simp [zi,go_sem,zc,zd,pos,List.range_succ,cWd]
      ·
       have h5:zdi ss k=4:=by rw [zdi,if_pos h3,if_neg h4]
       simp only [go_sem,h3]
       simp only [go_sem,h4]
       refine zb hx ?_
       simp [go_sem,L52,R52,fin 4 h5 (by decide)]
     ·
      have h5:zdi ss k=zL (nth ss k).1 (nth ss k).2.1 (nth ss k).2.2:=by rw [zdi,if_neg h3]
      simp only [go_sem,h3]
      refine zb hx ?_
      simp [go_sem,L52,R52,fin _ h5 h3]
    ·
     obtain rfl:k=2:=by omega
     have hst:∀ j,j < 2→zdi ss j=0:=ZY.1 hz
     have e2:Zw ss ys=if zw (fun i=>ZT ss (nth ys i)) 2≠0 then zw (fun i=>ZT ss (nth ys i)) 2 else if zd7 ss 2=true then 4 else 0:=by rw [e1,if_neg (by simp [hz])]
     simp only [go_sem,hk2,cWd,hyl,h2]
     refine zr [1,41,42,43] 1 (fun m st=>∃ k:Nat,k + m=2∧zw (fun i=>ZT ss (nth ys i)) k=0 ∧
      st=⟨mkE .top [(1,.ptr 0 0),(41,.list (cYs ys)),(42,.int .i64 2),(43,.int .i64 k)],[.box (cWd ss ys)]⟩) 2 (by simp [hx]) (by simp) ?_ ?_
     ·
      refine ⟨0,by omega,rfl,?_⟩
      simp [zi,go_sem,zc,zd,pos,List.range_succ,cWd]
     ·
      rintro m st ⟨k,hk,hz2,rfl⟩
      by_cases hk2:(k:Int) < 2
      ·
       have hlt:k < ys.length:=by omega
       have hg:(cYs ys)[k]? = some [.list ((nth ys k).map cE)]:=by unfold cYs; rw [List.getElem?_map,zk _ _ hlt]; rfl
       have wk:=zD (k:=k) (by omega)
       have l1:=zzR hlt hoy
       have hkl:k < (cYs ys).length:=by omega
       have fin:∀ q:Int,ZT ss (nth ys k)=q→q≠0→Zw ss ys=q:=fun q h3 h4=>by rw [e2,zZ hz2 (by simp only [h3]; exact h4) (by omega:k < 2)]; simp only [h3]; rw [if_pos h4]
       simp only [go_sem,hk2,hkl,hg,cWd]
       refine za (.pureE (zox ss ys (nth ys k) s2 ho l1) (by simp [go_sem,cWd])) ?_
       by_cases h3:ZT ss (nth ys k)=0
       ·
        simp only [go_sem,h3,wk]
        refine ⟨by simp,m - 1,by omega,k + 1,by omega,zQ hz2 h3,?_⟩
        simp [zi,go_sem,zc,zd,pos,List.range_succ,cWd]
       ·
        simp only [go_sem,h3]
        refine zb hx ?_
        simp [go_sem,L52,R52,fin _ rfl h3]
      ·
       obtain rfl:k=2:=by omega
       have e3:Zw ss ys=if zd7 ss 2=true then 4 else 0:=by rw [e2,if_neg (by simp [hz2])]
       simp only [go_sem,hk2,cWd,h1]
       refine zr [9,56,57,58] 1 (fun m st=>∃ k:Nat,k + m=2∧zd7 ss k=false ∧
        st=⟨mkE .top [(9,.clo 126 [.ptr 0 0]),(56,.list (ss.map zp)),(57,.int .i64 2),(58,.int .i64 k)],[.box (cWd ss ys)]⟩) 2 (by simp [hx]) (by simp) ?_ ?_
       ·
        refine ⟨0,by omega,rfl,?_⟩
        simp [zi,go_sem,zc,zd,pos,List.range_succ,cWd]
       ·
        rintro m st ⟨k,hk,hz3,rfl⟩
        by_cases hk2:(k:Int) < 2
        ·
         have hlt:k < ss.length:=by omega
         have hg:ss[k]? = some (nth ss k):=zk _ _ hlt
         have wk:=zD (k:=k) (by omega)
         obtain ⟨l1,l2⟩:=zrS hlt ho
         have hreg:=zjF (zoy (hst k (by omega))).1
         have hsB:zgN ss (nth ss k)=(((nth ss k).2.1.any fun e => !zaP ss e) || ((nth ss k).2.2.any fun e => !zaP ss e)):=rfl
         have fin:zgN ss (nth ss k)=true→Zw ss ys=4:=fun h=>by rw [e3,if_pos (zjK (by omega:k < 2) (by omega) h)]
         simp only [go_sem,hk2,hlt,hg,zp,cSi,cWd]
         refine za (.lookE (zgv ss ys (nth ss k).2.1 s2 ho (by omega) fun e he=>hreg e (.inl he)) rfl (by simp [ziT,zfr,go_sem,zu,pos,cWd])) ?_
         cases h3:(nth ss k).2.1.any fun e => !zaP ss e
         ·
          simp only [go_sem,zp,cSi,cWd]
          refine za (.lookE (zgv ss ys (nth ss k).2.2 s2 ho (by omega) fun e he=>hreg e (.inr he)) rfl (by simp [ziT,zfr,go_sem,zu,pos,cWd])) ?_
          cases h4:(nth ss k).2.2.any fun e => !zaP ss e
          ·
           have h5:zgN ss (nth ss k)=false:=by rw [hsB,h3,h4]; rfl
           simp only [go_sem,wk]
           refine ⟨by simp,m - 1,by omega,k + 1,by omega,by rw [zhB hlt,hz3,h5]; rfl,?_⟩
           simp [zi,go_sem,zc,zd,ze,zf,pos,List.range_succ,cWd]
          ·
           have h5:zgN ss (nth ss k)=true:=by rw [hsB,h4,Bool.or_true]
           simp only [go_sem]
           refine zb hx ?_
           simp [go_sem,L52,R52,fin h5]
         ·
          have h5:zgN ss (nth ss k)=true:=by rw [hsB,h3,Bool.true_or]
          simp only [go_sem]
          refine zb hx ?_
          simp [go_sem,L52,R52,fin h5]
        ·
         obtain rfl:k=2:=by omega
         have e4:Zw ss ys=0:=by rw [e3,if_neg (by simp [hz3])]
         simp only [go_sem,hk2]
         refine zb hx ?_
         simp [go_sem,L52,R52,e4]
  ·
   have e1:Zw ss ys=1:=by rw [Zw,if_pos (by omega)]
   have hyl:(cYs ys).length=ys.length:=by simp [cYs]
   simp only [go_sem,L52,R52,cWd,h1,h2,hyl]
   refine zb hx ?_
   simp [go_sem,L52,R52,e1]
 ·
  have e1:Zw ss ys=1:=by rw [Zw,if_pos (by omega)]
  simp only [go_sem,L52,R52,cWd,h1]
  refine zb hx ?_
  simp [go_sem,L52,R52,e1]
def hWo (vs vy va vb:Nat) (w:Wo):List AObj := [.box [.arr 1 vs,.arr 2 vy],.arr vs true false 36 3 (w.ss.map zp),.arr vy true true 34 1 [[.arr 3 va],[.arr 4 vb]],.arr va true false 32 5 (w.a.map cE),.arr vb true false 32 5 (w.b.map cE)]
def zii (w:Wo) (i:Int) (e:Entry):Wo:=if zW i (w.log i) (w.wts i) e=0 then w.setS i (zas i (w.log i) (w.wts i) e).2 else w
theorem zeE {r:Int} {p u:List Entry} {e:Entry} (h:zW r p u e=0):zas r p u e=(r,(zas r p u e).2):=by
 unfold zas
 by_cases h1:0≤zz p e.id∨0≤zz u e.id
 ·
  rw [if_pos h1]
 ·
  rw [if_neg h1,if_pos h]
theorem zcf {r:Int} {p u:List Entry} (h:zL r p u=0):(r=0∨r=1)∧p.length≤1000∧u.length≤1000∧zbT p∧zbT u∧upE u∧LogOk p∧u.length≤20:=by
 obtain ⟨a,b,c,d,-⟩:=ZR.1 h
 have:=b.len
 exact ⟨a,by omega,by omega,zdb b,fun e he=>Zg (d.chk e he),d.up,b,c⟩
theorem zbB (vs vy va vb : Nat) (w : Wo) (i : Int) (e : Entry) (hs : zL i (w.log i) (w.wts i) = 0) (hc : zl e = 0) :
    zg Tryz.prog 141 [.ptr 0 0,.int .i64 i,.agg (cE e)] (hWo vs vy va vb w) (.int .i64 (zW i (w.log i) (w.wts i) e)) (hWo vs vy va vb (zii w i e)):=by
  obtain ⟨s1,s2,s3,s4,s5,s6,-,-⟩:=zcf hs
  rcases s1 with rfl | rfl
  · skip
    have hp:=zd4 0 w.p w.u e s2 s3 s4 s5 s6 (Zg hc)
    refine zg.of_walk Tryz.func141 Tryz.ntmps141 zrE zrF (by simp) fun x hx=>?_
    by_cases h0:zW 0 w.p w.u e=0
    · obtain ⟨A,U,hAU⟩:∃ A U,zas 0 w.p w.u e=(0,A,U):=⟨_,_,zeE h0⟩
      have hw:zii w 0 e = { w with p:=A,u:=U }:=by rw [zii]; show (if zW 0 w.p w.u e=0 then _ else _)=_; rw [if_pos h0]; show Wo.setS w 0 (zas 0 w.p w.u e).2=_; rw [hAU]; rfl
      have he:zW 0 (w.log 0) (w.wts 0) e=0:=h0
      rw [hw,he]
      rw [hAU,h0] at hp
      simp only [go_sem,zqu,zqv,hWo,Wo.ss,zp,cSi,cE,zq,Int.reduceLT,Int.reduceLE,Int.reduceToNat,Int.reduceAdd,frz,List.map_cons,List.map_nil]
      refine za (.pureE hp (by simp [go_sem,cSi,cE])) ?_
      simp only [go_sem,hWo,Wo.ss,zp,cSi,cE,zq,Int.reduceLT,Int.reduceLE,Int.reduceToNat,Int.reduceAdd,frz,List.map_cons,List.map_nil]
      repeat refine ⟨rfl,?_⟩
      try simp only [go_sem,hWo,Wo.ss,zp,cSi,cE,zq,Int.reduceLT,Int.reduceLE,Int.reduceToNat,Int.reduceAdd,frz,List.map_cons,List.map_nil]
      repeat refine ⟨rfl,?_⟩
      refine ZG [] (by simp) (by simp) (by simp [hx,hWo]) ?_ ?_
      · simp [go_sem,zqu,zqv,hx,pos,hWo]
      · simp [zc,zd,hx,pos,go_sem,hWo,List.range_succ,Wo.ss,zp,cSi]
    · obtain ⟨S,hS⟩:∃ S,zas 0 w.p w.u e=S:=⟨_,rfl⟩
      obtain ⟨s1',A,U⟩:=S
      have hw:zii w 0 e=w:=by rw [zii]; show (if zW 0 w.p w.u e=0 then _ else _)=_; rw [if_neg h0]
      have he:zW 0 (w.log 0) (w.wts 0) e=zW 0 w.p w.u e:=rfl
      rw [hw,he]
      rw [hS] at hp
      simp only [go_sem,zqu,zqv,hWo,Wo.ss,zp,cSi,cE,zq,Int.reduceLT,Int.reduceLE,Int.reduceToNat,Int.reduceAdd,frz,List.map_cons,List.map_nil]
      refine za (.pureE hp (by simp [go_sem,cSi,cE])) ?_
      simp only [go_sem,hWo,Wo.ss,zp,cSi,cE,zq,Int.reduceLT,Int.reduceLE,Int.reduceToNat,Int.reduceAdd,frz,List.map_cons,List.map_nil,h0]
      repeat refine ⟨rfl,?_⟩
      try simp only [go_sem,h0]
      refine ZG [] (by simp) (by simp) (by simp [hx,hWo]) ?_ ?_
      · simp [go_sem,zqu,zqv,hx,pos,hWo]
      · simp [zc,zd,hx,pos,go_sem,hWo,List.range_succ,Wo.ss,zp,cSi]
  · skip
    have hp:=zd4 1 w.q w.v e s2 s3 s4 s5 s6 (Zg hc)
    refine zg.of_walk Tryz.func141 Tryz.ntmps141 zrE zrF (by simp) fun x hx=>?_
    by_cases h0:zW 1 w.q w.v e=0
    · obtain ⟨A,U,hAU⟩:∃ A U,zas 1 w.q w.v e=(1,A,U):=⟨_,_,zeE h0⟩
      have hw:zii w 1 e = { w with q:=A,v:=U }:=by rw [zii]; show (if zW 1 w.q w.v e=0 then _ else _)=_; rw [if_pos h0]; show Wo.setS w 1 (zas 1 w.q w.v e).2=_; rw [hAU]; rfl
      have he:zW 1 (w.log 1) (w.wts 1) e=0:=h0
      rw [hw,he]
      rw [hAU,h0] at hp
      simp only [go_sem,zqu,zqv,hWo,Wo.ss,zp,cSi,cE,zq,Int.reduceLT,Int.reduceLE,Int.reduceToNat,Int.reduceAdd,frz,List.map_cons,List.map_nil]
      refine za (.pureE hp (by simp [go_sem,cSi,cE])) ?_
      simp only [go_sem,hWo,Wo.ss,zp,cSi,cE,zq,Int.reduceLT,Int.reduceLE,Int.reduceToNat,Int.reduceAdd,frz,List.map_cons,List.map_nil]
      repeat refine ⟨rfl,?_⟩
      try simp only [go_sem,hWo,Wo.ss,zp,cSi,cE,zq,Int.reduceLT,Int.reduceLE,Int.reduceToNat,Int.reduceAdd,frz,List.map_cons,List.map_nil]
      repeat refine ⟨rfl,?_⟩
      refine ZG [] (by simp) (by simp) (by simp [hx,hWo]) ?_ ?_
      · simp [go_sem,zqu,zqv,hx,pos,hWo]
      · simp [zc,zd,hx,pos,go_sem,hWo,List.range_succ,Wo.ss,zp,cSi]
    · obtain ⟨S,hS⟩:∃ S,zas 1 w.q w.v e=S:=⟨_,rfl⟩
      obtain ⟨s1',A,U⟩:=S
      have hw:zii w 1 e=w:=by rw [zii]; show (if zW 1 w.q w.v e=0 then _ else _)=_; rw [if_neg h0]
      have he:zW 1 (w.log 1) (w.wts 1) e=zW 1 w.q w.v e:=rfl
      rw [hw,he]
      rw [hS] at hp
      simp only [go_sem,zqu,zqv,hWo,Wo.ss,zp,cSi,cE,zq,Int.reduceLT,Int.reduceLE,Int.reduceToNat,Int.reduceAdd,frz,List.map_cons,List.map_nil]
      refine za (.pureE hp (by simp [go_sem,cSi,cE])) ?_
      simp only [go_sem,hWo,Wo.ss,zp,cSi,cE,zq,Int.reduceLT,Int.reduceLE,Int.reduceToNat,Int.reduceAdd,frz,List.map_cons,List.map_nil,h0]
      repeat refine ⟨rfl,?_⟩
      try simp only [go_sem,h0]
      refine ZG [] (by simp) (by simp) (by simp [hx,hWo]) ?_ ?_
      · simp [go_sem,zqu,zqv,hx,pos,hWo]
      · simp [zc,zd,hx,pos,go_sem,hWo,List.range_succ,Wo.ss,zp,cSi]
theorem zeF {r:Int} {l p u:List Entry} {k:Nat} (hk:k < l.length) (h0:(Zs r (l.take k) p u).1=0):Zs r (l.take (k + 1)) p u=Zs r [nth l k] (Zs r (l.take k) p u).2.1 (Zs r (l.take k) p u).2.2:=by
 rw [Z5 hk,zfJ r _ _ _ _ h0]
theorem zbY (vs vy va vb : Nat) (w : Wo) (i : Int) (hi : i = 0 ∨ i = 1) (hs : zL i (w.log i) (w.wts i) = 0) (hB : LogOk (w.log (1 - i))) :
    zg Tryz.prog 68 [.ptr 0 0,.int .i64 i] (hWo vs vy va vb w) (.int .i64 0) (hWo vs vy va vb (w.setS i (zcU w i).2)):=by
  have hchk:∀ k,∀ e ∈ (w.log (1 - i)).take k,zl e=0:=fun k e he=>hB.mem_chk (List.mem_of_mem_take he)
  have hlen:=hB.len
  rcases hi with rfl | rfl
  · have hB:LogOk w.q:=hB
    have hlen:w.q.length≤40:=hlen
    have hchk:∀ k,∀ e ∈ w.q.take k,zl e=0:=hchk
    have hs:zL 0 w.p w.u=0:=hs
    have k10:IntKind.i64.wrap (1 - 0)=1:=by decide
    refine zg.of_walk Tryz.func68 Tryz.ntmps68 zt8 zt9 (by simp) fun x hx=>?_
    simp only [go_sem,L68,R68,hWo,Wo.ss,zp,cSi,zq,Int.reduceLT,Int.reduceLE,Int.reduceToNat,Int.reduceAdd,frz,List.map_cons,List.map_nil,k10]
    refine zr [0,1,17,18,19] 5 (fun m st=>∃ k:Nat,k + m=w.q.length ∧
      st=⟨mkE .top [(0,.ptr 0 0),(1,.int .i64 0),(17,.list (w.q.map cE)),(18,.int .i64 w.q.length),(19,.int .i64 k)],hWo vs vy va vb (w.setS 0 (Zs 0 (w.q.take k) w.p w.u).2)⟩) w.q.length (by simp [hx,hWo]) (by simp) ?_ ?_
    · refine ⟨0,by omega,?_⟩
      simp [zi,go_sem,zc,zd,ze,zf,pos,List.range_succ,hWo,Wo.ss,zp,cSi,Zs,Wo.setS]
    · rintro m st ⟨k,hk,rfl⟩
      have hok:=hchk k
      obtain ⟨a1,a2,-,-⟩:=zbp (w.q.take k) w.p w.u hs hok
      by_cases hlt:k < w.q.length
      · have hg:w.q[k]? = some (nth w.q k):=zk _ _ hlt
        have wk:=zD (k:=k) (by omega)
        have hce:=hB.chk k hlt
        have hst:=zeF (r:=0) (p:=w.p) (u:=w.u) hlt a1
        obtain ⟨w2,hw2⟩:∃ w2,w.setS 0 (Zs 0 (w.q.take k) w.p w.u).2=w2:=⟨_,rfl⟩
        have hl2:w2.log 0=(Zs 0 (w.q.take k) w.p w.u).2.1:=by rw [← hw2]; rfl
        have hu2:w2.wts 0=(Zs 0 (w.q.take k) w.p w.u).2.2:=by rw [← hw2]; rfl
        rw [hw2]
        by_cases hr:(nth w.q k).id.r=0
        · have hst2:w.setS 0 (Zs 0 (w.q.take (k + 1)) w.p w.u).2=w2:=by rw [hst,Zs,if_pos hr,Zs,← hw2]
          simp only [go_sem,hlt,hg,cE,hr,hWo,wk]
          refine ⟨by simp [hWo],m - 1,by omega,k + 1,by omega,?_⟩
          rw [hst2]
          simp [zi,go_sem,zc,zd,ze,zf,pos,List.range_succ,hWo,Wo.ss,zp,cSi]
        · obtain ⟨r1,-,-,-,-,-,-⟩:=zjH a2 hce hr
          rw [← hl2,← hu2] at r1
          have hrw:zii w2 0 (nth w.q k)=w.setS 0 (Zs 0 (w.q.take (k + 1)) w.p w.u).2:=by
            rw [zii,if_pos r1,hst,Zs,if_neg hr]
            rw [hl2,hu2] at r1
            rw [if_pos r1,Zs,← hw2,hw2,hl2,hu2,← hw2]
            rfl
          have hrc:=zbB vs vy va vb w2 0 (nth w.q k) (by rw [hl2,hu2]; exact a2) hce
          rw [r1,hrw] at hrc
          simp only [go_sem,hlt,hg,cE,hr,hWo]
          refine za (.heapE [0,1,2,3,4] (r' := .int .i64 0) (H':=hWo vs vy va vb (w.setS 0 (Zs 0 (w.q.take (k + 1)) w.p w.u).2) ++ [.box (cE (nth w.q k))]) hrc (by simp) (by simp [hWo]) (by simp [go_sem,pos,cE]) ?_ ?_ ?_) ?_
          · simp [zc,zd,ze,zf,pos,hWo,Wo.ss,zp,cSi]
          · simp [zbE,ren,ze,zf]
          · simp [Zk,zH,zK,ZA,Zb,zd,ze,zf,pos,List.range_succ,hWo,Wo.ss,zp,cSi,cE]
          simp only [go_sem,hWo,wk]
          refine ⟨by simp [hWo],m - 1,by omega,k + 1,by omega,?_⟩
          simp [zi,go_sem,zc,zd,ze,zf,pos,List.range_succ,hWo,Wo.ss,zp,cSi]
      · have htk:w.q.take k=w.q:=List.take_of_length_le (by omega)
        rw [htk]
        simp only [go_sem,hlt,hWo]
        refine ZG [] (by simp) (by simp) (by simp [hx,hWo]) ?_ ?_
        · simp [go_sem,L68,R68,hx,pos,hWo]
        · simp [zc,zd,hx,pos,go_sem,hWo,List.range_succ,Wo.ss,zp,cSi]
          exact ⟨⟨⟨rfl,rfl⟩,rfl,rfl⟩,rfl,rfl⟩
  · have hB:LogOk w.p:=hB
    have hlen:w.p.length≤40:=hlen
    have hchk:∀ k,∀ e ∈ w.p.take k,zl e=0:=hchk
    have hs:zL 1 w.q w.v=0:=hs
    have k10:IntKind.i64.wrap (1 - 1)=0:=by decide
    refine zg.of_walk Tryz.func68 Tryz.ntmps68 zt8 zt9 (by simp) fun x hx=>?_
    simp only [go_sem,L68,R68,hWo,Wo.ss,zp,cSi,zq,Int.reduceLT,Int.reduceLE,Int.reduceToNat,Int.reduceAdd,frz,List.map_cons,List.map_nil,k10]
    refine zr [0,1,17,18,19] 5 (fun m st=>∃ k:Nat,k + m=w.p.length ∧
      st=⟨mkE .top [(0,.ptr 0 0),(1,.int .i64 1),(17,.list (w.p.map cE)),(18,.int .i64 w.p.length),(19,.int .i64 k)],hWo vs vy va vb (w.setS 1 (Zs 1 (w.p.take k) w.q w.v).2)⟩) w.p.length (by simp [hx,hWo]) (by simp) ?_ ?_
    · refine ⟨0,by omega,?_⟩
      simp [zi,go_sem,zc,zd,ze,zf,pos,List.range_succ,hWo,Wo.ss,zp,cSi,Zs,Wo.setS]
    · rintro m st ⟨k,hk,rfl⟩
      have hok:=hchk k
      obtain ⟨a1,a2,-,-⟩:=zbp (w.p.take k) w.q w.v hs hok
      by_cases hlt:k < w.p.length
      · have hg:w.p[k]? = some (nth w.p k):=zk _ _ hlt
        have wk:=zD (k:=k) (by omega)
        have hce:=hB.chk k hlt
        have hst:=zeF (r:=1) (p:=w.q) (u:=w.v) hlt a1
        obtain ⟨w2,hw2⟩:∃ w2,w.setS 1 (Zs 1 (w.p.take k) w.q w.v).2=w2:=⟨_,rfl⟩
        have hl2:w2.log 1=(Zs 1 (w.p.take k) w.q w.v).2.1:=by rw [← hw2]; rfl
        have hu2:w2.wts 1=(Zs 1 (w.p.take k) w.q w.v).2.2:=by rw [← hw2]; rfl
        rw [hw2]
        by_cases hr:(nth w.p k).id.r=1
        · have hst2:w.setS 1 (Zs 1 (w.p.take (k + 1)) w.q w.v).2=w2:=by rw [hst,Zs,if_pos hr,Zs,← hw2]
          simp only [go_sem,hlt,hg,cE,hr,hWo,wk]
          refine ⟨by simp [hWo],m - 1,by omega,k + 1,by omega,?_⟩
          rw [hst2]
          simp [zi,go_sem,zc,zd,ze,zf,pos,List.range_succ,hWo,Wo.ss,zp,cSi]
        · obtain ⟨r1,-,-,-,-,-,-⟩:=zjH a2 hce hr
          rw [← hl2,← hu2] at r1
          have hrw:zii w2 1 (nth w.p k)=w.setS 1 (Zs 1 (w.p.take (k + 1)) w.q w.v).2:=by
            rw [zii,if_pos r1,hst,Zs,if_neg hr]
            rw [hl2,hu2] at r1
            rw [if_pos r1,Zs,← hw2,hw2,hl2,hu2,← hw2]
            rfl
          have hrc:=zbB vs vy va vb w2 1 (nth w.p k) (by rw [hl2,hu2]; exact a2) hce
          rw [r1,hrw] at hrc
          simp only [go_sem,hlt,hg,cE,hr,hWo]
          refine za (.heapE [0,1,2,3,4] (r' := .int .i64 0) (H':=hWo vs vy va vb (w.setS 1 (Zs 1 (w.p.take (k + 1)) w.q w.v).2) ++ [.box (cE (nth w.p k))]) hrc (by simp) (by simp [hWo]) (by simp [go_sem,pos,cE]) ?_ ?_ ?_) ?_
          · simp [zc,zd,ze,zf,pos,hWo,Wo.ss,zp,cSi]
          · simp [zbE,ren,ze,zf]
          · simp [Zk,zH,zK,ZA,Zb,zd,ze,zf,pos,List.range_succ,hWo,Wo.ss,zp,cSi,cE]
          simp only [go_sem,hWo,wk]
          refine ⟨by simp [hWo],m - 1,by omega,k + 1,by omega,?_⟩
          simp [zi,go_sem,zc,zd,ze,zf,pos,List.range_succ,hWo,Wo.ss,zp,cSi]
      · have htk:w.p.take k=w.p:=List.take_of_length_le (by omega)
        rw [htk]
        simp only [go_sem,hlt,hWo]
        refine ZG [] (by simp) (by simp) (by simp [hx,hWo]) ?_ ?_
        · simp [go_sem,L68,R68,hx,pos,hWo]
        · simp [zc,zd,hx,pos,go_sem,hWo,List.range_succ,Wo.ss,zp,cSi]
          exact ⟨⟨⟨rfl,rfl⟩,rfl,rfl⟩,rfl,rfl⟩
theorem zdx (vs vy va vb : Nat) (w : Wo) (i : Int) (q : Nat) (hi : i = 0 ∨ i = 1) (hq : q < (w.way i).length) (hl : (w.way i).length ≤ 30) :
    ∃ va' vb',zg Tryz.prog 211 [.ptr 0 0,.int .i64 i,.int .i64 q] (hWo vs vy va vb w) (.agg (cE (nth (w.way i) q))) (hWo vs vy va' vb' (w.setY i ((w.way i).eraseIdx q))):=by
  rcases hi with rfl | rfl
  · have hq:q < w.a.length:=hq
    have hl:w.a.length≤30:=hl
    refine ⟨va + 1,vb,?_⟩
    refine zg.of_walk Tryz.func211 Tryz.ntmps211 zrG zrH (by simp) fun x hx=>?_
    have hgq:w.a[q]? = some (nth w.a q):=zk _ _ hq
    have wq:=zD (k:=q) (by omega)
    simp only [go_sem,zvO,zvP,hWo,zq,Int.reduceLT,Int.reduceLE,Int.reduceToNat,Int.reduceAdd,frz,hq,hgq,cE]
    refine zcv 3 (zeY (w.a.map cE) va 32 q (by simpa using hq)) rfl rfl rfl rfl (by simp [go_sem]) (by simp [go_sem,pos,wq]) rfl ?_
    rw [zaL]
    simp only [go_sem,zq,Int.reduceLT,Int.reduceLE,Int.reduceToNat,Int.reduceAdd,frz]
    repeat refine ⟨rfl,?_⟩
    try simp only [go_sem,zq,Int.reduceLT,Int.reduceLE,Int.reduceToNat,Int.reduceAdd,frz]
    refine ZG [] (by simp) (by simp) (by simp [hx,hWo]) ?_ ?_
    · simp [go_sem,zvO,zvP,hx,pos,hWo,cE,Wo.way]
    · simp [zc,zd,ze,zf,hx,pos,go_sem,hWo,List.range_succ,Wo.ss,zp,cSi,Wo.setY,Wo.way]
  · have hq:q < w.b.length:=hq
    have hl:w.b.length≤30:=hl
    refine ⟨va,vb + 1,?_⟩
    refine zg.of_walk Tryz.func211 Tryz.ntmps211 zrG zrH (by simp) fun x hx=>?_
    have hgq:w.b[q]? = some (nth w.b q):=zk _ _ hq
    have wq:=zD (k:=q) (by omega)
    simp only [go_sem,zvO,zvP,hWo,zq,Int.reduceLT,Int.reduceLE,Int.reduceToNat,Int.reduceAdd,frz,hq,hgq,cE]
    refine zcv 4 (zeY (w.b.map cE) vb 32 q (by simpa using hq)) rfl rfl rfl rfl (by simp [go_sem]) (by simp [go_sem,pos,wq]) rfl ?_
    rw [zaL]
    simp only [go_sem,zq,Int.reduceLT,Int.reduceLE,Int.reduceToNat,Int.reduceAdd,frz]
    repeat refine ⟨rfl,?_⟩
    try simp only [go_sem,zq,Int.reduceLT,Int.reduceLE,Int.reduceToNat,Int.reduceAdd,frz]
    refine ZG [] (by simp) (by simp) (by simp [hx,hWo]) ?_ ?_
    · simp [go_sem,zvO,zvP,hx,pos,hWo,cE,Wo.way]
    · simp [zc,zd,ze,zf,hx,pos,go_sem,hWo,List.range_succ,Wo.ss,zp,cSi,Wo.setY,Wo.way]
theorem zdy (vs vy va vb : Nat) (w : Wo) (i : Int) (e : Entry) (hi : i = 0 ∨ i = 1) (hl : (w.way i).length ≤ 30) (he : e.ls.length ≤ 1000000) :
    ∃ va' vb',zg Tryz.prog 210 [.ptr 0 0,.int .i64 i,.agg (cE e)] (hWo vs vy va vb w) (.bool (!decide ((w.way i).length=30))) (hWo vs vy va' vb' (zay w i e)):=by
  rcases hi with rfl | rfl
  · have hl:w.a.length≤30:=hl
    by_cases h30:(w.a.length:Int)=30
    · refine ⟨va,vb,?_⟩
      have hs:zay w 0 e=w:=by rw [zay,if_pos (show (w.way 0).length=30 by show w.a.length=30; omega)]
      have hd:decide ((w.way 0).length=30)=true:=by show decide (w.a.length=30)=true; simp; omega
      rw [hs,hd]
      refine zg.of_walk Tryz.func210 Tryz.ntmps210 zli zlj (by simp) fun x hx=>?_
      simp only [go_sem,zqy,zqz,hWo,zq,Int.reduceLT,Int.reduceLE,Int.reduceToNat,Int.reduceAdd,frz,cE,h30,List.length_map]
      refine zG [] (by simp) (by simp) (by simp [hx,hWo]) ?_ ?_
      · simp [go_sem,zqy,zqz,hx,pos,hWo]
      · simp [zc,zd,ze,zf,hx,pos,go_sem,hWo,List.range_succ,Wo.ss,zp,cSi]
    · have hs:zay w 0 e = { w with a:=w.a ++ [e] }:=by rw [zay,if_neg (show ¬ (w.way 0).length=30 by show ¬ w.a.length=30; omega)]; rfl
      have hd:decide ((w.way 0).length=30)=false:=by show decide (w.a.length=30)=false; simp; omega
      refine ⟨va + 1,vb,?_⟩
      rw [hs,hd]
      refine zg.of_walk Tryz.func210 Tryz.ntmps210 zli zlj (by simp) fun x hx=>?_
      simp only [go_sem,zqy,zqz,hWo,zq,Int.reduceLT,Int.reduceLE,Int.reduceToNat,Int.reduceAdd,frz,cE,h30,List.length_map]
      refine za (.pureE (Zy e he) (by simp [go_sem,cE])) ?_
      simp only [go_sem,hWo,zq,Int.reduceLT,Int.reduceLE,Int.reduceToNat,Int.reduceAdd,frz,cE]
      rw [zB rfl rfl (by simp) (by simp; omega)]
      simp only [go_sem,zq,Int.reduceLT,Int.reduceLE,Int.reduceToNat,Int.reduceAdd,frz]
      repeat refine ⟨rfl,?_⟩
      try simp only [go_sem,zq,Int.reduceLT,Int.reduceLE,Int.reduceToNat,Int.reduceAdd,frz]
      refine ZG [] (by simp) (by simp) (by simp [hx,hWo]) ?_ ?_
      · simp [go_sem,zqy,zqz,hx,pos,hWo]
      · simp [zc,zd,ze,zf,hx,pos,go_sem,hWo,List.range_succ,Wo.ss,zp,cSi,cE]
  · have hl:w.b.length≤30:=hl
    by_cases h30:(w.b.length:Int)=30
    · refine ⟨va,vb,?_⟩
      have hs:zay w 1 e=w:=by rw [zay,if_pos (show (w.way 1).length=30 by show w.b.length=30; omega)]
      have hd:decide ((w.way 1).length=30)=true:=by show decide (w.b.length=30)=true; simp; omega
      rw [hs,hd]
      refine zg.of_walk Tryz.func210 Tryz.ntmps210 zli zlj (by simp) fun x hx=>?_
      simp only [go_sem,zqy,zqz,hWo,zq,Int.reduceLT,Int.reduceLE,Int.reduceToNat,Int.reduceAdd,frz,cE,h30,List.length_map]
      refine zG [] (by simp) (by simp) (by simp [hx,hWo]) ?_ ?_
      · simp [go_sem,zqy,zqz,hx,pos,hWo]
      · simp [zc,zd,ze,zf,hx,pos,go_sem,hWo,List.range_succ,Wo.ss,zp,cSi]
    · have hs:zay w 1 e = { w with b:=w.b ++ [e] }:=by rw [zay,if_neg (show ¬ (w.way 1).length=30 by show ¬ w.b.length=30; omega)]; rfl
      have hd:decide ((w.way 1).length=30)=false:=by show decide (w.b.length=30)=false; simp; omega
      refine ⟨va,vb + 1,?_⟩
      rw [hs,hd]
      refine zg.of_walk Tryz.func210 Tryz.ntmps210 zli zlj (by simp) fun x hx=>?_
      simp only [go_sem,zqy,zqz,hWo,zq,Int.reduceLT,Int.reduceLE,Int.reduceToNat,Int.reduceAdd,frz,cE,h30,List.length_map]
      refine za (.pureE (Zy e he) (by simp [go_sem,cE])) ?_
      simp only [go_sem,hWo,zq,Int.reduceLT,Int.reduceLE,Int.reduceToNat,Int.reduceAdd,frz,cE]
      rw [zB rfl rfl (by simp) (by simp; omega)]
      simp only [go_sem,zq,Int.reduceLT,Int.reduceLE,Int.reduceToNat,Int.reduceAdd,frz]
      repeat refine ⟨rfl,?_⟩
      try simp only [go_sem,zq,Int.reduceLT,Int.reduceLE,Int.reduceToNat,Int.reduceAdd,frz]
      refine ZG [] (by simp) (by simp) (by simp [hx,hWo]) ?_ ?_
      · simp [go_sem,zqy,zqz,hx,pos,hWo]
      · simp [zc,zd,ze,zf,hx,pos,go_sem,hWo,List.range_succ,Wo.ss,zp,cSi,cE]
theorem zfl (r:Int) (lg ws:List Entry) (h1:lg.length≤1000000) (h2:ws.length≤1000000) (hf1:zbT lg) (hf2:zbT ws):zg Tryz.prog 139 [.agg (cSi r lg ws)] [] (.agg (cSi r lg ws)) []:=by
 refine zg.of_walk Tryz.func139 Tryz.ntmps139 zlg zlh (by simp) fun x hx=>?_
 simp only [go_sem,zqs,zqt,cSi]
 refine za6 (r := .arr 2 lg.length) (zaM lg h1 hf1) rfl rfl (by simp [go_sem]) rfl ?_
 simp only [go_sem,cSi]
 refine za6 (r := .arr 3 ws.length) (zaM ws h2 hf2) rfl rfl (by simp [go_sem]) rfl ?_
 simp only [go_sem,cSi]
 repeat refine ⟨rfl,?_⟩
 refine zt (zx 2 rfl) ?_
 refine zt (zx 3 rfl) ?_
 refine zb hx ?_
 simp [go_sem,zqs,zqt,cSi,zu,pos]
def zij (w:Wo) (vy:Nat) (_:Nat) (rows:List (List PV)) (rest:List AObj):List AObj := [.box (cWd w.ss w.ys),.box [.arr 2 2,.arr 3 vy],.arr 2 true false 36 3 (w.ss.map zp),.arr vy true true 34 1 rows] ++ rest
theorem zgw (w:Wo) (h:WoOk w):zg Tryz.prog 67 [.agg (cWd w.ss w.ys)] [] (.ptr 0 0) (hWo 2 2 w.a.length w.b.length w):=by
 obtain ⟨-,p2,p3,p4,p5,-,-,-⟩:=zcf h.s0
 obtain ⟨-,q2,q3,q4,q5,-,-,-⟩:=zcf h.s1
 have fa:zbT w.a:=fun e he=>Zg (h.ca e he)
 have fb:zbT w.b:=fun e he=>Zg (h.cb e he)
 have la:=h.la
 have lb:=h.lb
 have k1:IntKind.i64.wrap 1=1:=by decide
 have k2:IntKind.i64.wrap 2=2:=by decide
 refine zg.of_walk Tryz.func67 Tryz.ntmps67 zt6 zt7 (by simp) fun x hx=>?_
 simp only [go_sem,L67,R67,cWd,Wo.ss,Wo.ys,cYs,zp,cSi,zq,Int.reduceLT,Int.reduceLE,Int.reduceToNat,Int.reduceAdd,frz,List.map_cons,List.map_nil]
 refine zaa (Z9 1 0 0 36 3 true false rfl rfl (by omega)) ?_
 refine zaa (Z9 1 1 0 34 1 true true rfl rfl (by omega)) ?_
 refine zr [1,3,14,15,16] 4 (fun m st=>∃ k:Nat,k + m=2 ∧
  st=⟨mkE .top [(1,.ptr 0 0),(3,.ptr 1 0),(14,.list (w.ss.map zp)),(15,.int .i64 2),(16,.int .i64 k)],[.box (cWd w.ss w.ys),.box [.arr 2 k,.arr 3 0],.arr k true false 36 3 ((w.ss.take k).map zp),.arr 0 true true 34 1 []]⟩) 2 (by simp [hx]) (by simp) ?_ ?_
 ·
  refine ⟨0,by omega,?_⟩
  simp [zi,go_sem,zc,zd,ze,zf,pos,List.range_succ,Wo.ss,Wo.ys,cWd,cYs,zp,cSi]
 ·
  rintro m st ⟨k,hk,rfl⟩
  by_cases hk2:k < 2
  ·
   obtain rfl | rfl:k=0∨k=1:=by omega
   ·
    skip
    simp only [go_sem,cWd,Wo.ss,Wo.ys,cYs,zp,cSi,zq,Int.reduceLT,Int.reduceLE,Int.reduceToNat,Int.reduceAdd,frz,List.map_cons,List.map_nil,List.take_succ_cons,List.take_zero]
    refine za (.pureE (zfl 0 w.p w.u (by omega) (by omega) p4 p5) (by simp [go_sem,cSi])) ?_
    simp only [go_sem,cSi,zq,Int.reduceLT,Int.reduceLE,Int.reduceToNat,Int.reduceAdd,frz]
    rw [zB rfl rfl (by simp) (by simp)]
    simp only [go_sem,zq,Int.reduceLT,Int.reduceLE,Int.reduceToNat,Int.reduceAdd,frz]
    repeat refine ⟨rfl,?_⟩
    try simp only [go_sem,zq,Int.reduceLT,Int.reduceLE,Int.reduceToNat,Int.reduceAdd,frz]
    refine ⟨by simp,m - 1,by omega,0 + 1,by omega,?_⟩
    simp [zi,go_sem,zc,zd,ze,zf,pos,List.range_succ,Wo.ss,Wo.ys,cWd,cYs,zp,cSi,k1,k2]
   ·
    skip
    simp only [go_sem,cWd,Wo.ss,Wo.ys,cYs,zp,cSi,zq,Int.reduceLT,Int.reduceLE,Int.reduceToNat,Int.reduceAdd,frz,List.map_cons,List.map_nil,List.take_succ_cons,List.take_zero]
    refine za (.pureE (zfl 1 w.q w.v (by omega) (by omega) q4 q5) (by simp [go_sem,cSi])) ?_
    simp only [go_sem,cSi,zq,Int.reduceLT,Int.reduceLE,Int.reduceToNat,Int.reduceAdd,frz]
    rw [zB rfl rfl (by simp) (by simp)]
    simp only [go_sem,zq,Int.reduceLT,Int.reduceLE,Int.reduceToNat,Int.reduceAdd,frz]
    repeat refine ⟨rfl,?_⟩
    try simp only [go_sem,zq,Int.reduceLT,Int.reduceLE,Int.reduceToNat,Int.reduceAdd,frz]
    refine ⟨by simp,m - 1,by omega,1 + 1,by omega,?_⟩
    simp [zi,go_sem,zc,zd,ze,zf,pos,List.range_succ,Wo.ss,Wo.ys,cWd,cYs,zp,cSi,k1,k2]
  ·
   obtain rfl:k=2:=by omega
   simp only [go_sem,cWd,Wo.ss,Wo.ys,cYs,zp,cSi,zq,Int.reduceLT,Int.reduceLE,Int.reduceToNat,Int.reduceAdd,frz,List.map_cons,List.map_nil,List.take_succ_cons,List.take_zero]
   refine za7 [1,3,35,36,37] (fun m st=>(m=2∧st=⟨mkE .top [(1,.ptr 0 0),(3,.ptr 1 0),(35,.list [[.list (w.a.map cE)],[.list (w.b.map cE)]]),(36,.int .i64 2),(37,.int .i64 0)],zij w 0 0 [] []⟩) ∨
    (m=1∧st=⟨mkE .top [(1,.ptr 0 0),(3,.ptr 1 0),(35,.list [[.list (w.a.map cE)],[.list (w.b.map cE)]]),(36,.int .i64 2),(37,.int .i64 1)],zij w 1 0 [[.arr 4 w.a.length]] [.arr w.a.length true false 32 5 (w.a.map cE)]⟩) ∨
    (m=0∧st=⟨mkE .top [(1,.ptr 0 0),(3,.ptr 1 0),(35,.list [[.list (w.a.map cE)],[.list (w.b.map cE)]]),(36,.int .i64 2),(37,.int .i64 2)],zij w 2 0 [[.arr 4 w.a.length],[.arr 5 w.b.length]] [.arr w.a.length true false 32 5 (w.a.map cE),.arr w.b.length true false 32 5 (w.b.map cE)]⟩)) 2 ?_ ?_
   ·
    refine .inl ⟨rfl,?_⟩
    simp [ZW,go_sem,zij,cWd,Wo.ss,Wo.ys,cYs,zp,cSi]
   ·
    rintro m st (⟨rfl,rfl⟩ | ⟨rfl,rfl⟩ | ⟨rfl,rfl⟩)
    ·
     skip
     simp only [go_sem,zij,zq,Int.reduceLT,Int.reduceLE,Int.reduceToNat,Int.reduceAdd,frz,List.nil_append,List.cons_append]
     refine zaa (ZQ 8 0 32 5 true false rfl (by omega)) ?_
     rw [Zt]
     refine zr [1,3,8,35,36,37,41,42,43] (4 + 1) (fun m st=>∃ k:Nat,k + m=w.a.length ∧
      st=⟨mkE .top [(1,.ptr 0 0),(3,.ptr 1 0),(8,.arr 4 k),(35,.list [[.list (w.a.map cE)],[.list (w.b.map cE)]]),(36,.int .i64 2),(37,.int .i64 0),(41,.list (w.a.map cE)),(42,.int .i64 w.a.length),(43,.int .i64 k)],zij w 0 0 [] ([] ++ [.arr k true false 32 5 ((w.a.take k).map cE)])⟩) w.a.length (by simp [hx]) (by simp) ?_ ?_
     ·
      refine ⟨0,by omega,?_⟩
      simp [zi,go_sem,zc,zd,ze,zf,pos,List.range_succ,zij,cWd,Wo.ss,Wo.ys,cYs,zp,cSi]
     ·
      rintro m st ⟨k,hk,rfl⟩
      by_cases hlt:k < w.a.length
      ·
       have hg:w.a[k]? = some (nth w.a k):=zk _ _ hlt
       have wk:=zD (k:=k) (by omega)
       have htk:w.a.take (k + 1)=w.a.take k ++ [nth w.a k]:=Z5 hlt
       simp only [go_sem,zij,hlt,hg,cE,List.nil_append,List.cons_append]
       refine za (.pureE (Zy (nth w.a k) (fa _ (zcT hlt)).2) (by simp [go_sem,cE])) ?_
       simp only [go_sem,cE]
       rw [zB rfl rfl (by simp) (by simp; omega)]
       simp only [go_sem,wk]
       refine ⟨by simp,m - 1,by omega,k + 1,by omega,?_⟩
       simp [zi,go_sem,zc,zd,ze,zf,pos,List.range_succ,zij,cWd,Wo.ss,Wo.ys,cYs,zp,cSi,htk,cE]
      ·
       obtain rfl:k=w.a.length:=by omega
       rw [List.take_length]
       simp only [go_sem,hlt,zij,zq,Int.reduceLT,Int.reduceLE,Int.reduceToNat,Int.reduceAdd,frz,List.nil_append,List.cons_append]
       rw [zds rfl rfl (by simp) (by simp)]
       simp only [go_sem,zq,Int.reduceLT,Int.reduceLE,Int.reduceToNat,Int.reduceAdd,frz,k1,k2]
       refine ⟨1,by omega,.inr (.inl ⟨rfl,?_⟩)⟩
       simp [ZW,go_sem,zij,cWd,Wo.ss,Wo.ys,cYs,zp,cSi,k1,k2]
    ·
     skip
     simp only [go_sem,zij,zq,Int.reduceLT,Int.reduceLE,Int.reduceToNat,Int.reduceAdd,frz,List.nil_append,List.cons_append]
     refine zaa (ZQ 8 0 32 5 true false rfl (by omega)) ?_
     rw [Zt]
     refine zr [1,3,8,35,36,37,41,42,43] (5 + 1) (fun m st=>∃ k:Nat,k + m=w.b.length ∧
      st=⟨mkE .top [(1,.ptr 0 0),(3,.ptr 1 0),(8,.arr 5 k),(35,.list [[.list (w.a.map cE)],[.list (w.b.map cE)]]),(36,.int .i64 2),(37,.int .i64 1),(41,.list (w.b.map cE)),(42,.int .i64 w.b.length),(43,.int .i64 k)],zij w 1 0 [[.arr 4 w.a.length]] ([.arr w.a.length true false 32 5 (w.a.map cE)] ++ [.arr k true false 32 5 ((w.b.take k).map cE)])⟩) w.b.length (by simp [hx]) (by simp) ?_ ?_
     ·
      refine ⟨0,by omega,?_⟩
      simp [zi,go_sem,zc,zd,ze,zf,pos,List.range_succ,zij,cWd,Wo.ss,Wo.ys,cYs,zp,cSi]
     ·
      rintro m st ⟨k,hk,rfl⟩
      by_cases hlt:k < w.b.length
      ·
       have hg:w.b[k]? = some (nth w.b k):=zk _ _ hlt
       have wk:=zD (k:=k) (by omega)
       have htk:w.b.take (k + 1)=w.b.take k ++ [nth w.b k]:=Z5 hlt
       simp only [go_sem,zij,hlt,hg,cE,List.nil_append,List.cons_append]
       refine za (.pureE (Zy (nth w.b k) (fb _ (zcT hlt)).2) (by simp [go_sem,cE])) ?_
       simp only [go_sem,cE]
       rw [zB rfl rfl (by simp) (by simp; omega)]
       simp only [go_sem,wk]
       refine ⟨by simp,m - 1,by omega,k + 1,by omega,?_⟩
       simp [zi,go_sem,zc,zd,ze,zf,pos,List.range_succ,zij,cWd,Wo.ss,Wo.ys,cYs,zp,cSi,htk,cE]
      ·
       obtain rfl:k=w.b.length:=by omega
       rw [List.take_length]
       simp only [go_sem,hlt,zij,zq,Int.reduceLT,Int.reduceLE,Int.reduceToNat,Int.reduceAdd,frz,List.nil_append,List.cons_append]
       rw [zds rfl rfl (by simp) (by simp)]
       simp only [go_sem,zq,Int.reduceLT,Int.reduceLE,Int.reduceToNat,Int.reduceAdd,frz,k1,k2]
       refine ⟨0,by omega,.inr (.inr ⟨rfl,?_⟩)⟩
       simp [ZW,go_sem,zij,cWd,Wo.ss,Wo.ys,cYs,zp,cSi,k1,k2]
    ·
     simp only [go_sem,zij,zq,Int.reduceLT,Int.reduceLE,Int.reduceToNat,Int.reduceAdd,frz,List.nil_append,List.cons_append]
     refine zG [1,2,3,4,5] (by simp) (by simp [hx]) (by simp [hx]) ?_ ?_
     ·
      simp [go_sem,L67,R67,hx,pos]
     ·
      simp [zc,zd,ze,zf,hx,pos,go_sem,hWo,List.range_succ,Wo.ss,zp,cSi]
def zo (k i n c:Int) (t:ByteArray):List PV := [.int .i64 k,.int .i64 i,.int .i64 n,.int .i64 c,.str t]
theorem Zh {x:Cx} {nt:Nat} {st st1 st2:St} (h:st=st1) (hw:zbk x nt st1 st2):zbk x nt st st2:=h ▸ hw
theorem zoz (vs vy va vb : Nat) (w : Wo) (h : WoOk w) (i n c : Int) (t : ByteArray) (hi : i = 0 ∨ i = 1) :
    ∃ va' vb',zg Tryz.prog 138 [.ptr 0 0,.agg (zo 1 i n c t)] (hWo vs vy va vb w) (.int .i64 (zN w 1 i n c t)) (hWo vs vy va' vb' (if zN w 1 i n c t=0 then doW w 1 i n c t else w)):=by
  have hl0:=(h.log (i:=0) (.inl rfl)).len
  have hl1:=(h.log (i:=1) (.inr rfl)).len
  have hl0:w.p.length≤40:=hl0
  have hl1:w.q.length≤40:=hl1
  obtain ⟨-,-,u1,-,-,-,-,-⟩:=zcf h.s0
  obtain ⟨-,-,u2,-,-,-,-,-⟩:=zcf h.s1
  rcases hi with rfl | rfl
  · have hs:=h.s0
    have k10:IntKind.i64.wrap (1 - 0)=1:=by decide
    have hap:=za0 0 w.p w.u c t (by omega) (by omega)
    have hX:zcd 0 w.p w.u c t=zO 0 w.p c t:=by rw [zcd,if_neg (by simp [hs])]
    have hd:zN w 1 0 n c t=zO 0 w.p c t:=by rw [zN,if_pos rfl]; rfl
    rw [hd]
    by_cases h0:zO 0 w.p c t=0
    · have hS:zdd 0 w.p w.u c t=(0,zv (w.p ++ [apE 0 w.p c t]) w.u):=by rw [zdd,if_neg (by simp [hs]),zbq,if_pos h0]
      have hE:zde 0 w.p w.u c t=apE 0 w.p c t:=by rw [zde,if_neg (by simp [hs]),zbr,if_pos h0]
      have hlse:(apE 0 w.p c t).ls.length≤1000000:=(zdc (t:=t) (c:=c) (by omega:(0:Int)=0∨(0:Int)=1) (by omega:w.p.length≤40)).2
      have hdW:doW w 1 0 n c t=zay (w.setS 0 (zv (w.p ++ [apE 0 w.p c t]) w.u)) 1 (apE 0 w.p c t):=by rw [doW,if_pos rfl]; rfl
      rw [hX,hS,hE,h0] at hap
      rw [if_pos h0,hdW,h0]
      generalize apE 0 w.p c t=e at *
      generalize zv (w.p ++ [e]) w.u=AU at *
      obtain ⟨A,U⟩:=AU
      obtain ⟨va',vb',hsd⟩:=zdy vs vy va vb (w.setS 0 (A,U)) 1 e (by omega) (by rw [(za1 (by omega)).2.2.2.2]; exact h.lb) hlse
      refine ⟨va',vb',?_⟩
      refine zg.of_walk Tryz.func138 Tryz.ntmps138 Z1 Z2 (by simp) fun x hx=>?_
      simp only [go_sem,ZJ,ZK,hWo,Wo.ss,zp,cSi,cE,zo,zq,Int.reduceLT,Int.reduceLE,Int.reduceToNat,Int.reduceAdd,frz,List.map_cons,List.map_nil]
      refine za (.pureE hap (by simp [go_sem,cSi,zo])) ?_
      simp only [go_sem,hWo,Wo.ss,zp,cSi,cE,zq,Int.reduceLT,Int.reduceLE,Int.reduceToNat,Int.reduceAdd,frz,List.map_cons,List.map_nil]
      repeat refine ⟨rfl,?_⟩
      try simp only [go_sem,hWo,Wo.ss,zp,cSi,cE,zq,Int.reduceLT,Int.reduceLE,Int.reduceToNat,Int.reduceAdd,frz,List.map_cons,List.map_nil]
      repeat refine ⟨rfl,?_⟩
      try simp only [go_sem,hWo,Wo.ss,zp,cSi,cE,zq,Int.reduceLT,Int.reduceLE,Int.reduceToNat,Int.reduceAdd,frz,List.map_cons,List.map_nil,k10]
      refine za (.heapE [0,1,2,3,4] (r' := .bool (!decide (((w.setS 0 (A,U)).way 1).length=30))) (H':=hWo vs vy va' vb' (zay (w.setS 0 (A,U)) 1 e) ++ [.box (zo 1 0 n c t),.arr 1 true true 36 3 [cSi 0 A U],.arr 1 true true 32 5 [cE e]]) hsd (by simp) (by simp) (by simp [go_sem,pos,cE]) ?_ ?_ ?_) ?_
      · skip
        simp [zc,zd,ze,zf,pos,hWo,Wo.ss,zp,cSi]
        exact ⟨⟨⟨rfl,rfl⟩,rfl,rfl⟩,rfl,rfl⟩
      · simp [zbE,ren,ze,zf]
      · skip
        simp [Zk,zH,zK,ZA,Zb,zd,ze,zf,pos,List.range_succ,hWo,Wo.ss,zp,cSi,cE,zo]
      simp only [go_sem,hWo]
      refine zG [] (by simp) (by simp) (by simp [hx,hWo]) ?_ ?_
      · simp [go_sem,ZJ,ZK,hx,pos,hWo]
      · simp [zc,zd,ze,zf,hx,pos,go_sem,hWo,List.range_succ,Wo.ss,zp,cSi]
    · refine ⟨va,vb,?_⟩
      rw [hX] at hap
      rw [if_neg h0]
      generalize zdd 0 w.p w.u c t=SS at *
      obtain ⟨s0,A,U⟩:=SS
      generalize zde 0 w.p w.u c t=e at *
      refine zg.of_walk Tryz.func138 Tryz.ntmps138 Z1 Z2 (by simp) fun x hx=>?_
      simp only [go_sem,ZJ,ZK,hWo,Wo.ss,zp,cSi,cE,zo,zq,Int.reduceLT,Int.reduceLE,Int.reduceToNat,Int.reduceAdd,frz,List.map_cons,List.map_nil]
      refine za (.pureE hap (by simp [go_sem,cSi,zo])) ?_
      try simp only [go_sem,hWo,Wo.ss,zp,cSi,cE,zq,Int.reduceLT,Int.reduceLE,Int.reduceToNat,Int.reduceAdd,frz,List.map_cons,List.map_nil,h0]
      repeat refine ⟨rfl,?_⟩
      try simp only [go_sem,hWo,Wo.ss,zp,cSi,cE,zq,Int.reduceLT,Int.reduceLE,Int.reduceToNat,Int.reduceAdd,frz,List.map_cons,List.map_nil,h0]
      refine zG [] (by simp) (by simp) (by simp [hx,hWo]) ?_ ?_
      · simp [go_sem,ZJ,ZK,hx,pos,hWo]
      · simp [zc,zd,ze,zf,hx,pos,go_sem,hWo,List.range_succ,Wo.ss,zp,cSi]
  · have hs:=h.s1
    have k10:IntKind.i64.wrap (1 - 1)=0:=by decide
    have hap:=za0 1 w.q w.v c t (by omega) (by omega)
    have hX:zcd 1 w.q w.v c t=zO 1 w.q c t:=by rw [zcd,if_neg (by simp [hs])]
    have hd:zN w 1 1 n c t=zO 1 w.q c t:=by rw [zN,if_pos rfl]; rfl
    rw [hd]
    by_cases h0:zO 1 w.q c t=0
    · have hS:zdd 1 w.q w.v c t=(1,zv (w.q ++ [apE 1 w.q c t]) w.v):=by rw [zdd,if_neg (by simp [hs]),zbq,if_pos h0]
      have hE:zde 1 w.q w.v c t=apE 1 w.q c t:=by rw [zde,if_neg (by simp [hs]),zbr,if_pos h0]
      have hlse:(apE 1 w.q c t).ls.length≤1000000:=(zdc (t:=t) (c:=c) (by omega:(1:Int)=0∨(1:Int)=1) (by omega:w.q.length≤40)).2
      have hdW:doW w 1 1 n c t=zay (w.setS 1 (zv (w.q ++ [apE 1 w.q c t]) w.v)) 0 (apE 1 w.q c t):=by rw [doW,if_pos rfl]; rfl
      rw [hX,hS,hE,h0] at hap
      rw [if_pos h0,hdW,h0]
      generalize apE 1 w.q c t=e at *
      generalize zv (w.q ++ [e]) w.v=AU at *
      obtain ⟨A,U⟩:=AU
      obtain ⟨va',vb',hsd⟩:=zdy vs vy va vb (w.setS 1 (A,U)) 0 e (by omega) (by rw [(za1 (by omega)).2.2.2.2]; exact h.la) hlse
      refine ⟨va',vb',?_⟩
      refine zg.of_walk Tryz.func138 Tryz.ntmps138 Z1 Z2 (by simp) fun x hx=>?_
      simp only [go_sem,ZJ,ZK,hWo,Wo.ss,zp,cSi,cE,zo,zq,Int.reduceLT,Int.reduceLE,Int.reduceToNat,Int.reduceAdd,frz,List.map_cons,List.map_nil]
      refine za (.pureE hap (by simp [go_sem,cSi,zo])) ?_
      simp only [go_sem,hWo,Wo.ss,zp,cSi,cE,zq,Int.reduceLT,Int.reduceLE,Int.reduceToNat,Int.reduceAdd,frz,List.map_cons,List.map_nil]
      repeat refine ⟨rfl,?_⟩
      try simp only [go_sem,hWo,Wo.ss,zp,cSi,cE,zq,Int.reduceLT,Int.reduceLE,Int.reduceToNat,Int.reduceAdd,frz,List.map_cons,List.map_nil]
      repeat refine ⟨rfl,?_⟩
      try simp only [go_sem,hWo,Wo.ss,zp,cSi,cE,zq,Int.reduceLT,Int.reduceLE,Int.reduceToNat,Int.reduceAdd,frz,List.map_cons,List.map_nil,k10]
      refine za (.heapE [0,1,2,3,4] (r' := .bool (!decide (((w.setS 1 (A,U)).way 0).length=30))) (H':=hWo vs vy va' vb' (zay (w.setS 1 (A,U)) 0 e) ++ [.box (zo 1 1 n c t),.arr 1 true true 36 3 [cSi 1 A U],.arr 1 true true 32 5 [cE e]]) hsd (by simp) (by simp) (by simp [go_sem,pos,cE]) ?_ ?_ ?_) ?_
      · skip
        simp [zc,zd,ze,zf,pos,hWo,Wo.ss,zp,cSi]
        exact ⟨⟨⟨rfl,rfl⟩,rfl,rfl⟩,rfl,rfl⟩
      · simp [zbE,ren,ze,zf]
      · skip
        simp [Zk,zH,zK,ZA,Zb,zd,ze,zf,pos,List.range_succ,hWo,Wo.ss,zp,cSi,cE,zo]
      simp only [go_sem,hWo]
      refine zG [] (by simp) (by simp) (by simp [hx,hWo]) ?_ ?_
      · simp [go_sem,ZJ,ZK,hx,pos,hWo]
      · simp [zc,zd,ze,zf,hx,pos,go_sem,hWo,List.range_succ,Wo.ss,zp,cSi]
    · refine ⟨va,vb,?_⟩
      rw [hX] at hap
      rw [if_neg h0]
      generalize zdd 1 w.q w.v c t=SS at *
      obtain ⟨s0,A,U⟩:=SS
      generalize zde 1 w.q w.v c t=e at *
      refine zg.of_walk Tryz.func138 Tryz.ntmps138 Z1 Z2 (by simp) fun x hx=>?_
      simp only [go_sem,ZJ,ZK,hWo,Wo.ss,zp,cSi,cE,zo,zq,Int.reduceLT,Int.reduceLE,Int.reduceToNat,Int.reduceAdd,frz,List.map_cons,List.map_nil]
      refine za (.pureE hap (by simp [go_sem,cSi,zo])) ?_
      try simp only [go_sem,hWo,Wo.ss,zp,cSi,cE,zq,Int.reduceLT,Int.reduceLE,Int.reduceToNat,Int.reduceAdd,frz,List.map_cons,List.map_nil,h0]
      repeat refine ⟨rfl,?_⟩
      try simp only [go_sem,hWo,Wo.ss,zp,cSi,cE,zq,Int.reduceLT,Int.reduceLE,Int.reduceToNat,Int.reduceAdd,frz,List.map_cons,List.map_nil,h0]
      refine zG [] (by simp) (by simp) (by simp [hx,hWo]) ?_ ?_
      · simp [go_sem,ZJ,ZK,hx,pos,hWo]
      · simp [zc,zd,ze,zf,hx,pos,go_sem,hWo,List.range_succ,Wo.ss,zp,cSi]
theorem zoA (vs vy va vb : Nat) (w : Wo) (h : WoOk w) (i n c : Int) (t : ByteArray) (hi : i = 0 ∨ i = 1) :
    zg Tryz.prog 138 [.ptr 0 0,.agg (zo 5 i n c t)] (hWo vs vy va vb w) (.int .i64 0) (hWo vs vy va vb (doW w 5 i n c t)):=by
  have hal:=zbY vs vy va vb w i hi (h.si hi) (h.log (zce hi))
  have hdW:doW w 5 i n c t=w.setS i (zcU w i).2:=by rw [doW,if_neg (by decide),if_pos rfl]
  rw [hdW]
  refine zg.of_walk Tryz.func138 Tryz.ntmps138 Z1 Z2 (by simp) fun x hx=>?_
  simp only [go_sem,ZJ,ZK,hWo,Wo.ss,zp,cSi,cE,zo,zq,Int.reduceLT,Int.reduceLE,Int.reduceToNat,Int.reduceAdd,frz,List.map_cons,List.map_nil]
  refine za (.heapE [0,1,2,3,4] (r' := .int .i64 0) (H':=hWo vs vy va vb (w.setS i (zcU w i).2) ++ [.box (zo 5 i n c t)]) hal (by simp) (by simp) (by simp [go_sem,pos]) ?_ ?_ ?_) ?_
  · skip
    simp [zc,zd,ze,zf,pos,hWo,Wo.ss,zp,cSi]
  · simp [zbE,ren,ze,zf]
  · skip
    simp [Zk,zH,zK,ZA,Zb,zd,ze,zf,pos,List.range_succ,hWo,Wo.ss,zp,cSi,cE,zo]
  simp only [go_sem,hWo]
  refine zG [] (by simp) (by simp) (by simp [hx,hWo]) ?_ ?_
  · simp [go_sem,ZJ,ZK,hx,pos,hWo]
  · simp [zc,zd,ze,zf,hx,pos,go_sem,hWo,List.range_succ,Wo.ss,zp,cSi]
theorem zat {w:Wo} {k i n c:Int} {t:ByteArray} (h1:k≠1) (h5:k≠5) (hn:n < 0∨(w.way i).length≤n):zN w k i n c t=5:=by rw [zN,if_neg h1,if_neg h5,if_pos hn]
theorem zoB (vs vy va vb : Nat) (w : Wo) (h : WoOk w) (i n c : Int) (t : ByteArray) (hi : i = 0 ∨ i = 1) :
    ∃ va' vb',zg Tryz.prog 138 [.ptr 0 0,.agg (zo 3 i n c t)] (hWo vs vy va vb w) (.int .i64 (zN w 3 i n c t)) (hWo vs vy va' vb' (if zN w 3 i n c t=0 then doW w 3 i n c t else w)):=by
  have la:=h.la
  have lb:=h.lb
  rcases hi with rfl | rfl
  · skip
    by_cases hn0:n < 0
    · refine ⟨va,vb,?_⟩
      rw [zat (by decide) (by decide) (.inl hn0),if_neg (by decide)]
      refine zg.of_parts Tryz.func138 Tryz.ntmps138 Z1 Z2 (by simp) fun x hx=>?_
      simp only [LC.flat,ZJ,ZK,List.cons_append,List.nil_append]
      refine Zq 1 [0,3] 6 (fun st=>st=⟨mkE .top [(3,.rptr (zo 3 0 n c t)),(0,.ptr 0 0),(3,.ptr 5 0)],hWo vs vy va vb w ++ [.gone]⟩) (by simp [hx,hWo]) (by simp) ?_ ?_
      · simp only [go_sem,ZJ,ZK,List.take_succ_cons,List.take_zero,zo]
        rw [zI]
        refine ⟨by simp [hWo],_,?_,rfl⟩
        have e:=z6 (x:=x) (nt:=114) (st:=⟨mkE .top [(0,.ptr 0 0),(3,.ptr 5 0)],hWo vs vy va vb w ++ [.box (zo 3 0 n c t)]⟩) (cells':=zo 3 0 n c t) (H':=hWo vs vy va vb w ++ [.gone]) 3 5 rfl rfl (by simp [zo,frz]) (by simp [zo,PV.isPure]) rfl
        rw [Zt] at e
        refine Zh ?_ e
        simp [zi,go_sem,zc,zd,ze,zf,pos,List.range_succ,hWo,Wo.ss,zp,cSi,zo]
      rintro st rfl
      refine zY ?_
      simp only [go_sem,ZJ,ZK,List.drop_succ_cons,List.drop_zero,hWo,Wo.ss,zp,cSi,cE,zo,zq,Int.reduceLT,Int.reduceLE,Int.reduceToNat,Int.reduceAdd,frz,List.map_cons,List.map_nil,List.cons_append,List.nil_append,hn0]
      repeat refine ⟨rfl,?_⟩
      refine zG [] (by simp) (by simp) (by simp [hx,hWo]) ?_ ?_
      · simp [go_sem,ZJ,ZK,hx,pos,hWo]
      · simp [zc,zd,ze,zf,hx,pos,go_sem,hWo,List.range_succ,Wo.ss,zp,cSi]
    by_cases hn1:(w.a.length:Int)≤n
    · refine ⟨va,vb,?_⟩
      rw [zat (by decide) (by decide) (.inr (by show (w.a.length:Int)≤n; exact hn1)),if_neg (by decide)]
      refine zg.of_parts Tryz.func138 Tryz.ntmps138 Z1 Z2 (by simp) fun x hx=>?_
      simp only [LC.flat,ZJ,ZK,List.cons_append,List.nil_append]
      refine Zq 1 [0,3] 6 (fun st=>st=⟨mkE .top [(3,.rptr (zo 3 0 n c t)),(0,.ptr 0 0),(3,.ptr 5 0)],hWo vs vy va vb w ++ [.gone]⟩) (by simp [hx,hWo]) (by simp) ?_ ?_
      · simp only [go_sem,ZJ,ZK,List.take_succ_cons,List.take_zero,zo]
        rw [zI]
        refine ⟨by simp [hWo],_,?_,rfl⟩
        have e:=z6 (x:=x) (nt:=114) (st:=⟨mkE .top [(0,.ptr 0 0),(3,.ptr 5 0)],hWo vs vy va vb w ++ [.box (zo 3 0 n c t)]⟩) (cells':=zo 3 0 n c t) (H':=hWo vs vy va vb w ++ [.gone]) 3 5 rfl rfl (by simp [zo,frz]) (by simp [zo,PV.isPure]) rfl
        rw [Zt] at e
        refine Zh ?_ e
        simp [zi,go_sem,zc,zd,ze,zf,pos,List.range_succ,hWo,Wo.ss,zp,cSi,zo]
      rintro st rfl
      refine zY ?_
      simp only [go_sem,ZJ,ZK,List.drop_succ_cons,List.drop_zero,hWo,Wo.ss,zp,cSi,cE,zo,zq,Int.reduceLT,Int.reduceLE,Int.reduceToNat,Int.reduceAdd,frz,List.map_cons,List.map_nil,List.cons_append,List.nil_append,hn0]
      simp only [go_sem,hn1,List.length_map]
      repeat refine ⟨rfl,?_⟩
      refine zG [] (by simp) (by simp) (by simp [hx,hWo]) ?_ ?_
      · simp [go_sem,ZJ,ZK,hx,pos,hWo]
      · simp [zc,zd,ze,zf,hx,pos,go_sem,hWo,List.range_succ,Wo.ss,zp,cSi]
    obtain ⟨q,rfl⟩:∃ q:Nat,n=q:=⟨n.toNat,by omega⟩
    have hq:q < w.a.length:=by omega
    have hnn:¬ ((q:Int) < 0∨((w.way 0).length:Int)≤(q:Int)):=by show ¬ ((q:Int) < 0∨(w.a.length:Int)≤(q:Int)); omega
    obtain ⟨va',vb',htk⟩:=zdx vs vy va vb w 0 q (by omega) hq (by show w.a.length≤30; omega)
    have hce:=h.ca _ (zcT hq)
    have hnN:¬ w.a.length≤q:=by omega
    have hd:zN w 3 0 q c t=0:=by rw [zN,if_neg (by decide),if_neg (by decide),if_neg hnn,if_neg (by decide),if_pos rfl]
    have hdW:doW w 3 0 q c t=w.setY 0 ((w.way 0).eraseIdx q):=by rw [doW,if_neg (by decide),if_neg (by decide),if_neg (by decide),if_pos rfl,Int.toNat_natCast]
    refine ⟨va',vb',?_⟩
    rw [hd,if_pos rfl,hdW]
    refine zg.of_parts Tryz.func138 Tryz.ntmps138 Z1 Z2 (by simp) fun x hx=>?_
    simp only [LC.flat,ZJ,ZK,List.cons_append,List.nil_append]
    refine Zq 1 [0,3] 6 (fun st=>st=⟨mkE .top [(3,.rptr (zo 3 0 (q:Int) c t)),(0,.ptr 0 0),(3,.ptr 5 0)],hWo vs vy va vb w ++ [.gone]⟩) (by simp [hx,hWo]) (by simp) ?_ ?_
    · simp only [go_sem,ZJ,ZK,List.take_succ_cons,List.take_zero,zo]
      rw [zI]
      refine ⟨by simp [hWo],_,?_,rfl⟩
      have e:=z6 (x:=x) (nt:=114) (st:=⟨mkE .top [(0,.ptr 0 0),(3,.ptr 5 0)],hWo vs vy va vb w ++ [.box (zo 3 0 (q:Int) c t)]⟩) (cells':=zo 3 0 (q:Int) c t) (H':=hWo vs vy va vb w ++ [.gone]) 3 5 rfl rfl (by simp [zo,frz]) (by simp [zo,PV.isPure]) rfl
      rw [Zt] at e
      refine Zh ?_ e
      simp [zi,go_sem,zc,zd,ze,zf,pos,List.range_succ,hWo,Wo.ss,zp,cSi,zo]
    rintro st rfl
    refine zY ?_
    simp only [go_sem,ZJ,ZK,List.drop_succ_cons,List.drop_zero,hWo,Wo.ss,zp,cSi,cE,zo,zq,Int.reduceLT,Int.reduceLE,Int.reduceToNat,Int.reduceAdd,frz,List.map_cons,List.map_nil,List.cons_append,List.nil_append,hn0]
    simp only [go_sem,hn0,hnN,List.length_map,zq,Int.reduceLT,Int.reduceLE,Int.reduceToNat,Int.reduceAdd,frz]
    repeat refine ⟨rfl,?_⟩
    try simp only [go_sem,zq,Int.reduceLT,Int.reduceLE,Int.reduceToNat,Int.reduceAdd,frz]
    refine za (.heapE [0,1,2,3,4] (r' := .agg (cE (nth (w.way 0) q))) (H':=hWo vs vy va' vb' (w.setY 0 ((w.way 0).eraseIdx q)) ++ [.gone]) htk (by simp) (by simp) (by simp [go_sem,pos]) ?_ ?_ ?_) ?_
    · skip
      simp [zc,zd,ze,zf,pos,hWo,Wo.ss,zp,cSi]
    · simp [zbE,ren,ze,zf,cE]
    · skip
      simp [Zk,zH,zK,ZA,Zb,zd,ze,zf,pos,List.range_succ,hWo,Wo.ss,zp,cSi,cE,zo]
    simp only [go_sem,hWo]
    refine ZG [] (by simp) (by simp) (by simp [hx,hWo]) ?_ ?_
    · simp [go_sem,ZJ,ZK,hx,pos,hWo]
    · simp [zc,zd,ze,zf,hx,pos,go_sem,hWo,List.range_succ,Wo.ss,zp,cSi]
  · skip
    by_cases hn0:n < 0
    · refine ⟨va,vb,?_⟩
      rw [zat (by decide) (by decide) (.inl hn0),if_neg (by decide)]
      refine zg.of_parts Tryz.func138 Tryz.ntmps138 Z1 Z2 (by simp) fun x hx=>?_
      simp only [LC.flat,ZJ,ZK,List.cons_append,List.nil_append]
      refine Zq 1 [0,3] 6 (fun st=>st=⟨mkE .top [(3,.rptr (zo 3 1 n c t)),(0,.ptr 0 0),(3,.ptr 5 0)],hWo vs vy va vb w ++ [.gone]⟩) (by simp [hx,hWo]) (by simp) ?_ ?_
      · simp only [go_sem,ZJ,ZK,List.take_succ_cons,List.take_zero,zo]
        rw [zI]
        refine ⟨by simp [hWo],_,?_,rfl⟩
        have e:=z6 (x:=x) (nt:=114) (st:=⟨mkE .top [(0,.ptr 0 0),(3,.ptr 5 0)],hWo vs vy va vb w ++ [.box (zo 3 1 n c t)]⟩) (cells':=zo 3 1 n c t) (H':=hWo vs vy va vb w ++ [.gone]) 3 5 rfl rfl (by simp [zo,frz]) (by simp [zo,PV.isPure]) rfl
        rw [Zt] at e
        refine Zh ?_ e
        simp [zi,go_sem,zc,zd,ze,zf,pos,List.range_succ,hWo,Wo.ss,zp,cSi,zo]
      rintro st rfl
      refine zY ?_
      simp only [go_sem,ZJ,ZK,List.drop_succ_cons,List.drop_zero,hWo,Wo.ss,zp,cSi,cE,zo,zq,Int.reduceLT,Int.reduceLE,Int.reduceToNat,Int.reduceAdd,frz,List.map_cons,List.map_nil,List.cons_append,List.nil_append,hn0]
      repeat refine ⟨rfl,?_⟩
      refine zG [] (by simp) (by simp) (by simp [hx,hWo]) ?_ ?_
      · simp [go_sem,ZJ,ZK,hx,pos,hWo]
      · simp [zc,zd,ze,zf,hx,pos,go_sem,hWo,List.range_succ,Wo.ss,zp,cSi]
    by_cases hn1:(w.b.length:Int)≤n
    · refine ⟨va,vb,?_⟩
      rw [zat (by decide) (by decide) (.inr (by show (w.b.length:Int)≤n; exact hn1)),if_neg (by decide)]
      refine zg.of_parts Tryz.func138 Tryz.ntmps138 Z1 Z2 (by simp) fun x hx=>?_
      simp only [LC.flat,ZJ,ZK,List.cons_append,List.nil_append]
      refine Zq 1 [0,3] 6 (fun st=>st=⟨mkE .top [(3,.rptr (zo 3 1 n c t)),(0,.ptr 0 0),(3,.ptr 5 0)],hWo vs vy va vb w ++ [.gone]⟩) (by simp [hx,hWo]) (by simp) ?_ ?_
      · simp only [go_sem,ZJ,ZK,List.take_succ_cons,List.take_zero,zo]
        rw [zI]
        refine ⟨by simp [hWo],_,?_,rfl⟩
        have e:=z6 (x:=x) (nt:=114) (st:=⟨mkE .top [(0,.ptr 0 0),(3,.ptr 5 0)],hWo vs vy va vb w ++ [.box (zo 3 1 n c t)]⟩) (cells':=zo 3 1 n c t) (H':=hWo vs vy va vb w ++ [.gone]) 3 5 rfl rfl (by simp [zo,frz]) (by simp [zo,PV.isPure]) rfl
        rw [Zt] at e
        refine Zh ?_ e
        simp [zi,go_sem,zc,zd,ze,zf,pos,List.range_succ,hWo,Wo.ss,zp,cSi,zo]
      rintro st rfl
      refine zY ?_
      simp only [go_sem,ZJ,ZK,List.drop_succ_cons,List.drop_zero,hWo,Wo.ss,zp,cSi,cE,zo,zq,Int.reduceLT,Int.reduceLE,Int.reduceToNat,Int.reduceAdd,frz,List.map_cons,List.map_nil,List.cons_append,List.nil_append,hn0]
      simp only [go_sem,hn1,List.length_map]
      repeat refine ⟨rfl,?_⟩
      refine zG [] (by simp) (by simp) (by simp [hx,hWo]) ?_ ?_
      · simp [go_sem,ZJ,ZK,hx,pos,hWo]
      · simp [zc,zd,ze,zf,hx,pos,go_sem,hWo,List.range_succ,Wo.ss,zp,cSi]
    obtain ⟨q,rfl⟩:∃ q:Nat,n=q:=⟨n.toNat,by omega⟩
    have hq:q < w.b.length:=by omega
    have hnn:¬ ((q:Int) < 0∨((w.way 1).length:Int)≤(q:Int)):=by show ¬ ((q:Int) < 0∨(w.b.length:Int)≤(q:Int)); omega
    obtain ⟨va',vb',htk⟩:=zdx vs vy va vb w 1 q (by omega) hq (by show w.b.length≤30; omega)
    have hce:=h.cb _ (zcT hq)
    have hnN:¬ w.b.length≤q:=by omega
    have hd:zN w 3 1 q c t=0:=by rw [zN,if_neg (by decide),if_neg (by decide),if_neg hnn,if_neg (by decide),if_pos rfl]
    have hdW:doW w 3 1 q c t=w.setY 1 ((w.way 1).eraseIdx q):=by rw [doW,if_neg (by decide),if_neg (by decide),if_neg (by decide),if_pos rfl,Int.toNat_natCast]
    refine ⟨va',vb',?_⟩
    rw [hd,if_pos rfl,hdW]
    refine zg.of_parts Tryz.func138 Tryz.ntmps138 Z1 Z2 (by simp) fun x hx=>?_
    simp only [LC.flat,ZJ,ZK,List.cons_append,List.nil_append]
    refine Zq 1 [0,3] 6 (fun st=>st=⟨mkE .top [(3,.rptr (zo 3 1 (q:Int) c t)),(0,.ptr 0 0),(3,.ptr 5 0)],hWo vs vy va vb w ++ [.gone]⟩) (by simp [hx,hWo]) (by simp) ?_ ?_
    · simp only [go_sem,ZJ,ZK,List.take_succ_cons,List.take_zero,zo]
      rw [zI]
      refine ⟨by simp [hWo],_,?_,rfl⟩
      have e:=z6 (x:=x) (nt:=114) (st:=⟨mkE .top [(0,.ptr 0 0),(3,.ptr 5 0)],hWo vs vy va vb w ++ [.box (zo 3 1 (q:Int) c t)]⟩) (cells':=zo 3 1 (q:Int) c t) (H':=hWo vs vy va vb w ++ [.gone]) 3 5 rfl rfl (by simp [zo,frz]) (by simp [zo,PV.isPure]) rfl
      rw [Zt] at e
      refine Zh ?_ e
      simp [zi,go_sem,zc,zd,ze,zf,pos,List.range_succ,hWo,Wo.ss,zp,cSi,zo]
    rintro st rfl
    refine zY ?_
    simp only [go_sem,ZJ,ZK,List.drop_succ_cons,List.drop_zero,hWo,Wo.ss,zp,cSi,cE,zo,zq,Int.reduceLT,Int.reduceLE,Int.reduceToNat,Int.reduceAdd,frz,List.map_cons,List.map_nil,List.cons_append,List.nil_append,hn0]
    simp only [go_sem,hn0,hnN,List.length_map,zq,Int.reduceLT,Int.reduceLE,Int.reduceToNat,Int.reduceAdd,frz]
    repeat refine ⟨rfl,?_⟩
    try simp only [go_sem,zq,Int.reduceLT,Int.reduceLE,Int.reduceToNat,Int.reduceAdd,frz]
    refine za (.heapE [0,1,2,3,4] (r' := .agg (cE (nth (w.way 1) q))) (H':=hWo vs vy va' vb' (w.setY 1 ((w.way 1).eraseIdx q)) ++ [.gone]) htk (by simp) (by simp) (by simp [go_sem,pos]) ?_ ?_ ?_) ?_
    · skip
      simp [zc,zd,ze,zf,pos,hWo,Wo.ss,zp,cSi]
    · simp [zbE,ren,ze,zf,cE]
    · skip
      simp [Zk,zH,zK,ZA,Zb,zd,ze,zf,pos,List.range_succ,hWo,Wo.ss,zp,cSi,cE,zo]
    simp only [go_sem,hWo]
    refine ZG [] (by simp) (by simp) (by simp [hx,hWo]) ?_ ?_
    · simp [go_sem,ZJ,ZK,hx,pos,hWo]
    · simp [zc,zd,ze,zf,hx,pos,go_sem,hWo,List.range_succ,Wo.ss,zp,cSi]
end Go.Proofs.YtkcahmbcpkjpiaaGreatDoor
