/- Joined texts of this claim: S2 S3 S4 S5 S6 S7 D1 E12 D2 D3 Sh S1 G1 M3 D5 D4 D6 D7 D8 D9 D10 G2 D11 G3 M4. -/
import Derived.Test.YtfdolehffjmdmaaGreatDoorKC
import Derived.Test.YtfdolehffjmdmaaGreatDoorProg
import Derived.Test.YtfdolehffjmdmaaGreatDoorKB
import Derived.Shelf.RegionOpenPlain
import Derived.WalkKit
import Derived.Deep.LoopGhost
import Derived.Deep.Draws
import Derived.Lib.Walk
import Derived.Sort.WalkB12
import Derived.Lib.SliceRun
import Derived.Lib.SlicesCompact
import Derived.Deep.RegionLaw
import Derived.Lib.SlicesDelete
import Derived.Shelf.Spec.SlicesInsert
import Derived.ArgAppend
import Derived.Shelf.Spec.SlicesInsertGrow
import Derived.Shelf.SlSortCmp.WholeK
import Derived.Shelf.SlLaysF0
import Derived.KernelRfl
import Derived.Shelf.SlSortCmp.Insertion
import Derived.Shelf.SlSortCmp.NoneTotal
set_option linter.unusedSimpArgs false
set_option linter.unusedVariables false
set_option linter.unusedSectionVars false
/- slices.Compact at ids: in memory. -/
namespace Go.Proofs.YtfdolehffjmdmaaGreatDoor
open Go.RowKit Go.Lib Go.Sort
open Go.Shelf
def eId (x:Id):List Value := [.int .i64 x.r,.int .i64 x.n]
theorem setMany_flat {α:Type} [Inhabited α] (enc:α→List Value) (k:Nat) (hk:∀ x,(enc x).length=k) (d:Array α) (i:Nat) (hi:i < d.size) (x:α):setMany (flatK enc k d) (i * k) (enc x)=flatK enc k (d.setIfInBounds i x):=by
  refine ext_get! (by simp) fun t ht=>?_
  have ht':t < d.size * k:=by simpa using ht
  have k0 : 0 < k := by rcases Nat.eq_zero_or_pos k with h | h; · subst h; simp at ht'
                        · exact h
  rw [get_setMany _ _ _ t (by simpa using ht'),get_flatK _ _ _ t ht',get_flatK _ _ _ t (by simpa using ht'),hk]
  by_cases a:t / k=i
  · have m:t - i * k=t % k:=by subst a; rw [Nat.mod_eq_sub_div_mul]
    rw [if_pos ((blk_iff k i t k0).2 a),m,a,getElem!_set_same d i x hi]
  · rw [if_neg (fun h=>a ((blk_iff k i t k0).1 h)),getElem!_set_other d i _ x a]
theorem run_clear_cells {P : Program} (w : World) (t e ty : TypeId) (z : Value) (ht : P.underlying t = some (.slice e)) (hv : ∀ w, (zeroValue e).run P w = .ok z w) (h1 : ∀ v ∈ z.cells, v.oneCell' = true) (b o n c : Nat) (hn : 0 < n)
    (hc:∀ j,j < n * z.cells.size→(w.cell? ⟨b,o + j,none⟩).isSome=true) (hf:∀ j,j < n * z.cells.size→w.frozen? ⟨b,o + j,none⟩=false) :
    ∃ zs:List Value,zs.length=n * z.cells.size∧(Builtin.clear_ #[t] ty #[.slice (some ⟨b,o,none⟩) n c]).run P w = .ok (.tuple #[]) (w.setCells b o zs):=by
  refine ⟨(Builtin.zeroCells z.cells n).toList,by simp [Builtin.zeroCells,Nat.mul_comm],?_⟩
  have hst:=run_storeCells_cells (P:=P) b o (Builtin.zeroCells z.cells n).toList 0 w (by simpa [Builtin.zeroCells,Nat.mul_comm] using hc) (by simpa [Builtin.zeroCells,Nat.mul_comm] using hf) (by
    intro v hv'
    obtain ⟨i,hi,rfl⟩:=List.mem_iff_getElem.1 hv'
    simp only [Builtin.zeroCells,Array.getElem_toList,Array.getElem_map,Array.getElem_range]
    have hs:0 < z.cells.size:=by
      rcases Nat.eq_zero_or_pos z.cells.size with h | h
      · simp [Builtin.zeroCells,h] at hi
      · exact h
    have:=Nat.mod_lt i hs
    exact h1 _ (by simp [getElem!_pos,this]))
  simp only [Nat.add_zero] at hst
  obtain ⟨m,rfl⟩:∃ m,n=m + 1:=⟨n - 1,by omega⟩
  simp [Builtin.clear_,run_underlying ht,hv,hst]
theorem eId_len (x:Id):(eId x).length=2:=rfl
theorem eId_one (x:Id):∀ v ∈ eId x,v.oneCell'=true:=by
 intro v hv; simp [eId] at hv; rcases hv with rfl | rfl <;> rfl
theorem holdsK_two {w : World} {blk off : Nat} {d : Array Id} (h : HoldsK eId 2 w blk off d) {i : Nat} (hi : i < d.size) :
    w.cell? ⟨blk,off + i * 2,none⟩=some (.int .i64 d[i]!.r)∧w.cell? ⟨blk,off + i * 2 + 1,none⟩=some (.int .i64 d[i]!.n)∧w.frozen? ⟨blk,off + i * 2,none⟩=false∧w.frozen? ⟨blk,off + i * 2 + 1,none⟩=false :=
  ⟨(h.cell hi (c:=0) (by omega)).1,(h.cell hi (c:=1) (by omega)).1,(h.cell hi (c:=0) (by omega)).2,(h.cell hi (c:=1) (by omega)).2⟩
theorem store_world_id {w wr : World} {n blk off : Nat} {dk : Array Id} {i : Nat} (hi : i < dk.size) (hwr : wr = putRowK eId 2 (Sort.ahead w n) blk off dk) (x : Id) :
    wr.setCells blk (off + i * 2) (eId x)=putRowK eId 2 (Sort.ahead w n) blk off (dk.setIfInBounds i x):=by
  subst hwr
  unfold putRowK
  rw [setCells_putRow _ _ _ _ _ _ (by rw [size_flatK,eId_len]; omega),setMany_flat eId 2 eId_len dk i hi x]
def CompOut (w:World) (blk off:Nat) (d:Array Id) (w':World):Prop :=
 ∃ (q:Nat) (F:Array Value),F.size=d.size * 2∧(∀ t,t < (compactUpTo d d.size).length * 2→F[t]! = (flatK eId 2 (compactUpTo d d.size).toArray)[t]!)∧w'=putRow id (Sort.ahead w q) blk off F
theorem compOut_same {w:World} {blk off:Nat} {d:Array Id} (hH:HoldsK eId 2 w blk off d) (q:Nat) (hall:∀ j,j < d.size→keeps d j=true):(compactUpTo d d.size).length=d.size∧CompOut w blk off d (w.drewN q):=by
 have e:compactUpTo d d.size=d.toList:=by rw [compactUpTo_all d _ hall,range_map_get]
 refine ⟨by rw [e]; simp,q,flatK eId 2 d,size_flatK _ _ _,fun t _=>by rw [e],?_⟩
 exact (putRow_self id (Sort.ahead w q) blk off _ (holdsK_ahead eId 2 w q blk off d hH)).symm
set_option maxHeartbeats 4000000 in
set_option maxRecDepth 1000000 in
theorem compactI_calls (blk off cap : Nat) (d : Array Id) (w : World) (hH : HoldsK eId 2 w blk off d) (hsz : d.size ≤ 9223372036854775807) (hcap : d.size ≤ cap) :
    Calls Tryz.prog 128 #[.slice (some ⟨blk,off,none⟩) d.size cap] w fun e w'=>e = .returned (.slice (some ⟨blk,off,none⟩) (compactUpTo d d.size).length cap)∧CompOut w blk off d w':=by
  have mixed:Tryz.prog.follows Departure.mixedOrders=true:=rfl
  have HS:Aside (∀ q,(∀ j,j < d.size→keeps d j=true)→(compactUpTo d d.size).length=d.size∧CompOut w blk off d (w.drewN q)):=fun q=>compOut_same hH q
  by_cases h2:d.size < 2
  · have HH:Aside (HoldsK eId 2 w blk off d):=hH
    clear hH
    go_enter Tryz.func128,Tryz.ntmps128
    go_wp2
    go_ret
    obtain ⟨e1,e2⟩:=HS.out 0 (fun j hj=>keeps_lt_one d j (by omega))
    exact ⟨by rw [e1]; rfl,e2⟩
  · go_enter Tryz.func128,Tryz.ntmps128
    go_wp2
    go_loopg [3] d.size (fun g s3 wr=>∃ k q:Nat,1≤k∧k≤d.size∧d.size - k≤g∧s3 = .int .i64 k∧wr=w.drewN q∧∀ j,j < k→keeps d j=true)
    case atStart=>exact ⟨1,0,Nat.le_refl _,by omega,by omega,rfl,rfl,keeps_lt_one d⟩
    case round =>
      obtain ⟨k,q,hk1,hk,hg,rfl,rfl,hall⟩:=hrel
      by_cases hlt:k < d.size
      · obtain ⟨c1,c1',f1,f1'⟩:=holdsK_two hH hlt
        obtain ⟨c0,c0',f0,f0'⟩:=holdsK_two hH (i:=k - 1) (by omega)
        have A:Aside (∀ j,j < k→keeps d j=true):=hall
        have HH:Aside (HoldsK eId 2 w blk off d):=hH
        clear hall hH f1 f1' f0 f0'
        generalize hx:d[k]! = x at c1 c1'
        generalize hy:d[k - 1]! = y at c0 c0'
        have B:Aside (d[k]! = x∧d[k - 1]! = y):=⟨hx,hy⟩
        clear hx hy
        by_cases hdup:x=y
        · subst hdup
          go_wp2_with fail
          go_region_o
          go_wp2
          clear c0 c1 c0' c1'
          go_loopg [3,5] d.size (fun g s3 s5 wr=>∃ (kk k2 q2:Nat) (dk:Array Id),s3 = .int .i64 kk∧s5 = .int .i64 k2∧1≤k2∧k + k2≤d.size∧d.size - (k + k2)≤g∧wr=putRowK eId 2 (Sort.ahead w q2) blk off dk∧CompInv d (k + k2) kk dk)
          case atStart=>exact ⟨k,1,q + 1,d,rfl,rfl,Nat.le_refl _,by omega,by omega,(putRowK_self eId 2 (Sort.ahead w (q + 1)) blk off d (holdsK_ahead eId 2 w (q + 1) blk off d HH.out)).symm,CompInv.start A.out (keeps_neg (by omega) (by rw [B.out.1,B.out.2]))⟩
          case round =>
            obtain ⟨kk,k2,q2,dk,rfl,rfl,h1,hle,hg2,hwr,hI⟩:=hrel
            have hkk:=hI.lt
            have hds:=hI.size
            have hHk:HoldsK eId 2 wr blk off dk:=by rw [hwr]; exact holdsK_putRowK eId 2 _ blk off d dk (holdsK_ahead eId 2 w q2 blk off d HH.out) hds
            have W2:Aside (wr=putRowK eId 2 (Sort.ahead w q2) blk off dk):=hwr
            have I2:Aside (CompInv d (k + k2) kk dk):=hI
            clear hwr
            by_cases hlt2:k + k2 < d.size
            · obtain ⟨cm,cm',-,-⟩:=holdsK_two hHk (i:=k + k2) (by omega)
              obtain ⟨cp,cp',-,-⟩:=holdsK_two hHk (i:=k + k2 - 1) (by omega)
              obtain ⟨ck,ck',fk,fk'⟩:=holdsK_two hHk (i:=kk) (by omega)
              rw [hI.high (k + k2) (by omega),show off + (k + k2) * 2=off + k * 2 + k2 * 2 by omega] at cm cm'
              rw [hI.high (k + k2 - 1) (by omega),show off + (k + k2 - 1) * 2=off + k * 2 + (k2 - 1) * 2 by omega] at cp cp'
              clear hHk hI
              generalize hu:d[k + k2]! = u at cm cm'
              generalize hv:d[k + k2 - 1]! = v at cp cp'
              generalize dk[kk]! = old at ck ck'
              have C:Aside (d[k + k2]! = u∧d[k + k2 - 1]! = v):=⟨hu,hv⟩
              clear hu hv
              by_cases huv:u=v
              · subst huv
                go_wp2_with fail
                go_region_o
                go_wp2
                go_roundg (d.size - (k + (k2 + 1)))
                case measure=>omega
                case rel=>exact ⟨kk,k2 + 1,q2 + 1,dk,rfl,by go_num,by omega,by omega,Nat.le_refl _,by rw [W2.out]; rfl,I2.out.skip (keeps_neg (by omega) (by rw [C.out.1,C.out.2]))⟩
              · have N:Aside (u≠v):=huv
                obtain ⟨ur,un⟩:=u
                obtain ⟨vr,vn⟩:=v
                simp only at cm cm' cp cp'
                by_cases hr:ur=vr
                · subst hr
                  have hn:un≠vn:=fun e=>huv (by rw [e])
                  clear huv
                  go_wp2_with fail
                  go_region_o
                  go_wp2
                  go_roundg (d.size - (k + (k2 + 1)))
                  case measure=>omega
                  case rel =>
                    refine ⟨kk + 1,k2 + 1,q2 + 1,dk.setIfInBounds kk ⟨ur,un⟩,by go_num,by go_num,by omega,by omega,Nat.le_refl _,?_,?_⟩
                    · exact store_world_id (wr:=wr.drew) (n:=q2 + 1) (by omega) (by rw [W2.out]; rfl) ⟨ur,un⟩
                    · have:=I2.out.keep hlt2 (keeps_pos (by rw [C.out.1,C.out.2]; exact N.out)); rwa [C.out.1] at this
                · clear huv
                  go_wp2_with fail
                  go_region_o
                  go_wp2
                  go_roundg (d.size - (k + (k2 + 1)))
                  case measure=>omega
                  case rel =>
                    refine ⟨kk + 1,k2 + 1,q2 + 1,dk.setIfInBounds kk ⟨ur,un⟩,by go_num,by go_num,by omega,by omega,Nat.le_refl _,?_,?_⟩
                    · exact store_world_id (wr:=wr.drew) (n:=q2 + 1) (by omega) (by rw [W2.out]; rfl) ⟨ur,un⟩
                    · have:=I2.out.keep hlt2 (keeps_pos (by rw [C.out.1,C.out.2]; exact N.out)); rwa [C.out.1] at this
            · have hend:k + k2=d.size:=by omega
              obtain ⟨zs,hzl,hcl⟩:∃ zs:List Value,zs.length=(d.size - kk) * 2∧∀ ty,(Builtin.clear_ #[44] ty #[.slice (some ⟨blk,off + kk * 2,none⟩) (d.size - kk) (cap - kk)]).run Tryz.prog wr = .ok (.tuple #[]) (wr.setCells blk (off + kk * 2) zs):=by
                obtain ⟨zs,h1,h2⟩:=run_clear_cells (P:=Tryz.prog) wr 44 43 0 (.agg #[.int .i64 0,.int .i64 0]) rfl (fun _=>by kernel_rfl) (by intro v hv; simp [Value.cells] at hv; rcases hv with rfl | rfl <;> rfl) blk (off + kk * 2) (d.size - kk) (cap - kk) (by omega)
                  (fun j hj=>by
                    have hj':j < (d.size - kk) * 2:=hj
                    have:=(hHk (kk * 2 + j) (by rw [size_flatK]; omega)).1
                    rw [← Nat.add_assoc] at this
                    rw [this]; rfl) (fun j hj=>by
                    have hj':j < (d.size - kk) * 2:=hj
                    have:=(hHk (kk * 2 + j) (by rw [size_flatK]; omega)).2
                    rwa [← Nat.add_assoc] at this)
                exact ⟨zs,h1,fun ty=>h2⟩
              clear hHk hI
              go_wp2
              go_ret
              have hI:=I2.out
              rw [hend] at hI
              refine ⟨by rw [hI.len]; rfl,q2,setMany (flatK eId 2 dk) (kk * 2) zs,by simp [hI.size],fun t ht=>?_,?_⟩
              · rw [hI.len] at ht
                have hts:t < dk.size * 2:=by have:=hI.size; omega
                have hq:t / 2 < kk:=by omega
                rw [get_setMany _ _ _ t (by rw [size_flatK]; exact hts),if_neg (by omega),get_flatK _ _ _ _ hts,get_flatK _ _ _ _ (by simp [hI.len]; omega)]
                have:=hI.low (t / 2) hq
                rw [show (compactUpTo d d.size).toArray[t / 2]! = dk[t / 2]! by simp [this]]
              · rw [W2.out]
                unfold putRowK
                exact setCells_putRow _ _ _ _ _ _ (by rw [size_flatK,hzl]; have:=hI.size; omega)
        · have B':Aside (x≠y):=hdup
          obtain ⟨xr,xn⟩:=x
          obtain ⟨yr,yn⟩:=y
          simp only at c0 c0' c1 c1'
          by_cases hr:xr=yr
          · subst hr
            have hn:xn≠yn:=fun e=>hdup (by rw [e])
            clear hdup
            go_wp2_with fail
            go_region_o
            go_wp2
            go_roundg (d.size - (k + 1))
            case measure=>omega
            case rel =>
              refine ⟨k + 1,q + 1,by omega,by omega,Nat.le_refl _,by go_num,rfl,fun j hj=>?_⟩
              by_cases e:j=k
              · subst e
                exact keeps_pos (by rw [B.out.1,B.out.2]; exact B'.out)
              · exact A.out j (by omega)
          · clear hdup
            go_wp2_with fail
            go_region_o
            go_wp2
            go_roundg (d.size - (k + 1))
            case measure=>omega
            case rel =>
              refine ⟨k + 1,q + 1,by omega,by omega,Nat.le_refl _,by go_num,rfl,fun j hj=>?_⟩
              by_cases e:j=k
              · subst e
                exact keeps_pos (by rw [B.out.1,B.out.2]; exact B'.out)
              · exact A.out j (by omega)
      · have:k=d.size:=by omega
        subst this
        have HH:Aside (HoldsK eId 2 w blk off d):=hH
        clear hH
        go_wp2
        go_ret
        obtain ⟨e1,e2⟩:=HS.out q hall
        exact ⟨by rw [e1]; rfl,e2⟩
set_option maxHeartbeats 1000000 in
theorem compactI_nil (w:World):Calls Tryz.prog 128 #[.slice none 0 0] w fun e w'=>e = .returned (.slice none 0 0)∧w'=w:=by
 go_enter Tryz.func128,Tryz.ntmps128
 go_wp2
 go_ret
 exact ⟨rfl,rfl⟩
end Go.Proofs.YtfdolehffjmdmaaGreatDoor
/- slices.Compact at ids: as a contract: an array becomes a list. -/
namespace Go.Proofs.YtfdolehffjmdmaaGreatDoor
open Go.RowKit
open Go.Sort (flatK putRowK HoldsK size_flatK get_flatK putCells mapBlock onCells)
theorem flat_id:Flat cId eId 2 where
 k0:=by omega
 len:=fun _=>rfl
 lenp:=fun _=>rfl
 one:=eId_one
 fit:=fun S w a j p h=>by
  rcases j with _ | _ | j
  ·
   cases h; exact .int _ _
  ·
   cases h; exact .int _ _
  ·
   simp [cId] at h
 back:=fun S w a j p u h hr=>by
  rcases j with _ | _ | j
  ·
   cases h; cases hr; rfl
  ·
   cases h; cases hr; rfl
  ·
   simp [cId] at h
section
variable {x:Cx} {C:Conc} {H:List AObj} {w w':World}
theorem HR.dropNil (hr : HR x C H w) {id v T sz : Nat} {sto ipu : Bool} (hid : H[id]? = some (.arr v sto ipu T sz [])) :
    HR x C (H.set id .gone) w∧(∀ p u,RepV (Stab x C H w) w C p u→RepV (Stab x C (H.set id .gone) w) w C p u) :=
  hr.change (C':=C) hid (ob' := .gone) (step_refl w) rfl (fun _=>rfl) (fun _ _=>⟨rfl,rfl⟩) (.inl ⟨rfl,rfl⟩) (fun b o hb hf=>trivial) (fun b o hb hf=>rfl) (fun b hb=>hb.elim) (fun _ _=>trivial)
theorem row_worldF (w : World) (g m : Nat) (F : Array Value) {cur : Array Value} {T : TypeId} {fr : Nat × Nat} (hc : w.heap[g]? = some (.cells cur T fr)) :
    ∃ cur':Array Value,(Go.Sort.putRow id (Go.Sort.ahead w m) g 0 F).heap[g]? = some (.cells cur' T fr)∧cur'.size=cur.size ∧
      (∀ t y,t < F.size→cur'[t]? = some y→y=F[t]!)∧Step w (Go.Sort.putRow id (Go.Sort.ahead w m) g 0 F) (fun b=>b=g):=by
  have hlt:g < w.heap.size:=(Array.getElem?_eq_some_iff.1 hc).1
  have hh:(Go.Sort.putRow id (Go.Sort.ahead w m) g 0 F).heap=w.heap.modify g (onCells (putCells id 0 F)):=rfl
  refine ⟨putCells id 0 F cur,?_,by simp [putCells],fun t y ht hy=>?_,?_⟩
  · rw [hh,Array.getElem?_modify,if_pos rfl,hc]
    rfl
  · rw [putCells,Array.getElem?_mapIdx] at hy
    cases hcu:cur[t]? with
    | none=>rw [hcu] at hy; cases hy
    | some z =>
      rw [hcu,Option.map_some,if_pos ⟨Nat.zero_le _,by omega⟩] at hy
      exact (Option.some.inj hy).symm
  · refine ⟨by rw [hh]; simp,rfl,rfl,rfl,fun b hb hne=>?_⟩
    rw [hh,Array.getElem?_modify,if_neg (fun e=>hne e.symm)]
end
theorem one_arg {vs:Array Value} (h:vs.toList.length=1):∃ a,vs=#[a]∧vs.toList[0]? = some a:=by
 obtain ⟨l⟩:=vs
 obtain ⟨a,rfl⟩:=List.length_eq_one_iff.1 h
 exact ⟨a,rfl,rfl⟩
theorem two_args {vs:Array Value} (h:vs.toList.length=2):∃ a b,vs=#[a,b]∧vs.toList[0]? = some a∧vs.toList[1]? = some b:=by
 obtain ⟨l⟩:=vs
 match l,h with
 | [a,b],_=>exact ⟨a,b,rfl,rfl,rfl⟩
def compI (l:List Id):List Id:=Lib.compact l
theorem compactIds_meets (l : List Id) (v T : Nat) (hl : l.length ≤ 9223372036854775807) :
    Meets Tryz.prog 128 [.arr 0 v] [.arr v true false T 2 (l.map cId)] (.list ((compI l).map cId)) [.gone]:=by
  intro x vs hx h0 hp
  obtain ⟨a,rfl,h1⟩:=one_arg hp.1
  have ha:=hp.2 0 _ _ rfl h1
  obtain ⟨e1,e2,e3⟩:=h0.row (id:=0) rfl ha
  rcases e3 with ⟨rfl,hnil⟩ | ⟨g,cap,cur,rfl,hc,hcap,hm,hz,hrow⟩
  · have:l = []:=by simpa using hnil
    subst this
    refine (compactI_nil x.w0).mono ?_
    rintro e w' ⟨rfl,rfl⟩
    obtain ⟨k1,k2⟩:=h0.dropNil (id:=0) (v:=v) (T:=T) (sz:=2) rfl
    exact ⟨_,x.C0,rfl,k1,.pure repP_nil⟩
  · have hH:=flat_id.holds l hc hrow
    have key:=compactI_calls g 0 cap l.toArray x.w0 hH (by simpa using hl) (by simpa using hcap)
    rw [List.length_map]
    refine Calls.mono key ?_
    rintro e w' ⟨rfl,q,F,f1,f2,rfl⟩
    obtain ⟨cur',c1,c2,c3,c4⟩:=row_worldF x.w0 g q F hc
    have hown:(x.C0.sv 0).ownBlock=some g:=by rw [← e1]; rfl
    have hle:(compI l).length≤l.length:=by
      show (Lib.compactUpTo l.toArray l.length).length≤_
      unfold Lib.compactUpTo
      rw [List.length_map]
      exact Nat.le_trans (List.length_filter_le _ _) (by simp)
    have hcl:((compI l).map cId).length≤cap:=by rw [List.length_map]; rw [List.length_map] at hcap; omega
    obtain ⟨k1,k2,k3⟩:=h0.drop (id:=0) (g:=g) (cap':=cap) (rows':=(compI l).map cId) (cur':=cur') rfl
      ⟨c4.size,c4.os,c4.tape,c4.output,fun b hb hne=>c4.blk b hb fun e=>hne (by rw [hown,e])⟩ hown c1 hcl hm (by rw [c2,hz])
      (fun row hr=>by obtain ⟨y,-,rfl⟩:=List.mem_map.1 hr; rfl)
      (fun k row j p u a b c=>(flat_id.rep (d':=(compI l).toArray) (cur':=cur') (fun t y ht hy=>by
        rw [c3 t y (by rw [f1]; simp at ht ⊢; omega) hy]
        refine f2 t ?_
        rw [List.size_toArray] at ht
        rw [List.size_toArray]
        exact ht) (compI l).length (fun i hi=>by simp [hi]) rfl (by simp) k row j p u a b c).2)
    refine ⟨_,x.C0,rfl,k1,.pure ?_⟩
    rw [List.length_map] at k3
    exact k3
end Go.Proofs.YtfdolehffjmdmaaGreatDoor
/- slices.Delete of one element of k cells: in memory,and as a contract. -/
namespace Go.Proofs.YtfdolehffjmdmaaGreatDoor
open Go.RowKit Go.Lib Go.Sort
open Go.Shelf
def DelF (k n i:Nat) (cs F:Array Value):Prop:=F.size=cs.size∧∀ t,t < (n - 1) * k→F[t]! = if t < i * k then cs[t]! else cs[t + k]!
def DelOut (k n i:Nat) (w:World) (blk:Nat) (cs:Array Value) (w':World):Prop:=∃ (q:Nat) (F:Array Value),DelF k n i cs F∧w'=putRow id (Sort.ahead w q) blk 0 F
theorem delF_of {k n i : Nat} {cs : Array Value} (hz : n * k ≤ cs.size) (hi : i < n) (news zs : List Value) (hn : news.length = (n - (i + 1)) * k) (hnew : ∀ t, t < news.length → news[t]! = cs[(i + 1) * k + t]!) :
    DelF k n i cs (setMany (setMany cs (i * k) news) ((n - 1) * k) zs):=by
  refine ⟨by simp,fun t ht=>?_⟩
  obtain ⟨m,rfl⟩:∃ m,n=i + 1 + m:=⟨n - (i + 1),by omega⟩
  have e1:i + 1 + m - (i + 1)=m:=by omega
  have e2:i + 1 + m - 1=i + m:=by omega
  rw [e1] at hn
  rw [e2] at ht ⊢
  have e3:(i + 1 + m) * k=i * k + k + m * k:=by rw [Nat.add_mul,Nat.add_mul,Nat.one_mul]
  have e4:(i + m) * k=i * k + m * k:=Nat.add_mul _ _ _
  have e5:(i + 1) * k=i * k + k:=by rw [Nat.add_mul,Nat.one_mul]
  rw [e3] at hz
  rw [e4] at ht ⊢
  rw [e5] at hnew
  rw [get_setMany _ _ _ t (by simp; omega),if_neg (by omega),get_setMany _ _ _ t (by omega)]
  by_cases h:t < i * k
  · rw [if_neg (by omega),if_pos h]
  · rw [if_pos (by omega),if_neg h,hnew _ (by omega),show i * k + k + (t - i * k)=t + k by omega]
theorem three_args {vs:Array Value} (h:vs.toList.length=3):∃ a b c,vs=#[a,b,c]∧vs.toList[0]? = some a∧vs.toList[1]? = some b∧vs.toList[2]? = some c:=by
 obtain ⟨l⟩:=vs
 match l,h with
 | [a,b,c],_=>exact ⟨a,b,c,rfl,rfl,rfl,rfl⟩
theorem del_rep {S : Nat → Nat → Prop} {w : World} {rows : List (List PV)} {cur cur' F : Array Value} {sz n i : Nat} (hn : rows.length = n) (hi : i < n) (hz : ∀ row ∈ rows, row.length = sz) (hcs : n * sz ≤ cur.size) (hF : DelF sz n i cur F)
    (hc':∀ t y,t < F.size→cur'[t]? = some y→y=F[t]!)
    (hrow:∀ (k:Nat) row (j:Nat) p,rows[k]? = some row→row[j]? = some p→∃ y,cur[k * sz + j]? = some y∧y.oneCell'=true∧RepP S w p y) :
    ∀ (k:Nat) row (j:Nat) p u,(rows.eraseIdx i)[k]? = some row→row[j]? = some p→cur'[k * sz + j]? = some u→u.oneCell'=true∧RepP S w p u:=by
  intro k row j p u a b c
  have hk:k < n - 1:=by
    have:=(List.getElem?_eq_some_iff.1 a).1
    rw [List.length_eraseIdx,if_pos (by omega)] at this; omega
  have hj:j < sz:=by rw [← hz row (List.mem_of_mem_eraseIdx (List.mem_of_getElem? a))]; exact (List.getElem?_eq_some_iff.1 b).1
  have hle:(k + 1) * sz≤(n - 1) * sz:=Nat.mul_le_mul_right _ (by omega)
  have hle2:(n - 1) * sz≤n * sz:=Nat.mul_le_mul_right _ (by omega)
  rw [Nat.add_mul,Nat.one_mul] at hle
  have hu:=hc' _ _ (by rw [hF.1]; omega) c
  rw [hF.2 _ (by omega)] at hu
  rw [List.getElem?_eraseIdx] at a
  by_cases hki:k < i
  · rw [if_pos hki] at a
    have:(k + 1) * sz≤i * sz:=Nat.mul_le_mul_right _ (by omega)
    rw [Nat.add_mul,Nat.one_mul] at this
    rw [if_pos (by omega)] at hu
    obtain ⟨y,y1,y2,y3⟩:=hrow k row j p a b
    obtain ⟨y4,y5⟩:=Array.getElem?_eq_some_iff.1 y1
    rw [getElem!_pos cur _ y4,y5] at hu
    subst hu
    exact ⟨y2,y3⟩
  · rw [if_neg hki] at a
    have:i * sz≤k * sz:=Nat.mul_le_mul_right _ (by omega)
    rw [if_neg (by omega)] at hu
    obtain ⟨y,y1,y2,y3⟩:=hrow (k + 1) row j p a b
    rw [show (k + 1) * sz + j=k * sz + j + sz by rw [Nat.add_mul,Nat.one_mul]; omega] at y1
    obtain ⟨y4,y5⟩:=Array.getElem?_eq_some_iff.1 y1
    rw [getElem!_pos cur _ y4,y5] at hu
    subst hu
    exact ⟨y2,y3⟩
theorem holds_cur {w:World} {g T:Nat} {cur:Array Value} (hc:w.heap[g]? = some (.cells cur T (0,0))):Holds id w g 0 cur:=by
 intro t ht
 refine ⟨?_,?_⟩
 ·
  simp [World.cell?,hc,getElem!_pos cur t ht,ht]
 ·
  simp [World.frozen?,hc]
set_option maxHeartbeats 4000000 in
set_option maxRecDepth 1000000 in
theorem delE_calls (blk off cap n i j : Nat) (cs : Array Value) (w : World) (h0 : off = 0) (hj : j = i + 1) (hH : Holds id w blk off cs) (hz : cs.size = cap * 5) (h1 : ∀ t, t < n * 5 → (cs[t]!).oneCell' = true) (hn : n ≤ cap) (hm : cap ≤ 9223372036854775807) (hi : i < n) :
    Calls Tryz.prog 147 #[.slice (some ⟨blk,off,none⟩) n cap,.int .i64 i,.int .i64 j] w fun e w'=>e = .returned (.slice (some ⟨blk,off,none⟩) (n - 1) cap)∧DelOut 5 n i w blk cs w':=by
  have mixed:Tryz.prog.follows Departure.mixedOrders=true:=rfl
  have hcz:n * 5≤cs.size:=by rw [hz]; exact Nat.mul_le_mul_right _ hn
  obtain ⟨news,hnews⟩:∃ news:List Value,news=(List.range ((n - j) * 5)).map fun t=>cs[j * 5 + t]! := ⟨_,rfl⟩
  have hlen:news.length=(n - j) * 5:=by rw [hnews]; simp
  have hget:∀ t u,news[t]? = some u→t < (n - j) * 5∧u=cs[j * 5 + t]! := by
    intro t u hu
    have ht:t < news.length:=(List.getElem?_eq_some_iff.1 hu).1
    rw [hlen] at ht
    rw [hnews,List.getElem?_map,List.getElem?_range ht] at hu
    exact ⟨ht,(Option.some.inj hu).symm⟩
  obtain ⟨A,hA,hsrc⟩:∃ A:Addr,(if cap=j then some (⟨blk,off,none⟩:Addr) else some ⟨blk,off + j * 5,none⟩)=some A∧Hid (∀ t u,news[t]? = some u→w.drew.cell? (A.add t)=some u):=by
    by_cases h:cap=j
    · refine ⟨⟨blk,off,none⟩,by simp [h],fun t u hu=>?_⟩
      have:=(hget t u hu).1
      have e:n - j=0:=by omega
      rw [e] at this; omega
    · refine ⟨⟨blk,off + j * 5,none⟩,by simp [h],fun t u hu=>?_⟩
      obtain ⟨ht,rfl⟩:=hget t u hu
      rw [Addr.add_lit,Nat.add_assoc]
      exact (hH _ (by omega)).1
  have s1:Hid (news.length=(n - j) * 5):=hlen
  have s2:Hid (∀ u ∈ news,u.oneCell'=true):=by
    intro u hu
    obtain ⟨t,ht,rfl⟩:=List.getElem_of_mem hu
    obtain ⟨h2,h3⟩:=hget t _ (List.getElem?_eq_getElem ht)
    rw [h3]
    exact h1 _ (by omega)
  have s3:Hid (∀ t,t < news.length→(w.drew.cell? ⟨blk,off + i * 5 + t,none⟩).isSome=true∧w.drew.frozen? ⟨blk,off + i * 5 + t,none⟩=false):=by
    intro t ht
    rw [hlen] at ht
    rw [Nat.add_assoc]
    exact ⟨by show (w.cell? _).isSome=true; rw [(hH (i * 5 + t) (by omega)).1]; rfl,(hH (i * 5 + t) (by omega)).2⟩
  obtain ⟨W1,hW1⟩:∃ W1,W1=w.drew.setCells blk (off + i * 5) news:=⟨_,rfl⟩
  have hput:W1=putRow id (Sort.ahead w 1) blk off (setMany cs (i * 5) news):=by
    rw [hW1,← setCells_putRow _ _ _ _ _ _ (by omega),putRow_self id (Sort.ahead w 1) blk off cs (holds_ahead id w 1 blk off cs hH)]
    rfl
  have hH1:Holds id W1 blk off (setMany cs (i * 5) news):=by rw [hput]; exact holds_putRow id _ blk off cs _ (holds_ahead id w 1 blk off cs hH) (by simp)
  obtain ⟨zs,hzl,hcl⟩:∃ zs:List Value,zs.length=(n - (i + (n - j))) * 5∧∀ ty,(Builtin.clear_ #[22] ty #[.slice (some ⟨blk,off + (i + (n - j)) * 5,none⟩) (n - (i + (n - j))) (cap - (i + (n - j)))]).run Tryz.prog W1 = .ok (.tuple #[]) (W1.setCells blk (off + (i + (n - j)) * 5) zs):=by
    obtain ⟨zs,e1,e2⟩:=run_clear_cells (P:=Tryz.prog) W1 22 46 0 (.agg #[.int .i64 0,.int .i64 0,.int .i64 0,.string ⟨#[]⟩,.slice none 0 0]) rfl (fun _=>by kernel_rfl) (by intro v hv; simp [Value.cells] at hv; first | (rcases hv with rfl | rfl | rfl <;> rfl) | (rcases hv with rfl | rfl | rfl | rfl | rfl <;> rfl)) blk (off + (i + (n - j)) * 5) (n - (i + (n - j))) (cap - (i + (n - j))) (by omega)
      (fun s hs=>by
        have hs':s < (n - (i + (n - j))) * 5:=hs
        have:=(hH1 ((i + (n - j)) * 5 + s) (by rw [size_setMany]; omega)).1
        rw [← Nat.add_assoc] at this
        rw [this]; rfl) (fun s hs=>by
        have hs':s < (n - (i + (n - j))) * 5:=hs
        have:=(hH1 ((i + (n - j)) * 5 + s) (by rw [size_setMany]; omega)).2
        rwa [← Nat.add_assoc] at this)
    exact ⟨zs,e1,fun ty=>e2⟩
  have fin:Aside (DelOut 5 n i w blk cs (W1.setCells blk (off + (i + (n - j)) * 5) zs)):=by
    subst h0 hj
    refine ⟨1,_,delF_of hcz hi news zs hlen (fun t ht=>?_),?_⟩
    · rw [getElem!_pos news t ht]
      exact (hget t _ (List.getElem?_eq_getElem ht)).2
    · rw [hput,setCells_putRow _ _ _ _ _ _ (by rw [size_setMany,hzl]; omega),show i + (n - (i + 1))=n - 1 by omega]
  have hW:Hid (W1=w.drew.setCells blk (off + i * 5) news):=hW1
  have hic:i≤cap:=by omega
  have hjc:j≤cap:=by omega
  obtain ⟨i0,hi0,hz0,hz1,hz2⟩:=info_parts (P:=Tryz.prog) (e:=46) (z := .agg #[.int .i64 0,.int .i64 0,.int .i64 0,.string ⟨#[]⟩,.slice none 0 0]) (size:=5) (bytes:=64) (by kernel_rfl)
  clear hput hW1 hH1 hH hget hnews hlen h1 hz hcz h0
  have hij:¬ i=j:=by omega
  have hijle:i≤j:=by omega
  have hjn:j≤n:=by omega
  have hA':Hid (j=i + 1):=hj
  clear hj
  go_enter Tryz.func147,Tryz.ntmps147
  go_wp2_with fail
  go_region_law_o (refine step_append_room rfl (.tmp 22) (.tmp 25) 22 rfl 46 i0 5 rfl hi0 hz1 blk off i cap (by simp [Act.eval,Act.put]) A (n - j) (cap - j) news (by simp [Act.eval,Act.put]) s1.out hsrc.out s2.out (by omega) s3.out ?_; rw [← hW.out])
  go_wp2
  go_ret
  have hj:=hA'.out
  exact ⟨by rw [show n - 1=i + (n - j) by omega]; rfl,fin.out⟩
theorem delE_meets (rows : List (List PV)) (v T i : Nat) (hi : i < rows.length) :
    Meets Tryz.prog 147 [.arr 0 v,.int .i64 i,.int .i64 ((i + 1:Nat):Int)] [.arr v true false T 5 rows] (.arr 0 (v + 1)) [.arr (v + 1) true false T 5 (rows.eraseIdx i)]:=by
  intro x vs hx h0 hp
  obtain ⟨a,b,c,rfl,p1,p2,p3⟩:=three_args hp.1
  have ha:=hp.2 0 _ _ rfl p1
  obtain rfl:=(hp.2 1 _ _ rfl p2).int_inv
  obtain rfl:=(hp.2 2 _ _ rfl p3).int_inv
  obtain ⟨e1,e2,e3⟩:=h0.row (id:=0) rfl ha
  rcases e3 with ⟨rfl,hnil⟩ | ⟨g,cap,cur,rfl,hc,hcap,hm,hz,hrow⟩
  · subst hnil; simp at hi
  · have hH:=holds_cur hc
    have hcs:rows.length * 5≤cur.size:=by rw [hz]; exact Nat.mul_le_mul_right _ hcap
    have key:=delE_calls g 0 cap rows.length i (i + 1) cur x.w0 rfl rfl hH hz (fun t ht=>by
      have hk:t / 5 < rows.length:=Nat.div_lt_of_lt_mul (by omega)
      have hj:t % 5 < (rows[t / 5]'hk).length:=by rw [e2 _ (List.getElem_mem hk)]; exact Nat.mod_lt _ (by omega)
      obtain ⟨y,y1,y2,-⟩:=hrow (t / 5) _ (t % 5) _ (List.getElem?_eq_getElem hk) (List.getElem?_eq_getElem hj)
      rw [show t / 5 * 5 + t % 5=t by omega] at y1
      obtain ⟨y4,y5⟩:=Array.getElem?_eq_some_iff.1 y1
      rw [getElem!_pos cur _ y4,y5]; exact y2) hcap (by simp [maxLen] at hm; omega) hi
    refine key.mono ?_
    rintro e w' ⟨rfl,q,F,hF,rfl⟩
    obtain ⟨cur',c1,c2,c3,c4⟩:=row_worldF x.w0 g q F hc
    have hown:(x.C0.sv 0).ownBlock=some g:=by rw [← e1]; rfl
    have hlen:(rows.eraseIdx i).length=rows.length - 1:=by rw [List.length_eraseIdx,if_pos hi]
    obtain ⟨C',k1,k2,k3⟩:=h0.rerow (id:=0) (v':=v + 1) (g':=g) (cap':=cap) (rows':=rows.eraseIdx i) (cur':=cur') rfl (by
      refine ⟨c4.size,c4.os,c4.tape,c4.output,fun b hb hne=>c4.blk b hb fun e=>hne (by rw [hown,e])⟩) (.inl hown) (.inr (by omega)) c1 (by rw [hlen]; omega) hm (by rw [c2,hz])
      (fun row hr=>e2 row (List.mem_of_mem_eraseIdx hr)) (del_rep rfl hi e2 hcs hF c3 hrow)
    rw [hlen] at k3
    exact ⟨_,C',rfl,k1,k3⟩
end Go.Proofs.YtfdolehffjmdmaaGreatDoor
/- slices.Insert of one element of k cells: in memory. -/
namespace Go.Proofs.YtfdolehffjmdmaaGreatDoor
open Go.RowKit Go.Lib Go.Sort
open Go.Shelf
def InsF (k n i:Nat) (cs:Array Value) (vs:List Value) (F:Array Value):Prop:=∀ t,t < (n + 1) * k→F[t]! = if t < i * k then cs[t]! else if t < i * k + k then vs[t - i * k]! else cs[t - k]!
theorem run_overlaps_own {P : Program} (w : World) (tS tR e : TypeId) (ht : P.underlying tS = some (.slice e)) (size : Nat) (hz : ∀ w, (Go.sizeOf e).run P w = .ok size w)
    (a b:Addr) (la ca lb cb:Nat) (hne:a.block≠b.block) (tA tB:TypeId) (kA kB:Nat)
    (hsa:w.shape? a.block=some (tA,kA)) (hsb:w.shape? b.block=some (tB,kB)) (hkB:kB≠0) (hkA:kA≠0)
    (hfa:w.frozen? b=false) (hfe:w.frozen? { block:=b.block,off:=kB }=false) :
    (Extern.SlicesOverlaps.overlaps #[tS,tS] #[tR] #[.slice (some a) la ca,.slice (some b) lb cb]).run P w = .ok (.bool false) w:=by
  have hnb:(a.block != b.block)=true:=by simpa using hne
  have hnb':(a.block == b.block)=false:=by simpa using hne
  change Sem.run P (α:=Value) (do
    let some t := (#[tS, tS] : Array TypeId)[0]? | stuck "slices.overlaps: no parameter types"
    let .slice elem ← underlying t | stuck "slices.overlaps: slice type expected"
    let size ← sizeOf elem
    match (some a:Option Addr),(some b:Option Addr) with
    | some a,some b =>
      if la=0∨lb=0∨size=0 then pure (Value.bool false)
      else if a.block != b.block && (← frozen a) && (← frozen b) then unsupported .addressObserved
      else do
        if a.block != b.block then do
          noView a; noView b
          if ← mayBeOne a b then return Value.bool ((← choose (.extern "sameAddr.stringBytes" 2)) == 1)
        pure (Value.bool (a.block == b.block && a.off < b.off + lb * size && b.off < a.off + la * size))
    | _,_=>pure (Value.bool false)) w=_
  by_cases h0:la=0∨lb=0∨size=0
  · simp [run_underlying ht,hz,h0]
  · cases kB with
    | zero=>exact absurd rfl hkB
    | succ kB =>
     cases kA with
     | zero=>exact absurd rfl hkA
     | succ kA =>
      cases h1:w.frozen? a <;> cases h2:w.frozen? { block:=a.block,off:=kA + 1 } <;>
        simp [run_underlying ht,hz,h0,hnb,hnb',frozen,noView,viewAt,mayBeOne,stringish,shape,Sem.run,hsa,hsb,hfa,hfe,h1,h2]
theorem run_copy_cellsK {P : Program} (w : World) (dT sT ty elem : TypeId) (k : Nat) (b o dLen dCap : Nat) (a : Addr) (sLen sCap m : Nat) (cs : List Value)
    (hu:P.underlying dT=some (.slice elem)) (hs:(P.info? elem).map (·.size)=some k) (hm:m=Nat.min sLen dLen) (hn:cs.length=m * k)
    (hsrc:∀ j v,cs[j]? = some v→w.cell? (a.add j)=some v) (hc:∀ j,j < cs.length→(w.cell? ⟨b,o + j,none⟩).isSome=true) (hf:∀ j,j < cs.length→w.frozen? ⟨b,o + j,none⟩=false) (h1:∀ v ∈ cs,v.oneCell'=true) :
    (Builtin.copy_ #[dT,sT] ty #[.slice (some ⟨b,o,none⟩) dLen dCap,.slice (some a) sLen sCap]).run P w = .ok (goInt m) (w.setCells b o cs):=by
  have hl:=run_loadCells_list (P:=P) w a cs hsrc
  have hst:=run_storeCells_cells (P:=P) b o cs 0 w (by simpa using hc) (by simpa using hf) h1
  cases hq:P.info? elem with
  | none=>simp [hq] at hs
  | some i =>
    have hi:i.size=k:=by simpa [hq] using hs
    rw [hn] at hl
    simp [Builtin.copy_,run_underlying hu,Builtin.lenOf,Builtin.firstCells,sizeOf,typeInfo,hq,hi,← hm,hl,hst]
def seg (cs:Array Value) (s m:Nat):List Value:=(List.range m).map fun t=>cs[s + t]!
theorem seg_len (cs:Array Value) (s m:Nat):(seg cs s m).length=m:=by simp [seg]
theorem seg_get {cs:Array Value} {s m t:Nat} {u:Value} (h:(seg cs s m)[t]? = some u):t < m∧u=cs[s + t]! := by
 have ht:t < (seg cs s m).length:=(List.getElem?_eq_some_iff.1 h).1
 rw [seg_len] at ht
 rw [seg,List.getElem?_map,List.getElem?_range ht] at h
 exact ⟨ht,(Option.some.inj h).symm⟩
theorem seg_get! {cs:Array Value} {s m t:Nat} (h:t < m):(seg cs s m)[t]! = cs[s + t]! := by
 rw [getElem!_pos _ t (by rw [seg_len]; exact h)]
 simp [seg]
theorem seg_one {cs:Array Value} {s m e:Nat} (h1:∀ t,t < e→(cs[t]!).oneCell'=true) (he:s + m≤e):∀ v ∈ seg cs s m,v.oneCell'=true:=by
 intro v hv
 obtain ⟨t,ht,rfl⟩:=List.getElem_of_mem hv
 obtain ⟨h2,h3⟩:=seg_get (List.getElem?_eq_getElem ht)
 rw [h3]; exact h1 _ (by omega)
theorem insF_of {k n i : Nat} {cs : Array Value} {vs : List Value} (hz : (n + 1) * k ≤ cs.size) (hi : i ≤ n) (hv : vs.length = k) :
    InsF k n i cs vs (setMany (setMany cs ((i + 1) * k) (seg cs (i * k) ((n - i) * k))) (i * k) vs):=by
  intro t ht
  obtain ⟨m,rfl⟩:∃ m,n=i + m:=⟨n - i,by omega⟩
  have e1:(i + m + 1) * k=i * k + m * k + k:=by rw [Nat.add_mul,Nat.add_mul,Nat.one_mul]
  have e2:(i + 1) * k=i * k + k:=by rw [Nat.add_mul,Nat.one_mul]
  have e3:i + m - i=m:=by omega
  rw [e1] at hz ht
  rw [e2,e3,get_setMany _ _ _ t (by simp; omega),hv]
  by_cases h1:t < i * k
  · rw [if_neg (by omega),if_pos h1,get_setMany _ _ _ t (by omega),if_neg (by omega)]
  · by_cases h2:t < i * k + k
    · rw [if_pos (by omega),if_neg h1,if_pos h2]
    · rw [if_neg (by omega),if_neg h1,if_neg h2,get_setMany _ _ _ t (by omega),seg_len,if_pos (by omega),seg_get! (by omega),show i * k + (t - (i * k + k))=t - k by omega]
theorem wpList_append_room_k {P : Program} (w : World) {ops : Array Oper} {rest : List Oper} {o : Oper} {a : Act} {Q : Exit → Act → World → Prop}
    (hg:o.guard=none) (s x:Operand) (t:TypeId) (hop:o.op=Op.call { callee:=Callee.builtin Builtin.append,args:=#[s,x],argTypes:=#[t,t] })
    (e:TypeId) (i:TypeInfo) (size:Nat) (h1:P.underlying t=some (.slice e)) (h2:P.info? e=some i) (h4:i.size=size)
    (b off n cap:Nat) (hs:a.eval s = .slice (some ⟨b,off,none⟩) n cap) (ad:Addr) (m c:Nat) (news:List Value) (hx:a.eval x = .slice (some ad) m c) (hn:news.length=m * size)
    (hc:∀ j u,news[j]? = some u→w.cell? (ad.add j)=some u) (h1c:∀ u ∈ news,u.oneCell'=true) (hroom:n + m≤cap)
    (hspare:∀ j,j < news.length→(w.cell? ⟨b,off + n * size + j,none⟩).isSome=true∧w.frozen? ⟨b,off + n * size + j,none⟩=false)
    (hK:wpList P ops Q rest (a.put o.dst (.slice (some ⟨b,off,none⟩) (n + m) cap)) (w.setCells b (off + n * size) news)) :
    wpList P ops Q (o :: rest) a w:=by
  refine wpList_plain hg fun K hK'=>?_
  subst h4
  have hrun:=run_append_room_cells (P:=P) w t o.type e i h1 h2 b off n cap ad m c news hn hc h1c hroom (fun j hj=>(hspare j hj).1) (fun j hj=>(hspare j hj).2)
  unfold Oper.wp
  simp [execOp,hop,resolve,invoke,builtin,hs,hx,hrun,Result.andThen]
  exact hK' _ _ hK
set_option maxHeartbeats 4000000 in
set_option maxRecDepth 1000000 in
theorem insE_shift (blk off cap n i m vb voff vc tA kA : Nat) (cs : Array Value) (vs : List Value) (w : World) (h0 : off = 0) (hm1 : m = 1) (hH : Holds id w blk off cs) (hz : cs.size = cap * 5) (h1 : ∀ t, t < n * 5 → (cs[t]!).oneCell' = true)
    (hvl:vs.length=5) (hvs:∀ j v,vs[j]? = some v→w.cell? ⟨vb,voff + j,none⟩=some v) (h1v:∀ v ∈ vs,v.oneCell'=true) (hvb:vb≠blk) (hsa:w.shape? vb=some (tA,kA)) (hkA:kA≠0) (tB:TypeId) (hsb:w.shape? blk=some (tB,cap * 5)) (hfb:∀ o,w.frozen? ⟨blk,o,none⟩=false)
    (hm:cap≤9223372036854775807) (hi:i < n) (hroom:n + m≤cap) :
    Calls Tryz.prog 144 #[.slice (some ⟨blk,off,none⟩) n cap,.int .i64 i,.slice (some ⟨vb,voff,none⟩) m vc] w fun e w'=>e = .returned (.slice (some ⟨blk,off,none⟩) (n + m) cap)∧∃ (q:Nat) (F:Array Value),F.size=cs.size∧InsF 5 n i cs vs F∧w'=putRow id (Sort.ahead w q) blk 0 F:=by
  have mixed:Tryz.prog.follows Departure.mixedOrders=true:=rfl
  have hz1:¬ ((m:Int)=0):=by omega
  have hz2:¬ ((i:Int)=(n:Int)):=by omega
  have hsz:(Tryz.prog.info? 46).map (·.size)=some 5:=by kernel_rfl
  have hov:∀ lb cb,(callFunc 173 #[.slice (some ⟨vb,voff,none⟩) m vc,.slice (some ⟨blk,off + (i + m) * 5,none⟩) lb cb]).run Tryz.prog w = .ok (.value (.bool false)) w:=fun lb cb=>by
    rw [run_callFunc_extern Tryz.func173 (by kernel_rfl) (by kernel_rfl) (by kernel_rfl) (e:=Extern.SlicesOverlaps.overlaps #[22,22] #[4]) (by kernel_rfl),
      run_overlaps_own w 22 4 46 rfl 5 (fun _=>by kernel_rfl) ⟨vb,voff,none⟩ ⟨blk,off + (i + m) * 5,none⟩ m vc lb cb hvb tA tB kA (cap * 5) hsa hsb (by omega) hkA (hfb _) (hfb _)]
    rfl
  have hw1:IntKind.i64.wrap ((i:Int) + (m:Int))=(i:Int) + (m:Int):=by rw [IntKind.wrap_i64]; omega
  have hb1:(0:Int)≤(i:Int) + (m:Int):=by omega
  have hin:i≤n:=by omega
  have htn:((i:Int) + (m:Int)).toNat=i + m:=by omega
  have hb2:¬ (cap=i + m):=by omega
  have hb3:(i:Int)≤(n:Int) + (m:Int):=by omega
  have hb4:¬ (cap=i):=by omega
  have hcz:n * 5≤cs.size:=by rw [hz]; exact Nat.mul_le_mul_right _ (by omega)
  have hcz1:(n + m) * 5≤cs.size:=by rw [hz]; exact Nat.mul_le_mul_right _ hroom
  obtain ⟨news,hnews⟩:∃ news,news=seg cs (i * 5) ((n - i) * 5):=⟨_,rfl⟩
  have hnl:news.length=(n - i) * 5:=by rw [hnews,seg_len]
  have hcp1:∀ ty dc sc,(Builtin.copy_ #[22,22] ty #[.slice (some ⟨blk,off + (i + m) * 5,none⟩) (n + m - (i + m)) dc,.slice (some ⟨blk,off + i * 5,none⟩) (n + m - i) sc]).run Tryz.prog w.drew = .ok (goInt ((n - i:Nat):Int)) (w.drew.setCells blk (off + (i + m) * 5) news):=fun ty dc sc =>
    run_copy_cellsK w.drew _ _ ty 46 5 blk (off + (i + m) * 5) (n + m - (i + m)) dc ⟨blk,off + i * 5,none⟩ (n + m - i) sc (n - i) news rfl hsz (by simp only [Nat.min_def]; split <;> omega) hnl
      (fun j v hj=>by
        rw [hnews] at hj
        obtain ⟨ht,rfl⟩:=seg_get hj
        rw [Addr.add_lit,Nat.add_assoc]; exact (hH _ (by omega)).1)
      (fun j hj=>by rw [hnl] at hj; rw [Nat.add_assoc]; show (w.cell? _).isSome=true; rw [(hH _ (by omega)).1]; rfl) (fun j hj=>by exact hfb _)
      (by rw [hnews]; exact seg_one h1 (by omega))
  obtain ⟨W1,hW1⟩:∃ W1,W1=w.drew.setCells blk (off + (i + m) * 5) news:=⟨_,rfl⟩
  have hput:W1=putRow id (Sort.ahead w 1) blk off (setMany cs ((i + m) * 5) news):=by
    rw [hW1,← setCells_putRow _ _ _ _ _ _ (by omega),putRow_self id (Sort.ahead w 1) blk off cs (holds_ahead id w 1 blk off cs hH)]
    rfl
  have hH1:Holds id W1 blk off (setMany cs ((i + m) * 5) news):=by rw [hput]; exact holds_putRow id _ blk off cs _ (holds_ahead id w 1 blk off cs hH) (by simp)
  have hcp2:∀ (W:World),W=W1→∀ ty dc,(Builtin.copy_ #[22,22] ty #[.slice (some ⟨blk,off + i * 5,none⟩) (n + m - i) dc,.slice (some ⟨vb,voff,none⟩) m vc]).run Tryz.prog W = .ok (goInt m) (W.setCells blk (off + i * 5) vs):=fun W hWc ty dc=>by
    subst hWc
    refine run_copy_cellsK W _ _ ty 46 5 blk (off + i * 5) (n + m - i) dc ⟨vb,voff,none⟩ m vc m vs rfl hsz (by simp only [Nat.min_def]; split <;> omega) (by omega)
      (fun j v hj=>by
        rw [Addr.add_lit,hW1,World.cell?_setCells_out blk _ _ _ _ (fun h _=>absurd h hvb)]
        exact hvs j v hj)
      (fun j hj=>by rw [Nat.add_assoc,(hH1 _ (by rw [size_setMany]; omega)).1]; rfl) (fun j hj=>by rw [Nat.add_assoc]; exact (hH1 _ (by rw [size_setMany]; omega)).2) h1v
  have fin:Aside (∃ (q:Nat) (F:Array Value),F.size=cs.size∧InsF 5 n i cs vs F∧W1.setCells blk (off + i * 5) vs=putRow id (Sort.ahead w q) blk 0 F):=by
    subst h0 hm1
    refine ⟨1,_,?_,insF_of hcz1 (by omega) hvl,?_⟩
    · simp
    · rw [hput,setCells_putRow _ _ _ _ _ _ (by rw [size_setMany]; omega),hnews]
  rw [← hW1] at hcp1
  clear hkA hput hH hH1 hnews hnl hz hcz hcz1 h1 hvs h1v hsa hsb hfb hvl h0 hm1 hvb
  go_enter Tryz.func144,Tryz.ntmps144
  go_wp2_with (simp only [hov])
  go_region_law_o (refine step_copy_runI rfl _ _ 22 22 rfl _ _ (by simp [Act.eval,Act.put]) (by simp [Act.eval,Act.put]) (hcp1 _ _ _) ?_)
  go_wp2_with (at_builtin; refine wpList_copy_runI _ rfl _ _ 22 22 rfl _ _ rfl rfl (hcp2 _ rfl _ _) ?_)
  go_ret
  exact ⟨rfl,by rw [← hW1]; exact fin.out⟩
set_option maxHeartbeats 4000000 in
set_option maxRecDepth 1000000 in
theorem insE_end_room (blk off cap n m vb voff vc : Nat) (cs : Array Value) (vs : List Value) (w : World) (h0 : off = 0) (hm1 : m = 1) (hH : Holds id w blk off cs) (hz : cs.size = cap * 5)
    (hvl:vs.length=5) (hvs:∀ j v,vs[j]? = some v→w.cell? ⟨vb,voff + j,none⟩=some v) (h1v:∀ v ∈ vs,v.oneCell'=true)
    (hm:cap≤9223372036854775807) (hroom:n + m≤cap) :
    Calls Tryz.prog 144 #[.slice (some ⟨blk,off,none⟩) n cap,.int .i64 n,.slice (some ⟨vb,voff,none⟩) m vc] w fun e w'=>e = .returned (.slice (some ⟨blk,off,none⟩) (n + m) cap)∧∃ (q:Nat) (F:Array Value),F.size=cs.size∧InsF 5 n n cs vs F∧w'=putRow id (Sort.ahead w q) blk 0 F:=by
  have mixed:Tryz.prog.follows Departure.mixedOrders=true:=rfl
  have hz1:¬ ((m:Int)=0):=by omega
  have hcz1:(n + m) * 5≤cs.size:=by rw [hz]; exact Nat.mul_le_mul_right _ hroom
  obtain ⟨i0,hi0,hz0,hzs,hzb⟩:=info_parts (P:=Tryz.prog) (e:=46) (z := .agg #[.int .i64 0,.int .i64 0,.int .i64 0,.string ⟨#[]⟩,.slice none 0 0]) (size:=5) (bytes:=64) (by kernel_rfl)
  have s1:Hid (∀ j u,vs[j]? = some u→w.cell? (Addr.add ⟨vb,voff,none⟩ j)=some u):=fun j u hj=>by rw [Addr.add_lit]; exact hvs j u hj
  have s2:Hid (∀ u ∈ vs,u.oneCell'=true):=h1v
  have s3:Hid (∀ j,j < vs.length→(w.cell? ⟨blk,off + n * 5 + j,none⟩).isSome=true∧w.frozen? ⟨blk,off + n * 5 + j,none⟩=false):=fun j hj=>by
    rw [Nat.add_assoc]; exact ⟨by rw [(hH _ (by omega)).1]; rfl,(hH _ (by omega)).2⟩
  have s5:Hid (vs.length=m * 5):=by show vs.length=m * 5; omega
  have s6:Hid (∀ j u,(seg cs 0 (n * 5))[j]? = some u→w.cell? ⟨blk,off + j,none⟩=some u):=fun j u hj=>by
    obtain ⟨ht,rfl⟩:=seg_get hj
    rw [Nat.zero_add]; exact (hH _ (by omega)).1
  have fin:Aside (∃ (q:Nat) (F:Array Value),F.size=cs.size∧InsF 5 n n cs vs F∧w.setCells blk (off + n * 5) vs=putRow id (Sort.ahead w q) blk 0 F):=by
    subst h0 hm1
    refine ⟨0,setMany cs (n * 5) vs,by simp,fun t ht=>?_,?_⟩
    · rw [get_setMany _ _ _ t (by omega),hvl]
      by_cases h1:t < n * 5
      · rw [if_neg (by omega),if_pos h1]
      · rw [if_pos (by omega),if_neg h1,if_pos (by omega)]
    · rw [← setCells_putRow _ _ _ _ _ _ (by omega),putRow_self id (Sort.ahead w 0) blk 0 cs (holds_ahead id w 0 blk 0 cs hH)]
      rfl
  have hml:n + m≤maxLen:=by unfold maxLen; omega
  clear hH hz hcz1 hvs h1v hvl h0 hm1
  go_enter Tryz.func144,Tryz.ntmps144
  go_wp2_with (at_builtin; refine wpList_append_room_k _ rfl _ _ 22 rfl 46 i0 5 rfl hi0 hzs blk off n cap rfl ⟨vb,voff,none⟩ m vc vs rfl s5.out s1.out s2.out hroom s3.out ?_)
  go_ret
  exact ⟨rfl,fin.out⟩
set_option maxHeartbeats 4000000 in
set_option maxRecDepth 1000000 in
theorem insE_end_grow (ao : Option Addr) (cap n m vb voff vc : Nat) (olds vs : List Value) (w : World) (hm1 : m = 1) (hnone : ao = none → n = 0 ∧ cap = 0) (hlo : olds.length = n * 5) (holds : ∀ b, ao = some b → ∀ j u, olds[j]? = some u → w.cell? (b.add j) = some u)
    (hvl:vs.length=5) (hvs:∀ j v,vs[j]? = some v→w.cell? ⟨vb,voff + j,none⟩=some v) (h1v:∀ v ∈ vs,v.oneCell'=true)
    (hnc:n≤cap) (hfull:cap < n + m) (hbig:(n + m) * 64≤140737488355328) :
    Calls Tryz.prog 144 #[.slice ao n cap,.int .i64 n,.slice (some ⟨vb,voff,none⟩) m vc] w fun e w'=>∃ v',e = .returned v'∧w'.ownsRow w.heap.size 46 5 v' (n + m) (olds ++ vs)∧w.grownBy w' none:=by
  have mixed:Tryz.prog.follows Departure.mixedOrders=true:=rfl
  have hz1:¬ ((m:Int)=0):=by omega
  obtain ⟨i0,hi0,hz0,hzs,hzb⟩:=info_parts (P:=Tryz.prog) (e:=46) (z := .agg #[.int .i64 0,.int .i64 0,.int .i64 0,.string ⟨#[]⟩,.slice none 0 0]) (size:=5) (bytes:=64) (by kernel_rfl)
  have s1:Hid (∀ j u,vs[j]? = some u→w.cell? (Addr.add ⟨vb,voff,none⟩ j)=some u):=fun j u hj=>by rw [Addr.add_lit]; exact hvs j u hj
  have s2:Hid (∀ u ∈ vs,u.oneCell'=true):=h1v
  have s5:Hid (vs.length=m * 5):=by show vs.length=m * 5; omega
  have s6:Hid (∀ b,ao=some b→∀ j u,olds[j]? = some u→w.cell? (b.add j)=some u):=holds
  have s7:Hid (ao=none→n=0∧cap=0):=hnone
  have hml:n + m≤maxLen:=by unfold maxLen; omega
  clear hvs h1v hvl hm1 holds hnone
  go_enter Tryz.func144,Tryz.ntmps144
  go_wp2_with (at_builtin; refine wpList_append_grows _ rfl _ _ 22 rfl 46 i0 (.agg #[.int .i64 0,.int .i64 0,.int .i64 0,.string ⟨#[]⟩,.slice none 0 0]) 5 64 rfl hi0 hz0 hzs hzb rfl (by omega) ao n cap olds rfl s7.out hlo s6.out ⟨vb,voff,none⟩ m vc vs rfl s5.out s1.out s2.out hfull hml hbig (fun v' w' r1 r2=>?_))
  all_goals
    go_ret
    exact ⟨_,rfl,by assumption,by assumption⟩
end Go.Proofs.YtfdolehffjmdmaaGreatDoor
/- slices.Insert of one element of k cells where there is no room: in memory. -/
namespace Go.Proofs.YtfdolehffjmdmaaGreatDoor
open Go.RowKit Go.Lib Go.Sort
open Go.Shelf
theorem insF_grow {k n i : Nat} {cs ROW : Array Value} {vs : List Value} (hz : (n + 1) * k ≤ ROW.size) (hi : i ≤ n) (hv : vs.length = k) (hrow : ∀ t, t < i * k → ROW[t]! = cs[t]!) :
    InsF k n i cs vs (setMany (setMany ROW (i * k) vs) ((i + 1) * k) (seg cs (i * k) ((n - i) * k))):=by
  intro t ht
  obtain ⟨m,rfl⟩:∃ m,n=i + m:=⟨n - i,by omega⟩
  have e1:(i + m + 1) * k=i * k + m * k + k:=by rw [Nat.add_mul,Nat.add_mul,Nat.one_mul]
  have e2:(i + 1) * k=i * k + k:=by rw [Nat.add_mul,Nat.one_mul]
  have e3:i + m - i=m:=by omega
  rw [e1] at hz ht
  rw [e2,e3,get_setMany _ _ _ t (by simp; omega),seg_len]
  by_cases h1:t < i * k
  · rw [if_neg (by omega),if_pos h1,get_setMany _ _ _ t (by omega),if_neg (by omega),hrow t h1]
  · by_cases h2:t < i * k + k
    · rw [if_neg (by omega),if_neg h1,if_pos h2,get_setMany _ _ _ t (by omega),hv,if_pos (by omega)]
    · rw [if_pos (by omega),if_neg h1,if_neg h2,seg_get! (by omega),show i * k + (t - (i * k + k))=t - k by omega]
set_option maxHeartbeats 4000000 in
set_option maxRecDepth 1000000 in
theorem insE_grow (blk off cap n i m vb voff vc : Nat) (cs : Array Value) (vs : List Value) (w : World) (h0 : off = 0) (hm1 : m = 1) (hH : Holds id w blk off cs) (hz : cs.size = cap * 5) (h1 : ∀ t, t < n * 5 → (cs[t]!).oneCell' = true)
    (hvl:vs.length=5) (hvs:∀ j v,vs[j]? = some v→w.cell? ⟨vb,voff + j,none⟩=some v) (h1v:∀ v ∈ vs,v.oneCell'=true)
    (hi:i < n) (hnc:n≤cap) (hroom:cap < n + m) (hbig:(n + m) * 64≤140737488355328) :
    Calls Tryz.prog 144 #[.slice (some ⟨blk,off,none⟩) n cap,.int .i64 i,.slice (some ⟨vb,voff,none⟩) m vc] w fun e w'=>∃ (q G:Nat) (ROW F:Array Value),e = .returned (.slice (some ⟨w.heap.size,0,none⟩) (n + m) G)∧n + m≤G∧G≤maxLen∧ROW.size=G * 5∧F.size=ROW.size∧InsF 5 n i cs vs F∧w'=putRow id (Sort.ahead (w.alloc (.cells ROW 46)) q) w.heap.size 0 F:=by
  have mixed:Tryz.prog.follows Departure.mixedOrders=true:=rfl
  have hz1:¬ ((m:Int)=0):=by omega
  have hz2:¬ ((i:Int)=(n:Int)):=by omega
  have hz3:(cap:Int) < (n:Int) + (m:Int):=by omega
  have hsz:(Tryz.prog.info? 46).map (·.size)=some 5:=by kernel_rfl
  obtain ⟨i0,hi0,hz0,hzs,hzb⟩:=info_parts (P:=Tryz.prog) (e:=46) (z := .agg #[.int .i64 0,.int .i64 0,.int .i64 0,.string ⟨#[]⟩,.slice none 0 0]) (size:=5) (bytes:=64) (by kernel_rfl)
  have hcz:n * 5≤cs.size:=by rw [hz]; exact Nat.mul_le_mul_right _ hnc
  have hbw:blk < w.heap.size:=block_lt_of_cell (hH 0 (by omega)).1
  have hvw:vb < w.heap.size:=block_lt_of_cell (hvs 0 _ (List.getElem?_eq_getElem (by omega)))
  have hkk:(n:Int) + (m:Int) - (i:Int)=((n + m - i:Nat):Int):=by omega
  have hik:i + (n + m - i)=n + m:=by omega
  have hold:(Builtin.firstCells i0.size i (.slice (some ⟨blk,off,none⟩) i cap)).run Tryz.prog w.drew = .ok (seg cs 0 (i * 5)).toArray w.drew:=by
    rw [hzs]
    exact run_firstCells_some w.drew 5 i ⟨blk,off,none⟩ i cap (seg cs 0 (i * 5)) (seg_len _ _ _) (fun j v hj=>by
      obtain ⟨ht,rfl⟩:=seg_get hj
      rw [Addr.add_lit,Nat.zero_add]
      exact (hH _ (by omega)).1)
  obtain ⟨G,hG⟩:∃ G,G=grownCap w (n + m) cap 46:=⟨_,rfl⟩
  obtain ⟨ROW,hROW⟩:∃ ROW:Array Value,ROW=(seg cs 0 (i * 5)).toArray ++ Builtin.zeroCells (Value.cells (.agg #[.int .i64 0,.int .i64 0,.int .i64 0,.string ⟨#[]⟩,.slice none 0 0])) (n + m - i) ++ Builtin.zeroCells (Value.cells (.agg #[.int .i64 0,.int .i64 0,.int .i64 0,.string ⟨#[]⟩,.slice none 0 0])) (G - (n + m)):=⟨_,rfl⟩
  have hrz : ∀ ty, (Builtin.append_ #[22, 3] ty #[.slice (some ⟨blk, off, none⟩) i cap, .int .i64 ((n : Int) + (m : Int) - (i : Int))]).run Tryz.prog w =
      .ok (.slice (some ⟨w.heap.size,0,none⟩) (n + m) G) (w.drew.alloc (.cells ROW 46)):=fun ty=>by
    have h:=Lib.run_append_grow_zeros w 22 3 ty 46 i0 _ .i64 .i64 rfl rfl hi0 hz0 (some ⟨blk,off,none⟩) i cap (seg cs 0 (i * 5)) hold (n + m - i) (by omega) (by omega) (by omega) (by omega) (by rw [hzb]; omega) (by rw [hzb,hik]; exact growslice_fits hroom hbig)
    rw [hik,← hG,← hROW] at h
    rw [hkk]
    exact h
  have hGn:n + m≤G:=by rw [hG]; exact grownCap_ge w _ _ _
  have hGm:G≤maxLen:=by rw [hG]; exact grownCap_le_maxLen w (n + m) cap 46 (by unfold maxLen; omega)
  have hG63:G≤9223372036854775807:=by have:=hGm; unfold maxLen at this; omega
  have hRs:ROW.size=G * 5:=by
    rw [hROW]
    simp [Builtin.zeroCells,Value.cells,seg_len]
    omega
  have hRow:∀ t,t < i * 5→ROW[t]! = cs[t]! := fun t ht=>by
    rw [getElem!_pos ROW t (by omega)]
    simp only [hROW]
    rw [Array.getElem_append_left (by simp [seg_len]; omega),Array.getElem_append_left (by simp [seg_len]; omega)]
    have:=seg_get! (cs:=cs) (s:=0) ht
    rw [getElem!_pos _ t (by rw [seg_len]; exact ht),Nat.zero_add] at this
    simpa using this
  obtain ⟨W1,hW1⟩:∃ W1,W1=w.drew.alloc (.cells ROW 46):=⟨_,rfl⟩
  have hN:Holds id W1 w.heap.size 0 ROW:=fun j hj=>by
    rw [Nat.zero_add,hW1]
    refine ⟨?_,World.frozen?_alloc_at (w:=w.drew) ROW _ w.heap.size j rfl⟩
    rw [World.cell?_alloc_at (w:=w.drew) ROW _ w.heap.size j rfl,Array.getElem?_eq_getElem hj,getElem!_pos ROW j hj]; rfl
  have hOb:∀ j v,w.cell? ⟨blk,j,none⟩=some v→W1.cell? ⟨blk,j,none⟩=some v:=fun j v h=>by rw [hW1,World.cell?_alloc_past (w:=w.drew) _ blk j hbw]; exact h
  have hOv:∀ j v,w.cell? ⟨vb,j,none⟩=some v→W1.cell? ⟨vb,j,none⟩=some v:=fun j v h=>by rw [hW1,World.cell?_alloc_past (w:=w.drew) _ vb j hvw]; exact h
  have hRn:(n + m) * 5≤ROW.size:=by rw [hRs]; exact Nat.mul_le_mul_right _ hGn
  have hcpA:∀ ty dc,(Builtin.copy_ #[22,22] ty #[.slice (some ⟨w.heap.size,i * 5,none⟩) (n + m - i) dc,.slice (some ⟨vb,voff,none⟩) m vc]).run Tryz.prog W1 = .ok (goInt m) (W1.setCells w.heap.size (i * 5) vs):=fun ty dc =>
    run_copy_cellsK W1 _ _ ty 46 5 w.heap.size (i * 5) (n + m - i) dc ⟨vb,voff,none⟩ m vc m vs rfl hsz (by simp only [Nat.min_def]; split <;> omega) (by omega)
      (fun j v hj=>by rw [Addr.add_lit]; exact hOv _ v (hvs j v hj))
      (fun j hj=>by have:=(hN (i * 5 + j) (by omega)).1; rw [Nat.zero_add] at this; rw [this]; rfl) (fun j hj=>by have:=(hN (i * 5 + j) (by omega)).2; rwa [Nat.zero_add] at this) h1v
  obtain ⟨news,hnews⟩:∃ news,news=seg cs (i * 5) ((n - i) * 5):=⟨_,rfl⟩
  have hnl:news.length=(n - i) * 5:=by rw [hnews,seg_len]
  obtain ⟨W2,hW2⟩:∃ W2,W2=W1.setCells w.heap.size (i * 5) vs:=⟨_,rfl⟩
  have hself:putRow id W1 w.heap.size 0 ROW=W1:=putRow_self id W1 w.heap.size 0 ROW hN
  have hput:W2=putRow id W1 w.heap.size 0 (setMany ROW (i * 5) vs):=by
    rw [← setCells_putRow _ _ _ _ _ _ (by omega),hself,hW2,Nat.zero_add]
  have hN2:Holds id W2 w.heap.size 0 (setMany ROW (i * 5) vs):=by rw [hput]; exact holds_putRow id _ _ _ ROW _ hN (by simp)
  have hbN:blk≠w.heap.size:=by omega
  have hcpB:∀ ty dc sc,(Builtin.copy_ #[22,22] ty #[.slice (some ⟨w.heap.size,(i + m) * 5,none⟩) (n + m - (i + m)) dc,.slice (some ⟨blk,off + i * 5,none⟩) (n - i) sc]).run Tryz.prog W2.drew = .ok (goInt ((n - i:Nat):Int)) (W2.drew.setCells w.heap.size ((i + m) * 5) news):=fun ty dc sc =>
    run_copy_cellsK W2.drew _ _ ty 46 5 w.heap.size ((i + m) * 5) (n + m - (i + m)) dc ⟨blk,off + i * 5,none⟩ (n - i) sc (n - i) news rfl hsz (by simp only [Nat.min_def]; split <;> omega) hnl
      (fun j v hj=>by
        rw [hnews] at hj
        obtain ⟨ht,rfl⟩:=seg_get hj
        rw [Addr.add_lit,Nat.add_assoc]
        show W2.cell? _=_
        rw [hW2,World.cell?_setCells_out _ _ _ _ _ (fun h _=>absurd h hbN)]
        exact hOb _ _ (hH _ (by omega)).1)
      (fun j hj=>by have:=(hN2 ((i + m) * 5 + j) (by rw [size_setMany]; omega)).1; rw [Nat.zero_add] at this; show (W2.cell? _).isSome=true; rw [this]; rfl)
      (fun j hj=>by have:=(hN2 ((i + m) * 5 + j) (by rw [size_setMany]; omega)).2; rw [Nat.zero_add] at this; exact this) (by rw [hnews]; exact seg_one h1 (by omega))
  have fin:Aside (∃ (q:Nat) (F:Array Value),F.size=ROW.size∧InsF 5 n i cs vs F∧W2.drew.setCells w.heap.size ((i + m) * 5) news=putRow id (Sort.ahead (w.alloc (.cells ROW 46)) q) w.heap.size 0 F):=by
    subst h0 hm1
    refine ⟨2,_,?_,insF_grow hRn (by omega) hvl hRow,?_⟩
    · simp
    · have e:W2.drew=putRow id (Sort.ahead (w.alloc (.cells ROW 46)) 2) w.heap.size 0 (setMany ROW (i * 5) vs):=by rw [hput,hW1]; rfl
      rw [← setCells_putRow _ _ _ _ _ _ (by rw [size_setMany,seg_len]; omega),← e,hnews,Nat.zero_add]
  rw [← hW1] at hrz
  rw [← hW2] at hcpA
  have B:Aside (ROW.size=G * 5∧G≤maxLen):=⟨hRs,hGm⟩
  have hGi:¬ (G=i):=by omega
  have hGim:¬ (G=i + m):=by omega
  have hci:¬ (cap=i):=by omega
  have hw1:IntKind.i64.wrap ((i:Int) + (m:Int))=(i:Int) + (m:Int):=by rw [IntKind.wrap_i64]; omega
  have hb1:(0:Int)≤(i:Int) + (m:Int):=by omega
  have hin:i≤n:=by omega
  have htn:((i:Int) + (m:Int)).toNat=i + m:=by omega
  have hb3:(i:Int)≤(n:Int):=by omega
  clear hself hput hN2 hW1 hW2 hnews hnl hOb hOv hN hRow hRn hRs hROW hG hold hH hz hcz h1 hvs h1v hvl h0 hm1 hkk hik hGm hbig hzb hzs hz0 hi0
  go_enter Tryz.func144,Tryz.ntmps144
  go_wp2_with (first
    | (at_builtin; refine Lib.wpList_append_run _ rfl _ _ _ _ rfl _ _ rfl rfl _ _ (hrz _) ?_)
    | (at_builtin; refine wpList_copy_runI _ rfl _ _ 22 22 rfl _ _ rfl rfl (hcpA _ _) ?_))
  go_region_law_o (refine step_copy_runI rfl _ _ 22 22 rfl (.slice (some ⟨w.heap.size,(i + m) * 5,none⟩) (n + m - (i + m)) (G - (i + m))) (.slice (some ⟨blk,off + i * 5,none⟩) (n - i) (cap - i)) (by simp [Act.eval,Act.put]) (by simp [Act.eval,Act.put]) (hcpB _ _ _) ?_)
  go_wp2
  go_ret
  obtain ⟨q,F,f1,f2,f3⟩:=fin.out
  exact ⟨q,G,ROW,F,rfl,hGn,B.out.2,B.out.1,f1,f2,f3⟩
end Go.Proofs.YtfdolehffjmdmaaGreatDoor
/- slices.Insert of one element of k cells,as a contract. -/
namespace Go.Proofs.YtfdolehffjmdmaaGreatDoor
open Go.RowKit Go.Lib Go.Sort
open Go.Shelf
theorem ins_rep {S : Nat → Nat → Prop} {w : World} {rows : List (List PV)} {row0 : List PV} {cs cur' : Array Value} {vs : List Value} {sz n i : Nat} (hn : rows.length = n) (hi : i ≤ n) (hz : ∀ row ∈ rows, row.length = sz) (hz0 : row0.length = sz)
    (hget:∀ t y,t < (n + 1) * sz→cur'[t]? = some y→y=if t < i * sz then cs[t]! else if t < i * sz + sz then vs[t - i * sz]! else cs[t - sz]!)
    (hrow:∀ (k:Nat) row (j:Nat) p,rows[k]? = some row→row[j]? = some p→∃ y,cs[k * sz + j]? = some y∧y.oneCell'=true∧RepP S w p y)
    (hnew:∀ (j:Nat) p,row0[j]? = some p→∃ y,vs[j]? = some y∧y.oneCell'=true∧RepP S w p y) :
    ∀ (k:Nat) row (j:Nat) p u,(rows.insertIdx i row0)[k]? = some row→row[j]? = some p→cur'[k * sz + j]? = some u→u.oneCell'=true∧RepP S w p u:=by
  intro k row j p u a b c
  have hk:k < n + 1:=by
    have:=(List.getElem?_eq_some_iff.1 a).1
    rw [List.length_insertIdx,if_pos (by omega)] at this; omega
  have hrl:row.length=sz:=by
    rw [List.getElem?_insertIdx] at a
    split at a
    · exact hz _ (List.mem_of_getElem? a)
    · split at a
      · split at a
        · cases a; exact hz0
        · cases a
      · exact hz _ (List.mem_of_getElem? a)
  have hj:j < sz:=by rw [← hrl]; exact (List.getElem?_eq_some_iff.1 b).1
  have hle:(k + 1) * sz≤(n + 1) * sz:=Nat.mul_le_mul_right _ (by omega)
  rw [Nat.add_mul,Nat.one_mul] at hle
  have hu:=hget _ _ (by omega) c
  rw [List.getElem?_insertIdx] at a
  by_cases h1:k < i
  · rw [if_pos h1] at a
    have:(k + 1) * sz≤i * sz:=Nat.mul_le_mul_right _ (by omega)
    rw [Nat.add_mul,Nat.one_mul] at this
    rw [if_pos (by omega)] at hu
    obtain ⟨y,y1,y2,y3⟩:=hrow k row j p a b
    obtain ⟨y4,y5⟩:=Array.getElem?_eq_some_iff.1 y1
    rw [getElem!_pos cs _ y4,y5] at hu
    subst hu
    exact ⟨y2,y3⟩
  · rw [if_neg h1] at a
    have hik:i * sz≤k * sz:=Nat.mul_le_mul_right _ (by omega)
    by_cases h2:k=i
    · subst h2
      rw [if_pos rfl,if_pos (by omega)] at a
      cases a
      rw [if_neg (by omega),if_pos (by omega),show k * sz + j - k * sz=j by omega] at hu
      obtain ⟨y,y1,y2,y3⟩:=hnew j p b
      obtain ⟨y4,y5⟩:=List.getElem?_eq_some_iff.1 y1
      rw [getElem!_pos vs _ y4,y5] at hu
      subst hu
      exact ⟨y2,y3⟩
    · rw [if_neg h2] at a
      have h3:(i + 1) * sz≤k * sz:=Nat.mul_le_mul_right _ (by omega)
      rw [Nat.add_mul,Nat.one_mul] at h3
      rw [if_neg (by omega),if_neg (by omega)] at hu
      obtain ⟨y,y1,y2,y3⟩:=hrow (k - 1) row j p a b
      obtain ⟨k',rfl⟩:∃ k',k=k' + 1:=⟨k - 1,by omega⟩
      rw [Nat.add_sub_cancel] at y1
      rw [show (k' + 1) * sz + j - sz=k' * sz + j by rw [Nat.add_mul,Nat.one_mul]; omega] at hu
      obtain ⟨y4,y5⟩:=Array.getElem?_eq_some_iff.1 y1
      rw [getElem!_pos cs _ y4,y5] at hu
      subst hu
      exact ⟨y2,y3⟩
theorem RepV.list_one {S : Nat → Nat → Prop} {w : World} {C : Conc} {row : List PV} {v : Value} (h : RepV S w C (.list [row]) v) (h0 : 0 < row.length) :
    ∃ (b o c:Nat) (x:Nat→Value),v = .slice (some ⟨b,o,none⟩) 1 c∧∀ (j:Nat) p,row[j]? = some p→S b (o + j)∧w.cell? ⟨b,o + j,none⟩=some (x j)∧RepP S w p (x j):=by
  cases h.list_inv with
  | list _ a c sz x hc hm hsz hz hl hr =>
    obtain ⟨b,o,ha,-,-⟩:=hl 0 row 0 row[0] rfl (List.getElem?_eq_getElem h0)
    refine ⟨b,o,c,x 0,by rw [ha]; rfl,fun j p hp=>?_⟩
    obtain ⟨b',o',ha',h1,h2⟩:=hl 0 row j p rfl hp
    rw [ha] at ha'
    cases ha'
    rw [Nat.zero_mul,Nat.add_zero] at h1 h2
    exact ⟨h1,h2,hr 0 row j p rfl hp⟩
theorem insE_meets (rows : List (List PV)) (row0 : List PV) (v i : Nat) (hi : i ≤ rows.length) (hr0 : row0.length = 5) (hbig : (rows.length + 1) * 64 ≤ 140737488355328) :
    Meets Tryz.prog 144 [.arr 0 v,.int .i64 i,.list [row0]] [.arr v true false 46 5 rows] (.arr 0 (v + 1)) [.arr (v + 1) true false 46 5 (rows.insertIdx i row0)]:=by
  intro x vs hx h0 hp
  obtain ⟨a,b,c,rfl,p1,p2,p3⟩:=three_args hp.1
  have ha:=hp.2 0 _ _ rfl p1
  obtain rfl:=(hp.2 1 _ _ rfl p2).int_inv
  obtain ⟨vb,vo,vc,xv,rfl,hxv⟩:=(hp.2 2 _ _ rfl p3).list_one (by omega)
  obtain ⟨e1,e2,e3⟩:=h0.row (id:=0) rfl ha
  have hlen:(rows.insertIdx i row0).length=rows.length + 1:=by rw [List.length_insertIdx,if_pos hi]
  have hrl:∀ row ∈ rows.insertIdx i row0,row.length=5:=fun row hr=>by
    rcases (List.mem_insertIdx hi).1 hr with rfl | hr
    · exact hr0
    · exact e2 row hr
  obtain ⟨ws,hws⟩:∃ ws:List Value,ws=(List.range 5).map xv:=⟨_,rfl⟩
  have hwl:ws.length=5:=by rw [hws]; simp
  have hwg:∀ j u,ws[j]? = some u→∃ p,row0[j]? = some p∧u=xv j:=fun j u hu=>by
    have hj:j < 5:=by rw [← hwl]; exact (List.getElem?_eq_some_iff.1 hu).1
    rw [hws,List.getElem?_map,List.getElem?_range hj] at hu
    exact ⟨_,List.getElem?_eq_getElem (by omega),(Option.some.inj hu).symm⟩
  have hwc:∀ j u,ws[j]? = some u→x.w0.cell? ⟨vb,vo + j,none⟩=some u:=fun j u hu=>by
    obtain ⟨p,hp,rfl⟩:=hwg j u hu
    exact (hxv j p hp).2.1
  have hw1:∀ u ∈ ws,u.oneCell'=true:=fun u hu=>by
    obtain ⟨j,hj,rfl⟩:=List.getElem_of_mem hu
    obtain ⟨p,hp,e⟩:=hwg j _ (List.getElem?_eq_getElem hj)
    rw [e]; exact (hxv j p hp).2.2.one
  have hnew:∀ (j:Nat) p,row0[j]? = some p→∃ y,ws[j]? = some y∧y.oneCell'=true∧RepP (Stab x x.C0 _ x.w0) x.w0 p y:=fun j p hp=>by
    have hj:j < 5:=by rw [← hr0]; exact (List.getElem?_eq_some_iff.1 hp).1
    refine ⟨xv j,by rw [hws,List.getElem?_map,List.getElem?_range hj]; rfl,(hxv j p hp).2.2.one,(hxv j p hp).2.2⟩
  rcases e3 with ⟨rfl,hnil⟩ | ⟨g,cap,cur,rfl,hc,hcap,hm,hz,hrow⟩
  · subst hnil
    obtain rfl:i=0:=by simpa using hi
    refine (insE_end_grow none 0 0 1 vb vo vc [] ws x.w0 rfl (fun _=>⟨rfl,rfl⟩) rfl (fun b h=>by cases h) hwl hwc hw1 (by omega) (by omega) (by omega)).mono ?_
    rintro e w' ⟨v',rfl,hown,hgr⟩
    obtain ⟨o1,⟨-,o2⟩ | ⟨g',cap',cur',rfl,o3,o4,o5,o6,o7,o8⟩⟩:=hown
    · simp at o2
    · obtain ⟨C',k1,k2,k3⟩:=h0.rerow (id:=0) (v':=v + 1) (g':=g') (cap':=cap') (rows' := [row0]) (cur':=cur') rfl
        ⟨hgr.size,hgr.os,hgr.tape,hgr.output,fun b hb _=>hgr.block b hb (by simp)⟩ (.inr o3) (.inr (by omega)) o4 o5 o6 o7 (fun row hr=>by simp at hr; subst hr; exact hr0)
        (ins_rep (rows := []) (row0:=row0) (cs:=#[]) (vs:=ws) (n:=0) (i:=0) rfl (by omega) (fun row hr=>by simp at hr) hr0 (fun t y ht hy=>by
          rw [if_neg (by omega),if_pos (by omega),Nat.zero_mul,Nat.sub_zero]
          have:=congrArg (fun l=>l[t]?) o8
          simp only [List.nil_append] at this
          rw [List.getElem?_take,if_pos (by omega),Array.getElem?_toList,hy] at this
          obtain ⟨h1,h2⟩:=List.getElem?_eq_some_iff.1 this.symm
          rw [getElem!_pos ws t h1,h2]) (fun k row j p h=>by simp at h) hnew)
      exact ⟨_,C',rfl,k1,k3⟩
  · have hH:=holds_cur hc
    have hown:(x.C0.sv 0).ownBlock=some g:=by rw [← e1]; rfl
    have hcs:rows.length * 5≤cur.size:=by rw [hz]; exact Nat.mul_le_mul_right _ hcap
    have hcap63:cap≤9223372036854775807:=by simp [maxLen] at hm; omega
    have hone:∀ t,t < rows.length * 5→(cur[t]!).oneCell'=true:=fun t ht=>by
      have hk:t / 5 < rows.length:=Nat.div_lt_of_lt_mul (by omega)
      have hj:t % 5 < (rows[t / 5]'hk).length:=by rw [e2 _ (List.getElem_mem hk)]; exact Nat.mod_lt _ (by omega)
      obtain ⟨y,y1,y2,-⟩:=hrow (t / 5) _ (t % 5) _ (List.getElem?_eq_getElem hk) (List.getElem?_eq_getElem hj)
      rw [show t / 5 * 5 + t % 5=t by omega] at y1
      obtain ⟨y4,y5⟩:=Array.getElem?_eq_some_iff.1 y1
      rw [getElem!_pos cur _ y4,y5]; exact y2
    have hcell0:=hwc 0 _ (List.getElem?_eq_getElem (by omega))
    have hvb:vb≠g:=fun e=>by
      have:=((hxv 0 _ (List.getElem?_eq_getElem (by omega))).1.2.2 0 _ rfl) (by rw [hown,e])
      exact absurd this.1 (by decide)
    have hfb:∀ o,x.w0.frozen? ⟨g,o,none⟩=false:=fun o=>by simp [World.frozen?,hc]
    have hsb:x.w0.shape? g=some (46,cap * 5):=by simp [World.shape?,hc,hz]
    obtain ⟨tA,kA,hsa,hkA⟩:∃ tA kA,x.w0.shape? vb=some (tA,kA)∧kA≠0:=by
      unfold World.cell? at hcell0
      unfold World.shape?
      split at hcell0
      · rename_i cc ee ff hh
        refine ⟨ee,cc.size,by rw [hh],fun e=>?_⟩
        simp at hcell0
        obtain ⟨h1,-⟩:=Array.getElem?_eq_some_iff.1 hcell0
        omega
      · cases hcell0
    -- in place
    have inplace : ∀ (q : Nat) (F : Array Value), F.size = cur.size → InsF 5 rows.length i cur ws F → rows.length + 1 ≤ cap →
        ∃ C',HR x C' [.arr (v + 1) true false 46 5 (rows.insertIdx i row0)] (putRow id (Sort.ahead x.w0 q) g 0 F)∧RepV (Stab x C' [.arr (v + 1) true false 46 5 (rows.insertIdx i row0)] (putRow id (Sort.ahead x.w0 q) g 0 F)) (putRow id (Sort.ahead x.w0 q) g 0 F) C' (.arr 0 (v + 1)) (.slice (some ⟨g,0,none⟩) (rows.length + 1) cap):=fun q F hFs hF hr=>by
      obtain ⟨cur',c1,c2,c3,c4⟩:=row_worldF x.w0 g q F hc
      have hcs1:(rows.length + 1) * 5≤cur.size:=by rw [hz]; exact Nat.mul_le_mul_right _ hr
      obtain ⟨C',k1,k2,k3⟩:=h0.rerow (id:=0) (v':=v + 1) (g':=g) (cap':=cap) (rows':=rows.insertIdx i row0) (cur':=cur') rfl
        ⟨c4.size,c4.os,c4.tape,c4.output,fun b hb hne=>c4.blk b hb fun e=>hne (by rw [hown,e])⟩ (.inl hown) (.inr (by omega)) c1 (by rw [hlen]; omega) hm (by rw [c2,hz]) hrl
        (ins_rep rfl hi e2 hr0 (fun t y ht hy=>(c3 t y (by omega) hy).trans (hF t ht)) hrow hnew)
      rw [hlen] at k3
      exact ⟨C',k1,k3⟩
    by_cases hroom:rows.length + 1≤cap
    · by_cases hin:i=rows.length
      · subst hin
        refine Calls.mono (insE_end_room g 0 cap rows.length 1 vb vo vc cur ws x.w0 rfl rfl hH hz hwl hwc hw1 hcap63 hroom) ?_
        rintro e w' ⟨rfl,q,F,f1,f2,rfl⟩
        obtain ⟨C',k1,k3⟩:=inplace q F f1 f2 hroom
        exact ⟨_,C',rfl,k1,k3⟩
      · refine Calls.mono (insE_shift g 0 cap rows.length i 1 vb vo vc tA kA cur ws x.w0 rfl rfl hH hz hone hwl hwc hw1 hvb hsa hkA _ hsb hfb hcap63 (by omega) hroom) ?_
        rintro e w' ⟨rfl,q,F,f1,f2,rfl⟩
        obtain ⟨C',k1,k3⟩:=inplace q F f1 f2 hroom
        exact ⟨_,C',rfl,k1,k3⟩
    · by_cases hin:i=rows.length
      · subst hin
        refine Calls.mono (insE_end_grow (some ⟨g,0,none⟩) cap rows.length 1 vb vo vc (seg cur 0 (rows.length * 5)) ws x.w0 rfl (fun h=>by cases h) (seg_len _ _ _) (fun b hb j u hu=>by
          cases hb
          obtain ⟨ht,rfl⟩:=seg_get hu
          rw [Addr.add_lit]
          have:=(hH j (by omega)).1
          simp only [Nat.zero_add] at this ⊢
          exact this) hwl hwc hw1 hcap (by omega) hbig) ?_
        rintro e w' ⟨v',rfl,how,hgr⟩
        obtain ⟨o1,⟨-,o2⟩ | ⟨g',cap',cur',rfl,o3,o4,o5,o6,o7,o8⟩⟩:=how
        · omega
        · obtain ⟨C',k1,k2,k3⟩:=h0.rerow (id:=0) (v':=v + 1) (g':=g') (cap':=cap') (rows':=rows.insertIdx rows.length row0) (cur':=cur') rfl
            ⟨hgr.size,hgr.os,hgr.tape,hgr.output,fun b hb _=>hgr.block b hb (by simp)⟩ (.inr o3) (.inr (by omega)) o4 (by rw [hlen]; exact o5) o6 o7 hrl
            (ins_rep rfl hi e2 hr0 (cs:=cur) (vs:=ws) (fun t y ht hy=>by
              have:=congrArg (fun l=>l[t]?) o8
              rw [List.getElem?_take,if_pos (by omega),Array.getElem?_toList,hy] at this
              by_cases h1:t < rows.length * 5
              · rw [if_pos h1]
                rw [List.getElem?_append_left (by rw [seg_len]; exact h1)] at this
                obtain ⟨-,h2⟩:=seg_get this.symm
                rw [h2,Nat.zero_add]
              · rw [if_neg h1,if_pos (by omega)]
                rw [List.getElem?_append_right (by rw [seg_len]; omega),seg_len] at this
                obtain ⟨h3,h2⟩:=List.getElem?_eq_some_iff.1 this.symm
                rw [getElem!_pos ws _ h3,h2]) hrow hnew)
          rw [hlen] at k3
          exact ⟨_,C',rfl,k1,k3⟩
      · refine Calls.mono (insE_grow g 0 cap rows.length i 1 vb vo vc cur ws x.w0 rfl rfl hH hz hone hwl hwc hw1 (by omega) hcap (by omega) hbig) ?_
        rintro e w' ⟨q,G,ROW,F,rfl,f1,f2,f3,f4,f5,rfl⟩
        have hcA:(x.w0.alloc (.cells ROW 46)).heap[x.w0.heap.size]? = some (.cells ROW 46 (0,0)):=heap_alloc_new _ _
        obtain ⟨cur',c1,c2,c3,c4⟩:=row_worldF (x.w0.alloc (.cells ROW 46)) x.w0.heap.size q F hcA
        have hg1:=World.grownBy_alloc x.w0 (.cells ROW 46) none
        have hFs:(rows.length + 1) * 5≤F.size:=by rw [f4,f3]; exact Nat.mul_le_mul_right _ f1
        obtain ⟨C',k1,k2,k3⟩:=h0.rerow (id:=0) (v':=v + 1) (g':=x.w0.heap.size) (cap':=G) (rows':=rows.insertIdx i row0) (cur':=cur') rfl
          ⟨Nat.le_trans hg1.size c4.size,c4.os.trans hg1.os,c4.tape.trans hg1.tape,c4.output.trans hg1.output,fun b hb _=>(c4.blk b (Nat.lt_of_lt_of_le hb hg1.size) (by omega)).trans (hg1.block b hb (by simp))⟩ (.inr (Nat.le_refl _)) (.inr (by omega)) c1 (by rw [hlen]; exact f1) f2 (by rw [c2,f3]) hrl
          (ins_rep rfl hi e2 hr0 (fun t y ht hy=>(c3 t y (by omega) hy).trans (f5 t ht)) hrow hnew)
        rw [hlen] at k3
        exact ⟨_,C',rfl,k1,k3⟩
end Go.Proofs.YtfdolehffjmdmaaGreatDoor
/- Slices asked by a function: contracts of slices.IndexFunc,ContainsFunc,Index,Contains at entries,ids. -/
namespace Go.Proofs.YtfdolehffjmdmaaGreatDoor
set_option linter.unusedSimpArgs false
set_option linter.unusedVariables false
open Go.RowKit
def idxF {α:Type} (p:α→Bool):List α→Nat→Int
 | [],_ => -1
 | x :: l,k=>if p x=true then (k:Int) else idxF p l (k + 1)
theorem idxF_drop {α:Type} [Inhabited α] (p:α→Bool) (l:List α) (k:Nat) (h:k < l.length):idxF p (l.drop k) k=if p (nth l k)=true then (k:Int) else idxF p (l.drop (k + 1)) (k + 1):=by
 rw [List.drop_eq_getElem_cons h,idxF,nth_eq _ _ h]
instance:Inhabited Entry:=⟨⟨default,0,⟨#[]⟩,[]⟩⟩
theorem idxF_ge {α:Type} (p:α→Bool):∀ (l:List α) (k:Nat),idxF p l k = -1∧l.any p=false∨(k:Int)≤idxF p l k∧l.any p=true
 | [],k => .inl ⟨rfl,rfl⟩
 | x :: l,k=>by
  simp only [idxF,List.any_cons]
  cases hx:p x
  ·
   rcases idxF_ge p l (k + 1) with ⟨h1,h2⟩ | ⟨h1,h2⟩
   ·
    exact .inl ⟨by simpa using h1,by simp [h2]⟩
   ·
    exact .inr ⟨by simp; omega,by simp [h2]⟩
  ·
   exact .inr ⟨by simp,by simp⟩
theorem idxF_any {α:Type} (p:α→Bool) (l:List α):decide (0≤idxF p l 0)=l.any p:=by
 rcases idxF_ge p l 0 with ⟨h1,h2⟩ | ⟨h1,h2⟩
 ·
  rw [h1,h2]; rfl
 ·
  rw [h2]; simp; omega
theorem indexE_meets (l : List Entry) (g : Nat) (caps : List PV) (Hs : List AObj) (p : Entry → Bool) (hg : hasBody Tryz.prog g = true) (hl : l.length ≤ 9223372036854775806) (hc : ClosedH Hs caps)
    (hp:∀ e ∈ l,Meets Tryz.prog g (.agg (cE e) :: caps) Hs (.bool (p e)) Hs) :
    Meets Tryz.prog 105 [.list (l.map cE),.clo g caps] Hs (.int .i64 (idxF p l 0)) Hs:=by
  refine Meets.of_walk Tryz.func105 Tryz.ntmps105 low105 res105 (by simp) fun x hx=>?_
  simp only [go_sem,L105,R105]
  refine loop_keep [0,1,7,8] (fun n st=>∃ k:Nat,k + n=l.length∧idxF p (l.drop k) k=idxF p l 0 ∧
    st=⟨mkE .top [(0,.list (l.map cE)),(1,.clo g caps),(7,.int .i64 l.length),(8,.int .i64 k)],Hs⟩) l.length ?_ ?_
  · refine ⟨0,by omega,by simp,?_⟩
    simp [keep_mk,go_sem]
  · rintro n st ⟨k,hk,hi,rfl⟩
    by_cases hlt:k < l.length
    · have hgt:l[k]? = some (nth l k):=nth_get? _ _ hlt
      have wk:=i64_up (k:=k) (by omega)
      rw [idxF_drop p l k hlt] at hi
      simp only [go_sem,hlt,hgt,cE,cId]
      refine ops_callv rfl hg (.whole (hp (nth l k) (by rw [nth_eq _ _ hlt]; exact List.getElem_mem hlt)) rfl ?_ hc.sub hc.back) ?_
      · simp only [go_sem,cE,cId]
        rw [hc.caps]
      cases hpk:p (nth l k)
      · rw [if_neg (by simp [hpk])] at hi
        simp only [go_sem,wk]
        exact ⟨n - 1,by omega,k + 1,by omega,hi,by simp [keep_mk,go_sem]⟩
      · rw [if_pos hpk] at hi
        simp only [go_sem]
        refine ret_scal hx rfl hc.kept ?_
        simp [go_sem,L105,R105,hi]
    · have:l.drop k = []:=List.drop_eq_nil_of_le (by omega)
      rw [this] at hi
      simp only [go_sem,hlt]
      refine ret_scal hx rfl hc.kept ?_
      simp [go_sem,L105,R105,← hi,idxF]
theorem indexI_meets (l : List Id) (g : Nat) (caps : List PV) (Hs : List AObj) (p : Id → Bool) (hg : hasBody Tryz.prog g = true) (hl : l.length ≤ 9223372036854775806) (hc : ClosedH Hs caps)
    (hp:∀ e ∈ l,Meets Tryz.prog g (.agg (cId e) :: caps) Hs (.bool (p e)) Hs) :
    Meets Tryz.prog 141 [.list (l.map cId),.clo g caps] Hs (.int .i64 (idxF p l 0)) Hs:=by
  refine Meets.of_walk Tryz.func141 Tryz.ntmps141 low141 res141 (by simp) fun x hx=>?_
  simp only [go_sem,L141,R141]
  refine loop_keep [0,1,7,8] (fun n st=>∃ k:Nat,k + n=l.length∧idxF p (l.drop k) k=idxF p l 0 ∧
    st=⟨mkE .top [(0,.list (l.map cId)),(1,.clo g caps),(7,.int .i64 l.length),(8,.int .i64 k)],Hs⟩) l.length ?_ ?_
  · refine ⟨0,by omega,by simp,?_⟩
    simp [keep_mk,go_sem]
  · rintro n st ⟨k,hk,hi,rfl⟩
    by_cases hlt:k < l.length
    · have hgt:l[k]? = some (nth l k):=nth_get? _ _ hlt
      have wk:=i64_up (k:=k) (by omega)
      rw [idxF_drop p l k hlt] at hi
      simp only [go_sem,hlt,hgt,cId,cId]
      refine ops_callv rfl hg (.whole (hp (nth l k) (by rw [nth_eq _ _ hlt]; exact List.getElem_mem hlt)) rfl ?_ hc.sub hc.back) ?_
      · simp only [go_sem,cId,cId]
        rw [hc.caps]
      cases hpk:p (nth l k)
      · rw [if_neg (by simp [hpk])] at hi
        simp only [go_sem,wk]
        exact ⟨n - 1,by omega,k + 1,by omega,hi,by simp [keep_mk,go_sem]⟩
      · rw [if_pos hpk] at hi
        simp only [go_sem]
        refine ret_scal hx rfl hc.kept ?_
        simp [go_sem,L141,R141,hi]
    · have:l.drop k = []:=List.drop_eq_nil_of_le (by omega)
      rw [this] at hi
      simp only [go_sem,hlt]
      refine ret_scal hx rfl hc.kept ?_
      simp [go_sem,L141,R141,← hi,idxF]
theorem contFE_meets (l : List Entry) (g : Nat) (caps : List PV) (Hs : List AObj) (p : Entry → Bool) (hg : hasBody Tryz.prog g = true) (hl : l.length ≤ 9223372036854775806) (hc : ClosedH Hs caps)
    (hp:∀ e ∈ l,Meets Tryz.prog g (.agg (cE e) :: caps) Hs (.bool (p e)) Hs) :
    Meets Tryz.prog 119 [.list (l.map cE),.clo g caps] Hs (.bool (l.any p)) Hs:=by
  refine Meets.of_walk Tryz.func119 Tryz.ntmps119 low119 res119 (by simp) fun x hx=>?_
  simp only [go_sem,L119,R119]
  refine ops_call (.whole (indexE_meets l g caps Hs p hg hl hc hp) rfl ?_ hc.sub hc.back) ?_
  · simp only [go_sem]
    rw [hc.leaf]
  simp only [go_sem]
  refine ret_scal hx rfl hc.kept ?_
  simp [go_sem,L119,R119,idxF_any]
theorem contFI_meets (l : List Id) (g : Nat) (caps : List PV) (Hs : List AObj) (p : Id → Bool) (hg : hasBody Tryz.prog g = true) (hl : l.length ≤ 9223372036854775806) (hc : ClosedH Hs caps)
    (hp:∀ e ∈ l,Meets Tryz.prog g (.agg (cId e) :: caps) Hs (.bool (p e)) Hs) :
    Meets Tryz.prog 107 [.list (l.map cId),.clo g caps] Hs (.bool (l.any p)) Hs:=by
  refine Meets.of_walk Tryz.func107 Tryz.ntmps107 low107 res107 (by simp) fun x hx=>?_
  simp only [go_sem,L107,R107]
  refine ops_call (.whole (indexI_meets l g caps Hs p hg hl hc hp) rfl ?_ hc.sub hc.back) ?_
  · simp only [go_sem]
    rw [hc.leaf]
  simp only [go_sem]
  refine ret_scal hx rfl hc.kept ?_
  simp [go_sem,L107,R107,idxF_any]
end Go.Proofs.YtfdolehffjmdmaaGreatDoor
/- What is wrong with an entry,in the law text's words: a contract. -/
namespace Go.Proofs.YtfdolehffjmdmaaGreatDoor
set_option linter.unusedSimpArgs false
set_option linter.unusedVariables false
open Go.RowKit
theorem checkEntry_meets (e:Entry):Meets Tryz.prog 46 [.agg (cE e)] [] (.int .i64 (checkEntry e)) []:=by
 refine Meets.len2 0 4 rfl (by simp [cE]; rfl) fun hm=>?_
 have hm':e.ls.length≤9223372036854775807:=by simp [maxLen] at hm; omega
 refine Meets.of_walk Tryz.func46 Tryz.ntmps46 low46 res46 (by simp) fun x hx=>?_
 simp only [go_sem,L46,R46,cE]
 refine ops_call (.pure (isId_meets e.id)) ?_
 cases h1:okId e.id
 ·
  simp only [go_sem]
  refine ret_pure hx ?_
  simp [go_sem,L46,R46,checkEntry,h1]
 simp only [go_sem]
 refine ops_call (.pure (between_meets _ _ _)) ?_
 cases h2:wthn e.c 1 7
 ·
  simp only [go_sem]
  refine ret_pure hx ?_
  simp [go_sem,L46,R46,checkEntry,h1,h2]
 by_cases h3:12 < e.t.size
 ·
  have h3':decide ((12:Int) < e.t.size)=true:=by simp; omega
  simp only [go_sem,h3']
  refine ret_pure hx ?_
  simp [go_sem,L46,R46,checkEntry,h1,h2,h3]
 have h3':decide ((12:Int) < e.t.size)=false:=by simp; omega
 by_cases h4:6 < e.ls.length
 ·
  have h4':decide ((6:Int) < (e.ls.length:Nat))=true:=by simp; omega
  simp only [go_sem,h3',h4']
  refine ret_pure hx ?_
  simp [go_sem,L46,R46,checkEntry,h1,h2,h3,h4]
 have h4':decide ((6:Int) < (e.ls.length:Nat))=false:=by simp; omega
 have hc:checkEntry e=firstNZ (linkErr e.id e.ls) e.ls.length:=by simp [checkEntry,h1,h2,h3,h4]
 simp only [go_sem,h3',h4',hc]
 refine loop_inv [1,3] 1 (fun n st=>∃ k:Nat,k + n=e.ls.length∧firstNZ (linkErr e.id e.ls) k=0 ∧
  st=⟨mkE .top [(1,.ptr 0 0),(3,.int .i64 k)],[.box (cE e)]⟩) e.ls.length (by simp [hx]) (by simp) ?_ ?_
 ·
  refine ⟨0,by omega,rfl,?_⟩
  simp [trim_mk,go_sem,subHeap,renObj,pos,List.range_succ,cE]
 ·
  rintro n st ⟨k,hk,hz,rfl⟩
  simp only [go_sem,cE]
  by_cases hlt:k < e.ls.length
  ·
   have hg:e.ls[k]? = some (nth e.ls k):=nth_get? _ _ hlt
   have w1:=i64_up (k:=k) (by omega)
   simp only [go_sem,hlt,hg,cId]
   refine ops_call (.pure (isId_meets (nth e.ls k))) ?_
   cases h5:okId (nth e.ls k)
   ·
    simp only [go_sem]
    refine ret_pure hx ?_
    have:linkErr e.id e.ls k=3:=by simp [linkErr,h5]
    simp only [go_sem,hc,firstNZ_hit hz (by rw [this]; decide) hlt,this]
   have fin:∀ r:Int,linkErr e.id e.ls k=r→r≠0→firstNZ (linkErr e.id e.ls) e.ls.length=r:=fun r h1 h2=>by rw [firstNZ_hit hz (by rw [h1]; exact h2) hlt,h1]
   by_cases h0:0 < k
   ·
    have hg1:e.ls[k - 1]? = some (nth e.ls (k - 1)):=nth_get? _ _ (by omega)
    have e1:IntKind.i64.wrap ((k:Int) - 1)=((k - 1:Nat):Int):=by rw [IntWalk.i64_in _ (by omega)]; omega
    have d0:decide ((0:Int) < (k:Int))=true:=by simp; omega
    have hlt1:k - 1 < e.ls.length:=by omega
    simp only [go_sem,d0,hlt,hlt1,hg,hg1,e1,cId]
    refine ops_call (.pure (isAhead_meets (nth e.ls (k - 1)) (nth e.ls k))) ?_
    cases hl:lessB (nth e.ls (k - 1)) (nth e.ls k)
    ·
     simp only [go_sem,hlt,hg,cId]
     refine ret_pure hx ?_
     have:linkErr e.id e.ls k=4:=by simp [linkErr,h5,h0,hl]
     simp only [go_sem,fin _ this (by decide)]
    ·
     by_cases h7:(nth e.ls k).r=e.id.r <;> by_cases h8:e.id.n≤(nth e.ls k).n <;> simp only [go_sem,hlt,hg,cId,h7,h8]
     ·
      refine ret_pure hx ?_
      have:linkErr e.id e.ls k=4:=by simp [linkErr,h5,hl,h7,h8]
      simp only [go_sem,fin _ this (by decide)]
     all_goals
      have:linkErr e.id e.ls k=0:=by simp [linkErr,h5,hl,h7,h8]
      refine ⟨by simp,n - 1,by omega,k + 1,by omega,firstNZ_succ hz this,?_⟩
      simp [trim_mk,go_sem,subHeap,renObj,pos,List.range_succ,cE,w1]
   ·
    have d0:decide ((0:Int) < (k:Int))=false:=by simp; omega
    by_cases h7:(nth e.ls k).r=e.id.r <;> by_cases h8:e.id.n≤(nth e.ls k).n <;> simp only [go_sem,d0,hlt,hg,cId,h7,h8]
    ·
     refine ret_pure hx ?_
     have:linkErr e.id e.ls k=4:=by simp [linkErr,h5,h0,h7,h8]
     simp only [go_sem,fin _ this (by decide)]
    all_goals
     have:linkErr e.id e.ls k=0:=by simp [linkErr,h5,h0,h7,h8]
     refine ⟨by simp,n - 1,by omega,k + 1,by omega,firstNZ_succ hz this,?_⟩
     simp [trim_mk,go_sem,subHeap,renObj,pos,List.range_succ,cE,w1]
  ·
   simp only [go_sem,hlt]
   refine ret_pure hx ?_
   simp only [go_sem]
   first | rw [hc,show e.ls.length=k by omega,hz] | rw [show e.ls.length=k by omega,hz]
end Go.Proofs.YtfdolehffjmdmaaGreatDoor
/- Logs: finding,counting,being ready,being right: contracts. -/
namespace Go.Proofs.YtfdolehffjmdmaaGreatDoor
set_option linter.unusedSimpArgs false
set_option linter.unusedVariables false
open Go.RowKit
def findE (l:List Entry) (x:Id):Int:=idxF (fun e=>decide (e.id=x)) l 0
theorem cE_row (l:List Entry):∀ row ∈ l.map cE,row.length=5:=by simp [cE]
theorem closed1 (cells : List PV) (h : cells.map (renCell false (pos [0]) (frzAt false [.box cells])) = cells) (h2 : cells.map (renCell false (pos [0]) (frzAt true [.box cells])) = cells) (h3 : cells.map (renCell false (backF 1 [0]) noFz) = cells) :
    ClosedH [.box cells] [.ptr 0 0]:=by
  refine ⟨?_,?_,?_,?_,?_⟩
  · simp [renLeaf,pos,List.range_succ]
  · simp [ren,renCell,renLeaf,pos,List.range_succ]
  · simp only [List.length_cons,List.length_nil,List.range_succ,List.range_zero,List.nil_append,subHeap,List.map_cons,List.map_nil,List.getElem?_cons_zero,Option.getD_some,renObj,h]
  · simp only [List.length_cons,List.length_nil,List.range_succ,List.range_zero,List.nil_append,merge,List.map_cons,List.map_nil,mergeObj,callId,Nat.zero_add,Nat.sub_self,Nat.add_zero]
    simp [pos,renObj,h3]
  · simp only [List.length_cons,List.length_nil,List.range_succ,List.range_zero,List.nil_append,subHeap,List.map_cons,List.map_nil,List.getElem?_cons_zero,Option.getD_some,renObj,h2]
theorem find1_meets (x:Id) (e:Entry):Meets Tryz.prog 106 [.agg (cE e),.ptr 0 0] [.box (cId x)] (.bool (decide (e.id=x))) [.box (cId x)]:=by
 refine Meets.of_walk Tryz.func106 Tryz.ntmps106 low106 res106 (by simp) fun xx hx=>?_
 simp only [go_sem,L106,R106,cE,cId,beqId]
 refine ret_keep [] (by simp) (by simp) (by simp [hx]) ?_ ?_
 ·
  simp [go_sem,L106,R106,hx]
 ·
  simp [subHeap,renObj,hx,go_sem]
theorem closedId (x:Id):ClosedH [.box (cId x)] [.ptr 0 0]:=closed1 _ (by simp [cId,renCell,renLeaf]) (by simp [cId,renCell,renLeaf]) (by simp [cId,renCell,renLeaf])
theorem find_meets (l:List Entry) (x:Id) (hl:l.length≤9223372036854775806):Meets Tryz.prog 60 [.list (l.map cE),.agg (cId x)] [] (.int .i64 (findE l x)) []:=by
 refine Meets.of_walk Tryz.func60 Tryz.ntmps60 low60 res60 (by simp) fun xx hx=>?_
 simp only [go_sem,L60,R60,cId]
 refine ops_call (.heapE [0] (r' := .int .i64 (findE l x)) (H' := [.box (cId x)]) (indexE_meets l 106 [.ptr 0 0] [.box (cId x)] (fun e=>decide (e.id=x)) (by kernel_rfl) hl (closedId x) (fun e _=>find1_meets x e)) (by simp) (by simp) (by simp [go_sem,pos]) (by simp [subHeap,renObj,go_sem,cId]) rfl (by simp [merge,mergeObj,callId,renObj,pos,go_sem,List.range_succ,cId])) ?_
 simp only [go_sem]
 refine ret_pure hx ?_
 simp [go_sem,L60,R60]
def cntR (l:List Entry) (r:Int):Nat:=l.countP fun e=>decide (e.id.r=r)
theorem cntR_take (l:List Entry) (k:Nat) (r:Int) (h:k < l.length):cntR (l.take (k + 1)) r=cntR (l.take k) r + if (nth l k).id.r=r then 1 else 0:=by
 rw [List.take_succ_eq_append_getElem h,nth_eq _ _ h]
 simp only [cntR,List.countP_append,List.countP_cons,List.countP_nil,decide_eq_true_eq]
 omega
theorem cntR_le (l:List Entry) (r:Int):cntR l r≤l.length:=List.countP_le_length
def okReg (l:List Entry):Prop:=∀ e ∈ l,e.id.r=0∨e.id.r=1
theorem many_meets (l:List Entry) (h:okReg l) (hl:l.length≤1000000000000000):Meets Tryz.prog 61 [.list (l.map cE)] [] (.agg [.int .i64 (cntR l 0),.int .i64 (cntR l 1)]) []:=by
 refine Meets.of_walk Tryz.func61 Tryz.ntmps61 low61 res61 (by simp) fun x hx=>?_
 simp only [go_sem,L61,R61]
 refine loop_inv [2,3,6,7,8] 2 (fun n st=>∃ k:Nat,k + n=l.length ∧
  st=⟨mkE .top [(2,.ptr 0 0),(3,.ptr 1 0),(6,.list (l.map cE)),(7,.int .i64 l.length),(8,.int .i64 k)],[.box [.int .i64 0,.int .i64 0],.box [.int .i64 (cntR (l.take k) 0),.int .i64 (cntR (l.take k) 1)]]⟩) l.length (by simp [hx]) (by simp) ?_ ?_
 ·
  refine ⟨0,by omega,?_⟩
  simp [trim_mk,go_sem,subHeap,renObj,pos,List.range_succ,cntR]
 ·
  rintro n st ⟨k,hk,rfl⟩
  by_cases hlt:k < l.length
  ·
   have hg:l[k]? = some (nth l k):=nth_get? _ _ hlt
   have wk:=i64_up (k:=k) (by omega)
   have hle:∀ r,cntR (l.take k) r≤1000000000000000:=fun r=>by have:=cntR_le (l.take k) r; rw [List.length_take] at this; omega
   have w0:=i64_up (k:=cntR (l.take k) 0) (by have:=hle 0; omega)
   have w1:=i64_up (k:=cntR (l.take k) 1) (by have:=hle 1; omega)
   have c0:=cntR_take l k 0 hlt
   have c1:=cntR_take l k 1 hlt
   rcases h (nth l k) (by rw [nth_eq _ _ hlt]; exact List.getElem_mem hlt) with hr | hr
   ·
    rw [hr] at c0 c1
    simp only [go_sem,hlt,hg,cE,hr,w0,w1,wk,Int.reduceLE,Int.reduceLT,Int.reduceToNat,Int.cast_ofNat_Int,Int.ofNat_zero,Int.toNat_zero,Int.le_refl]
    refine ⟨by simp,n - 1,by omega,k + 1,by omega,?_⟩
    simp [trim_mk,go_sem,subHeap,renObj,pos,List.range_succ,c0,c1]
   ·
    rw [hr] at c0 c1
    simp only [go_sem,hlt,hg,cE,hr,w0,w1,wk,Int.reduceLE,Int.reduceLT,Int.reduceToNat,Int.cast_ofNat_Int,Int.ofNat_zero,Int.toNat_zero,Int.le_refl]
    refine ⟨by simp,n - 1,by omega,k + 1,by omega,?_⟩
    simp [trim_mk,go_sem,subHeap,renObj,pos,List.range_succ,c0,c1]
  ·
   have:l.take k=l:=List.take_of_length_le (by omega)
   simp only [go_sem,hlt]
   refine ret_pure hx ?_
   simp [go_sem,L61,R61,this]
end Go.Proofs.YtfdolehffjmdmaaGreatDoor
/- Logs: being ready,being right: contracts. -/
namespace Go.Proofs.YtfdolehffjmdmaaGreatDoor
set_option linter.unusedSimpArgs false
set_option linter.unusedVariables false
open Go.RowKit
def readyB (l:List Entry) (e:Entry):Bool:=decide ((cntR l e.id.r:Int) + 1=e.id.n) && !(e.ls.any fun x=>decide (findE l x < 0))
theorem ready1_meets (l:List Entry) (x:Id) (hl:l.length≤9223372036854775806):Meets Tryz.prog 108 [.agg (cId x),.ptr 0 0] [.box [.list (l.map cE)]] (.bool (decide (findE l x < 0))) [.box [.list (l.map cE)]]:=by
 refine Meets.of_walk Tryz.func108 Tryz.ntmps108 low108 res108 (by simp) fun xx hx=>?_
 simp only [go_sem,L108,R108,cId]
 refine ops_call (.pureE (find_meets l x hl) (by simp [go_sem,cId])) ?_
 simp only [go_sem]
 refine ret_keep [] (by simp) (by simp) (by simp [hx]) ?_ ?_
 ·
  simp [go_sem,L108,R108,hx]
 ·
  simp [subHeap,renObj,hx,go_sem]
theorem closedL (l:List Entry):ClosedH [.box [.list (l.map cE)]] [.ptr 0 0]:=closed1 _ (by simp [renCell,renLeaf]) (by simp [renCell,renLeaf]) (by simp [renCell,renLeaf])
theorem ready_meets (l : List Entry) (e : Entry) (h : okReg l) (hl : l.length ≤ 1000000000000000) (he : e.id.r = 0 ∨ e.id.r = 1) (hls : e.ls.length ≤ 9223372036854775806) :
    Meets Tryz.prog 62 [.list (l.map cE),.agg (cE e)] [] (.bool (readyB l e)) []:=by
  refine Meets.of_walk Tryz.func62 Tryz.ntmps62 low62 res62 (by simp) fun x hx=>?_
  have hw:IntKind.i64.wrap ((cntR l e.id.r:Int) + 1)=(cntR l e.id.r:Int) + 1:=by have:=cntR_le l e.id.r; rw [IntWalk.i64_in _ (by omega)]
  simp only [go_sem,L62,R62,cE]
  refine ops_call (.pure (many_meets l h hl)) ?_
  have hany:=contFI_meets e.ls 108 [.ptr 0 0] [.box [.list (l.map cE)]] (fun x=>decide (findE l x < 0)) (by kernel_rfl) hls (closedL l) (fun y _=>ready1_meets l y (by omega))
  rcases he with hr | hr
  all_goals
    rw [hr] at hw
    by_cases hc:(cntR l e.id.r:Int) + 1=e.id.n
    · have hc':=hc
      rw [hr] at hc'
      have dc:=decide_eq_true hc'
      simp only [go_sem,hr,hw,dc,Int.reduceLE,Int.reduceLT,Int.reduceToNat,Int.cast_ofNat_Int,Int.ofNat_zero,Int.toNat_zero,Int.le_refl]
      refine ops_call (.heapE [0] (r' := .bool (e.ls.any fun x=>decide (findE l x < 0))) (H' := [.box [.list (l.map cE)],.box (cE e)]) hany (by simp) (by simp) (by simp [go_sem,pos]) (by simp [subHeap,renObj,go_sem]) rfl (by simp [merge,mergeObj,callId,renObj,pos,go_sem,List.range_succ,cE,hr])) ?_
      simp only [go_sem]
      refine ret_pure hx ?_
      simp [go_sem,L62,R62,readyB,hc]
    · have hc':=hc
      rw [hr] at hc'
      simp only [go_sem,hr,hw,hc',Int.reduceLE,Int.reduceLT,Int.reduceToNat,Int.cast_ofNat_Int,Int.ofNat_zero,Int.toNat_zero,Int.le_refl]
      refine ret_pure hx ?_
      simp [go_sem,L62,R62,readyB,hc]
def logErr (l:List Entry) (k:Nat):Int :=
 if checkEntry (nth l k)≠0 then checkEntry (nth l k) else if 0≤findE (l.take k) (nth l k).id then 6
 else if (cntR (l.take k) (nth l k).id.r:Int) + 1≠(nth l k).id.n then 4 else if readyB (l.take k) (nth l k)=false then 5 else 0
def checkLog (l:List Entry):Int:=if 40 < l.length then 2 else firstNZ (logErr l) l.length
theorem reg_of_check {e:Entry} (h:checkEntry e=0):e.id.r=0∨e.id.r=1:=by
 have:=(check_ok_bounds h).1
 simp only [okId,Bool.and_eq_true,wthn_iff] at this
 omega
theorem okReg_take {l:List Entry} {k:Nat} (h:firstNZ (logErr l) k=0) (hk:k≤l.length):okReg (l.take k):=by
 intro e he
 obtain ⟨j,hj,rfl⟩:=List.getElem_of_mem he
 rw [List.length_take] at hj
 have h0:=firstNZ_zero.1 h j (by omega)
 have hc:checkEntry (nth l j)=0:=by
  unfold logErr at h0
  split at h0
  ·
   exact h0
  ·
   rename_i h; simpa using h
 rw [List.getElem_take,← nth_eq l j (by omega)]
 exact reg_of_check hc
theorem dagCheck_meets (l:List Entry) (hm:l.length≤9223372036854775806):Meets Tryz.prog 21 [.list (l.map cE)] [] (.int .i64 (checkLog l)) []:=by
 refine Meets.of_walk Tryz.func21 Tryz.ntmps21 low21 res21 (by simp) fun x hx=>?_
 by_cases h40:40 < l.length
 ·
  have d40:decide ((40:Int) < (l.length:Nat))=true:=by simp; omega
  simp only [go_sem,L21,R21,d40]
  refine ret_pure hx ?_
  simp [go_sem,L21,R21,checkLog,h40]
 have d40:decide ((40:Int) < (l.length:Nat))=false:=by simp; omega
 have hcl:checkLog l=firstNZ (logErr l) l.length:=by simp [checkLog,h40]
 simp only [go_sem,L21,R21,d40,hcl]
 refine loop_inv [0,9,10,11] 0 (fun n st=>∃ k:Nat,k + n=l.length∧firstNZ (logErr l) k=0 ∧
  st=⟨mkE .top [(0,.list (l.map cE)),(9,.list (l.map cE)),(10,.int .i64 l.length),(11,.int .i64 k)],[]⟩) l.length (by simp [hx]) (by simp) ?_ ?_
 ·
  refine ⟨0,by omega,rfl,?_⟩
  simp [trim_mk,go_sem,subHeap,renObj,pos]
 ·
  rintro n st ⟨k,hk,hz,rfl⟩
  by_cases hlt:k < l.length
  ·
   have hg:l[k]? = some (nth l k):=nth_get? _ _ hlt
   have wk:=i64_up (k:=k) (by omega)
   have hle:k≤l.length:=by omega
   have hrow:(∀ row ∈ List.map cE l,row.length=5)=True:=eq_true (cE_row l)
   have htk:List.take k (List.map cE l)=List.map cE (List.take k l):=List.map_take.symm
   have hlk:(l.take k).length≤40:=by rw [List.length_take]; omega
   have hreg:=okReg_take hz hle
   have fin:∀ r:Int,logErr l k=r→r≠0→firstNZ (logErr l) l.length=r:=fun r h1 h2=>by rw [firstNZ_hit hz (by rw [h1]; exact h2) hlt,h1]
   simp only [go_sem,hlt,hg,cE]
   refine ops_call (.pureE (check_meets (nth l k)) (by simp [go_sem,cE])) ?_
   by_cases h1:checkEntry (nth l k)=0
   ·
    have hr:=reg_of_check h1
    simp only [go_sem,h1,hle,hrow,htk,Int.le_refl,Int.sub_zero,Int.toNat_zero,Int.natCast_nonneg,cE]
    refine ops_call (.pureE (find_meets (l.take k) (nth l k).id (by omega)) (by simp [go_sem,cId])) ?_
    by_cases h2:0≤findE (l.take k) (nth l k).id
    ·
     simp only [go_sem,h2]
     refine ret_pure hx ?_
     have:logErr l k=6:=by simp [logErr,h1,h2]
     simp [go_sem,L21,R21,fin _ this (by decide)]
    simp only [go_sem,h2,hle,hrow,htk,Int.le_refl,Int.sub_zero,Int.toNat_zero,Int.natCast_nonneg,cE]
    refine ops_call (.pureE (many_meets (l.take k) hreg (by omega)) (by simp [go_sem])) ?_
    have hw:∀ r,IntKind.i64.wrap ((cntR (l.take k) r:Int) + 1)=(cntR (l.take k) r:Int) + 1:=fun r=>by have:=cntR_le (l.take k) r; rw [IntWalk.i64_in _ (by omega)]
    by_cases h3:(cntR (l.take k) (nth l k).id.r:Int) + 1=(nth l k).id.n
    ·
     have h3e:logErr l k=if readyB (l.take k) (nth l k)=false then 5 else 0:=by simp [logErr,h1,h2,h3]
     rcases hr with hr | hr
     all_goals
      have h3':=h3
      rw [hr] at h3'
      have dc:=decide_eq_true h3'
      simp only [go_sem,hr,hw,dc,hle,hrow,htk,Int.sub_zero,Int.natCast_nonneg,cE,Int.reduceLE,Int.reduceLT,Int.reduceToNat,Int.cast_ofNat_Int,Int.ofNat_zero,Int.toNat_zero,Int.le_refl]
      refine ops_call (.pureE (ready_meets (l.take k) (nth l k) hreg (by omega) (by omega) (by have:=(check_ok_bounds h1).2.2.2.1; omega)) (by simp [go_sem,cE,hr])) ?_
      cases h4:readyB (l.take k) (nth l k)
      ·
       simp only [go_sem]
       refine ret_pure hx ?_
       have:logErr l k=5:=by rw [h3e,if_pos h4]
       simp [go_sem,L21,R21,fin _ this (by decide)]
      ·
       simp only [go_sem,wk]
       refine ⟨by simp,n - 1,by omega,k + 1,by omega,firstNZ_succ hz (by rw [h3e,if_neg (by simp [h4])]),?_⟩
       simp [trim_mk,go_sem,subHeap,renObj,pos]
    ·
     rcases hr with hr | hr
     all_goals
      have h3':=h3
      rw [hr] at h3'
      have dc:=decide_eq_false h3'
      simp only [go_sem,hr,hw,dc,Int.reduceLE,Int.reduceLT,Int.reduceToNat,Int.cast_ofNat_Int,Int.ofNat_zero,Int.toNat_zero,Int.le_refl]
      refine ret_pure hx ?_
      have:logErr l k=4:=by simp [logErr,h1,h2,h3]
      simp [go_sem,L21,R21,fin _ this (by decide)]
   ·
    simp only [go_sem,h1]
    refine ret_pure hx ?_
    have:logErr l k=checkEntry (nth l k):=by simp [logErr,h1]
    simp [go_sem,L21,R21,fin _ this h1]
  ·
   have hke:k=l.length:=by omega
   subst hke
   simp only [go_sem,Nat.lt_irrefl,hz]
   refine ret_pure hx ?_
   simp [go_sem,L21,R21,hz]
end Go.Proofs.YtfdolehffjmdmaaGreatDoor
/- Library functions of this seat,told apart by number (what the guide's shelf says of them is used by name). -/
namespace Go.Proofs.YtfdolehffjmdmaaGreatDoor
open Go.Shelf Go.Proofs
def sortIdL_ren:Go.Shelf.Ren:=⟨fun | 6=>127 | 15=>133 | 14=>156 | 28=>166 | 29=>167 | 20=>178 | 21=>179 | 22=>180 | 23=>181 | 24=>182 | 25=>183 | 26=>184 | 27=>185 | 46=>199 | 47=>187 | 48=>188 | 49=>200 | 50=>201 | 57=>206 | n=>n,fun | 22=>44 | 24=>43 | 25=>145 | 3=>3 | 39=>171 | 0=>0 | 53=>206 | 55=>208 | 4=>4 | 46=>200 | 45=>199 | 50=>177 | 5=>5 | 9=>9 | 66=>220 | 70=>224 | 76=>232 | 77=>233 | n=>n,fun n=>n⟩
theorem sortIdL:SlLaysF0.n6 Tryz.prog sortIdL_ren := {
 mixed:=by kernel_rfl,
 f6:=⟨Tryz.f127.name,by decide,Tryz.func127.trans (congrArg some (by kernel_rfl))⟩,
 f14:=⟨Tryz.f156.name,by decide,Tryz.func156.trans (congrArg some (by kernel_rfl))⟩,
 f15:=Tryz.func133.trans (congrArg some (by kernel_rfl)),
 f20:=⟨Tryz.f178.name,by decide,Tryz.func178.trans (congrArg some (by kernel_rfl))⟩,
 f21:=⟨Tryz.f179.name,by decide,Tryz.func179.trans (congrArg some (by kernel_rfl))⟩,
 f22:=⟨Tryz.f180.name,by decide,Tryz.func180.trans (congrArg some (by kernel_rfl))⟩,
 f23:=⟨Tryz.f181.name,by decide,Tryz.func181.trans (congrArg some (by kernel_rfl))⟩,
 f24:=⟨Tryz.f182.name,by decide,Tryz.func182.trans (congrArg some (by kernel_rfl))⟩,
 f25:=⟨Tryz.f183.name,by decide,Tryz.func183.trans (congrArg some (by kernel_rfl))⟩,
 f26:=⟨Tryz.f184.name,by decide,Tryz.func184.trans (congrArg some (by kernel_rfl))⟩,
 f27:=⟨Tryz.f185.name,by decide,Tryz.func185.trans (congrArg some (by kernel_rfl))⟩,
 f28:=Tryz.func166.trans (congrArg some (by kernel_rfl)),
 f29:=Tryz.func167.trans (congrArg some (by kernel_rfl)),
 f46:=⟨Tryz.f199.name,by decide,Tryz.func199.trans (congrArg some (by kernel_rfl))⟩,
 f47:=Tryz.func187.trans (congrArg some (by kernel_rfl)),
 f48:=Tryz.func188.trans (congrArg some (by kernel_rfl)),
 f49:=⟨Tryz.f200.name,by decide,Tryz.func200.trans (congrArg some (by kernel_rfl))⟩,
 f50:=⟨Tryz.f201.name,by decide,Tryz.func201.trans (congrArg some (by kernel_rfl))⟩,
 f57:=⟨Tryz.f206.name,by decide,Tryz.func206.trans (congrArg some (by kernel_rfl))⟩,
 t0:=Tryz.underlying0,
 a0:=Tryz.isAgg0,
 z0:=Tryz.sizeOf0,
 v0:=Tryz.zeroValue0,
 t3:=Tryz.underlying3,
 a3:=Tryz.isAgg3,
 z3:=Tryz.sizeOf3,
 v3:=Tryz.zeroValue3,
 t4:=Tryz.underlying4,
 a4:=Tryz.isAgg4,
 z4:=Tryz.sizeOf4,
 v4:=Tryz.zeroValue4,
 t5:=Tryz.underlying5,
 a5:=Tryz.isAgg5,
 z5:=Tryz.sizeOf5,
 v5:=Tryz.zeroValue5,
 t9:=Tryz.underlying9,
 a9:=Tryz.isAgg9,
 z9:=Tryz.sizeOf9,
 v9:=Tryz.zeroValue9,
 t22:=Tryz.underlying44,
 a22:=Tryz.isAgg44,
 z22:=Tryz.sizeOf44,
 v22:=Tryz.zeroValue44,
 t25:=Tryz.underlying145,
 a25:=Tryz.isAgg145,
 z25:=Tryz.sizeOf145,
 v25:=Tryz.zeroValue145,
 t39:=Tryz.underlying171,
 a39:=Tryz.isAgg171,
 z39:=Tryz.sizeOf171,
 v39:=Tryz.zeroValue171,
 t45:=Tryz.underlying199,
 a45:=Tryz.isAgg199,
 z45:=Tryz.sizeOf199,
 v45:=Tryz.zeroValue199,
 t46:=Tryz.underlying200,
 a46:=Tryz.isAgg200,
 z46:=Tryz.sizeOf200,
 v46:=Tryz.zeroValue200,
 t50:=Tryz.underlying177,
 a50:=Tryz.isAgg177,
 z50:=Tryz.sizeOf177,
 v50:=Tryz.zeroValue177,
 t53:=Tryz.underlying206,
 a53:=Tryz.isAgg206,
 z53:=Tryz.sizeOf206,
 v53:=Tryz.zeroValue206,
 t55:=Tryz.underlying208,
 a55:=Tryz.isAgg208,
 z55:=Tryz.sizeOf208,
 v55:=Tryz.zeroValue208,
 t66:=Tryz.underlying220,
 a66:=Tryz.isAgg220,
 z66:=Tryz.sizeOf220,
 v66:=Tryz.zeroValue220,
 t70:=Tryz.underlying224,
 a70:=Tryz.isAgg224,
 z70:=Tryz.sizeOf224,
 v70:=Tryz.zeroValue224,
 t76:=Tryz.underlying232,
 a76:=Tryz.isAgg232,
 z76:=Tryz.sizeOf232,
 v76:=Tryz.zeroValue232,
 t77:=Tryz.underlying233,
 a77:=Tryz.isAgg233,
 z77:=Tryz.sizeOf233,
 v77:=Tryz.zeroValue233 }
end Go.Proofs.YtfdolehffjmdmaaGreatDoor
/- slices.SortFunc at ids by entry.Order: an array of ids is put in order. -/
namespace Go.Proofs.YtfdolehffjmdmaaGreatDoor
open Go.RowKit
theorem cmpS_calls (a b:Int) (w:World):Calls Tryz.prog 140 #[.int .i64 a,.int .i64 b] w fun e w'=>e = .returned (.int .i64 (cmpI a b))∧w=w':=by
 by_cases h1:a < b
 ·
  go_enter Tryz.func140,Tryz.ntmps140
  go_wp2
  go_ret
  exact ⟨by simp [cmpI,h1],rfl⟩
 ·
  by_cases h2:b < a
  ·
   go_enter Tryz.func140,Tryz.ntmps140
   go_wp2
   go_ret
   exact ⟨by simp [cmpI,h1,h2],rfl⟩
  ·
   go_enter Tryz.func140,Tryz.ntmps140
   go_wp2
   go_ret
   exact ⟨ret_int (by unfold cmpI; rw [if_neg (by omega),if_neg (by omega)]),rfl⟩
theorem orderS_calls (a b:Id) (w:World):Calls Tryz.prog 104 #[.agg #[.int .i64 a.r,.int .i64 a.n],.agg #[.int .i64 b.r,.int .i64 b.n]] w fun e w'=>e = .returned (.int .i64 (ordI a b))∧∃ q os',w'=Go.Sort.grow (w.drewN q) os':=by
 go_enter Tryz.func104,Tryz.ntmps104
 go_wp2_with (go_at_call 140; refine (cmpS_calls _ _ _).mono ?_; rintro e w' ⟨rfl,rfl⟩)
 ·
  go_ret
  have h:(cmpI a.r b.r != 0)=true:=by assumption
  exact ⟨ret_int (by rw [ordI,if_neg (by simpa using h)]),0,_,by rw [Go.Sort.alloc_eq_grow,Go.Sort.alloc_eq_grow,Go.Sort.grow_grow]; rfl⟩
 ·
  go_ret
  have h:(cmpI a.r b.r != 0)=false:=by assumption
  exact ⟨ret_int (by rw [ordI,if_pos (by simpa using h)]),0,_,by rw [Go.Sort.alloc_eq_grow,Go.Sort.alloc_eq_grow,Go.Sort.grow_grow]; rfl⟩
theorem cmpLaysI (blk off size:Nat) (w:World):CmpLays Tryz.prog 104 #[] eId 2 ordI blk off size w:=fun _ _ _ _ a b=>orderS_calls a b _
theorem swoI:Go.Sort.SWO (ltOf ordI) where
 irrefl:=fun x=>by simp [ltOf,ordI_lt,lessB]
 trans:=fun x y z h1 h2=>by
  simp only [ltOf,decide_eq_true_eq,ordI_lt,lessB] at h1 h2 ⊢
  omega
 ntrans:=fun x y z h1 h2=>by
  simp only [ltOf,decide_eq_false_iff_not,ordI_lt,lessB,decide_eq_true_eq] at h1 h2 ⊢
  omega
theorem ordI_part (x y:Id) (h1:ltOf ordI x y=false) (h2:ltOf ordI y x=false):x=y:=by
 simp only [ltOf,decide_eq_false_iff_not,ordI_lt,lessB,decide_eq_true_eq] at h1 h2
 cases x; cases y
 simp at h1 h2 ⊢
 omega
def sortI (l:List Id):List Id:=l.mergeSort fun x y => !(ltOf ordI) y x
theorem sortIds_meets (l : List Id) (v T : Nat) (hl : l.length < 4611686018427387904) :
    Meets Tryz.prog 127 [.arr 0 v,.clo 104 []] [.arr v true false T 2 (l.map cId)] (.tup []) [.arr v true false T 2 ((sortI l).map cId)]:=by
  intro x vs hx h0 hp
  obtain ⟨a,b,rfl,h1,h2⟩:=two_args hp.1
  have ha:=hp.2 0 _ _ rfl h1
  have hb:=hp.2 1 _ _ rfl h2
  obtain ⟨ws,rfl,hw,-⟩:=hb.clo_inv
  obtain rfl:ws = []:=List.length_eq_zero_iff.1 hw
  obtain ⟨e1,e2,e3⟩:=h0.row (id:=0) rfl ha
  rcases e3 with ⟨rfl,hnil⟩ | ⟨g,cap,cur,rfl,hc,hcap,hm,hz,hrow⟩
  · have:l = []:=by simpa using hnil
    subst this
    refine (AnyF.slices_SortFunc_none sortIdL none 0 (.func (.func 104) #[] #[]) x.w0).mono ?_
    rintro e w' ⟨rfl,rfl⟩
    exact ⟨_,x.C0,rfl,by simpa [sortI] using h0,.tup [] [] rfl (fun j p u h=>by simp at h)⟩
  · have eg:∀ args w,(callFunc 104 args).run Tryz.prog w = .ok (.enter 104 args) w:=enters_of Tryz.func104 (by kernel_rfl) rfl
    have hH:=flat_id.holds l hc hrow
    have hlt:g < x.w0.heap.size:=(Array.getElem?_eq_some_iff.1 hc).1
    have key:=AnyQ.slices_SortFunc_total sortIdL 2 (fun _=>by kernel_rfl) (fun _=>by kernel_rfl) eId flat_id.len flat_id.one ordI swoI 104 #[] g 0 cap l.toArray x.w0 eg (cmpLaysI g 0 _ x.w0) hH hlt (by simpa using hl) ordI_part
    rw [List.length_map] at *
    refine key.mono ?_
    rintro e w' ⟨rfl,n,os,rfl⟩
    obtain ⟨cur',c1,c2,c3,c4⟩:=row_world eId 2 x.w0 g n (l.toArray.toList.mergeSort fun x y => !(ltOf ordI) y x).toArray os hc
    have hsl:(sortI l).length=l.length:=(List.mergeSort_perm l _).length_eq
    have hown:(x.C0.sv 0).ownBlock=some g:=by rw [← e1]; rfl
    obtain ⟨C',k1,k2,k3⟩:=h0.rerow (id:=0) (v':=v) (g':=g) (cap':=cap) (rows':=(sortI l).map cId) (cur':=cur') rfl (by
      refine ⟨c4.size,c4.os,c4.tape,c4.output,fun b hb hne=>c4.blk b hb fun e=>hne (by rw [hown,e])⟩) (.inl hown) (.inl ⟨rfl,by rw [← e1,List.length_map,hsl]⟩) c1 (by rw [List.length_map,hsl]; exact hcap) hm (by rw [c2,hz])
      (fun row hr=>by obtain ⟨y,-,rfl⟩:=List.mem_map.1 hr; rfl) (flat_id.rep c3 (l:=sortI l) (sortI l).length (fun i hi=>by
        rw [List.getElem?_eq_getElem hi]
        simp [sortI] at hi ⊢
        simp [hi]) rfl (by simp [sortI]))
    exact ⟨_,C',rfl,k1,.tup [] [] rfl (fun j p u h=>by simp at h)⟩
end Go.Proofs.YtfdolehffjmdmaaGreatDoor
/- Plain laws of logs: ids in order,what a right log has,pasts. No program in sight. -/
namespace Go.Proofs.YtfdolehffjmdmaaGreatDoor
/-! ids in order -/
def Asc (l:List Id):Prop:=l.Pairwise fun a b=>lessB a b=true
theorem lessB_trans {a b c:Id} (h1:lessB a b=true) (h2:lessB b c=true):lessB a c=true:=by
 simp only [lessB,decide_eq_true_eq] at *; omega
theorem lessB_irrefl (a:Id):lessB a a=false:=by simp [lessB]
theorem lessB_conn {a b:Id} (h1:lessB a b=false) (h2:lessB b a=false):a=b:=by
 cases a; cases b
 simp only [lessB,decide_eq_false_iff_not] at h1 h2
 simp
 omega
theorem asc_ext:∀ {l m:List Id},Asc l→Asc m→(∀ x,x ∈ l↔x ∈ m)→l=m
 | [],[],_,_,_=>rfl
 | [],y :: m,_,_,h=>by have:=(h y).2 (by simp); simp at this
 | x :: l,[],_,_,h=>by have:=(h x).1 (by simp); simp at this
 | x :: l,y :: m,h1,h2,h=>by
  have h1':=List.pairwise_cons.1 h1
  have h2':=List.pairwise_cons.1 h2
  have hxy:x=y:=by
   rcases List.mem_cons.1 ((h x).1 (by simp)) with e | e
   ·
    exact e
   rcases List.mem_cons.1 ((h y).2 (by simp)) with e' | e'
   ·
    exact e'.symm
   have:=lessB_trans (h1'.1 y e') (h2'.1 x e)
   rw [lessB_irrefl] at this; cases this
  subst hxy
  rw [asc_ext h1'.2 h2'.2 fun z=>?_]
  constructor
  ·
   intro hz
   rcases List.mem_cons.1 ((h z).1 (by simp [hz])) with e | e
   ·
    subst e; have:=h1'.1 z hz; rw [lessB_irrefl] at this; cases this
   ·
    exact e
  ·
   intro hz
   rcases List.mem_cons.1 ((h z).2 (by simp [hz])) with e | e
   ·
    subst e; have:=h2'.1 z hz; rw [lessB_irrefl] at this; cases this
   ·
    exact e
theorem rise_len:∀ (l:List Int) (a b:Int),l.Pairwise (· < ·)→(∀ x ∈ l,a≤x∧x < b)→a≤b→(l.length:Int)≤b - a
 | [],a,b,_,_,h=>by simp; omega
 | x :: l,a,b,hp,hm,h=>by
  have hp':=List.pairwise_cons.1 hp
  have hx:=hm x (by simp)
  have:=rise_len l (x + 1) b hp'.2 (fun y hy=>⟨hp'.1 y hy,(hm y (by simp [hy])).2⟩) (by omega)
  simp only [List.length_cons]; omega
theorem asc_len {l:List Id} (h:Asc l) (hk:∀ x ∈ l,okId x=true):l.length≤40:=by
 have hb:∀ x ∈ l,0≤x.r∧x.r≤1∧1≤x.n∧x.n≤20:=fun x hx=>by
  have:=hk x hx
  simp only [okId,Bool.and_eq_true,wthn_iff] at this
  omega
 have:=rise_len (l.map fun x=>x.r * 20 + x.n) 1 41 (List.pairwise_map.2 (List.Pairwise.imp_of_mem (fun {a b} ha hb' hab=>by
  have h1:=hb a ha
  have h2:=hb b hb'
  simp only [lessB,decide_eq_true_eq] at hab
  omega) h)) (fun y hy=>by
   obtain ⟨x,hx,rfl⟩:=List.mem_map.1 hy
   have:=hb x hx
   omega) (by omega)
 rw [List.length_map] at this
 omega
theorem sortI_mem {l:List Id} {x:Id}:x ∈ sortI l↔x ∈ l:=(List.mergeSort_perm l _).mem_iff
theorem sortI_length (l:List Id):(sortI l).length=l.length:=(List.mergeSort_perm l _).length_eq
theorem sortI_sorted (l:List Id):(sortI l).Pairwise fun a b=>lessB b a=false:=by
 have:=List.pairwise_mergeSort (le:=fun x y:Id => !(ltOf ordI) y x) (fun a b c h1 h2=>by
  simp only [ltOf,ordI_lt,Bool.not_eq_true',decide_eq_false_iff_not,Bool.not_eq_true] at *
  simp only [lessB,decide_eq_false_iff_not] at *; omega) (fun a b=>by
  simp only [ltOf,ordI_lt,Bool.or_eq_true,Bool.not_eq_true',decide_eq_false_iff_not,lessB,decide_eq_true_eq]; omega) l
 exact this.imp fun {a b} h=>by simpa [ltOf,ordI_lt] using h
theorem compI_mem {l:List Id} {x:Id}:x ∈ compI l↔x ∈ l:=by
 unfold compI Lib.compact Lib.compactUpTo
 rw [List.mem_map]
 constructor
 ·
  rintro ⟨j,hj,rfl⟩
  have:j < l.length:=by simpa using (List.mem_filter.1 hj).1
  simp [this]
 ·
  intro hx
  obtain ⟨j,hj,rfl⟩:=List.getElem_of_mem hx
  induction j using Nat.strongRecOn with
  | _ j ih =>
   by_cases hk:Lib.keeps l.toArray j=true
   ·
    exact ⟨j,List.mem_filter.2 ⟨List.mem_range.2 hj,hk⟩,by simp [hj]⟩
   ·
    simp only [Lib.keeps,decide_eq_true_eq,not_or,Decidable.not_not] at hk
    obtain ⟨h0,h1⟩:=hk
    have hj':j - 1 < l.length:=by omega
    obtain ⟨i,h2,h3⟩:=ih (j - 1) (by omega) hj' (List.getElem_mem hj')
    refine ⟨i,h2,?_⟩
    rw [h3]
    have:=h1
    simp only [hj,hj',List.getElem!_toArray,getElem!_pos] at this
    exact this.symm
theorem compI_asc {l:List Id} (h:l.Pairwise fun a b=>lessB b a=false):Asc (compI l):=by
 unfold compI Lib.compact Lib.compactUpTo Asc
 rw [List.pairwise_map]
 refine List.Pairwise.imp_of_mem (R:=(· < ·)) (fun {i j} hi hj hij=>?_) (List.Pairwise.filter _ List.pairwise_lt_range)
 obtain ⟨h1,-⟩:=List.mem_filter.1 hi
 obtain ⟨h2,h3⟩:=List.mem_filter.1 hj
 have hjl:j < l.length:=List.mem_range.1 h2
 simp only [Lib.keeps,decide_eq_true_eq] at h3
 have h3':=h3.resolve_left (by omega)
 have hj1:j - 1 < l.length:=by omega
 have hil:i < l.length:=by omega
 simp only [List.getElem!_toArray,getElem!_pos,hjl,hj1] at h3'
 simp only [List.getElem!_toArray,getElem!_pos,hjl,hil]
 have a1:lessB l[j] l[j - 1]=false:=List.pairwise_iff_getElem.1 h (j - 1) j hj1 hjl (by omega)
 have a2:lessB l[j - 1] l[j]=true:=by
  cases e:lessB l[j - 1] l[j]
  ·
   exact (h3' (lessB_conn a1 e)).elim
  ·
   rfl
 by_cases e:i=j - 1
 ·
  subst e; exact a2
 ·
  have a3:lessB l[j - 1] l[i]=false:=List.pairwise_iff_getElem.1 h i (j - 1) hil hj1 (by omega)
  simp only [lessB,decide_eq_false_iff_not,decide_eq_true_eq] at *
  omega
def setI (l:List Id):List Id:=compI (sortI l)
theorem setI_mem {l:List Id} {x:Id}:x ∈ setI l↔x ∈ l:=compI_mem.trans sortI_mem
theorem setI_asc (l:List Id):Asc (setI l):=compI_asc (sortI_sorted l)
theorem sortI_asc {l:List Id} (h:l.Nodup):Asc (sortI l):=by
 have h1:(sortI l).Nodup:=(List.mergeSort_perm l _).nodup_iff.2 h
 exact (List.Pairwise.and (sortI_sorted l) h1).imp fun {a b} ⟨h1,h2⟩=>by
  cases e:lessB a b
  ·
   exact (h2 (lessB_conn e h1)).elim
  ·
   rfl
/-! finding -/
theorem idxF_take {α:Type} (p:α→Bool):∀ (l:List α) (k i:Nat),0≤idxF p (l.take k) i→idxF p l i=idxF p (l.take k) i∧idxF p l i < i + k
 | [],k,i,h=>by simp [idxF] at h
 | x :: l,0,i,h=>by simp [idxF] at h
 | x :: l,k + 1,i,h=>by
  simp only [List.take_succ_cons,idxF] at h ⊢
  split
  ·
   exact ⟨rfl,by omega⟩
  ·
   rename_i hx
   rw [if_neg hx] at h
   have:=idxF_take p l k (i + 1) h
   exact ⟨this.1,by omega⟩
theorem idxF_spec {α:Type} [Inhabited α] (p:α→Bool):∀ (l:List α) (i:Nat),0≤idxF p l i→∃ k:Nat,idxF p l i=i + k∧k < l.length∧p (nth l k)=true
 | [],i,h=>by simp [idxF] at h
 | x :: l,i,h=>by
  simp only [idxF] at h ⊢
  split
  ·
   rename_i hx
   exact ⟨0,by simp,by simp,by simpa [nth] using hx⟩
  ·
   rename_i hx
   rw [if_neg hx] at h
   obtain ⟨k,h1,h2,h3⟩:=idxF_spec p l (i + 1) h
   exact ⟨k + 1,by omega,by simp; omega,by simpa [nth] using h3⟩
theorem findE_take {l:List Entry} {k:Nat} {x:Id} (h:0≤findE (l.take k) x):findE l x=findE (l.take k) x∧findE l x < k:=by
 have:=idxF_take (fun e:Entry=>decide (e.id=x)) l k 0 h
 exact ⟨this.1,by have:=this.2; unfold findE; omega⟩
theorem findE_spec {l:List Entry} {x:Id} (h:0≤findE l x):∃ k:Nat,findE l x=k∧k < l.length∧(nth l k).id=x:=by
 obtain ⟨k,h1,h2,h3⟩:=idxF_spec _ l 0 h
 exact ⟨k,by rw [findE,h1]; simp,h2,by simpa using h3⟩
theorem findE_neg {l:List Entry} {x:Id}:findE l x < 0↔∀ e ∈ l,e.id≠x:=by
 rcases idxF_ge (fun e:Entry=>decide (e.id=x)) l 0 with ⟨h1,h2⟩ | ⟨h1,h2⟩
 ·
  rw [findE,h1]
  rw [List.any_eq_false] at h2
  exact ⟨fun _ e he=>by simpa using h2 e he,fun _=>by omega⟩
 ·
  rw [List.any_eq_true] at h2
  obtain ⟨e,he,hx⟩:=h2
  exact ⟨fun h=>by rw [findE] at h; omega,fun h=>(h e he (by simpa using hx)).elim⟩
/-! right logs -/
structure LogOk (l:List Entry):Prop where
 len:l.length≤40
 chk:∀ k,k < l.length→checkEntry (nth l k)=0
 new:∀ k,k < l.length→findE (l.take k) (nth l k).id < 0
 num:∀ k,k < l.length→(cntR (l.take k) (nth l k).id.r:Int) + 1=(nth l k).id.n
 lnk:∀ k,k < l.length→∀ x ∈ (nth l k).ls,0≤findE (l.take k) x
theorem log_ok {l:List Entry}:checkLog l=0↔LogOk l:=by
 have key:∀ k,logErr l k=0↔checkEntry (nth l k)=0∧findE (l.take k) (nth l k).id < 0∧(cntR (l.take k) (nth l k).id.r:Int) + 1=(nth l k).id.n∧∀ x ∈ (nth l k).ls,0≤findE (l.take k) x:=by
  intro k
  unfold logErr
  split
  ·
   rename_i h; exact ⟨fun e=>(h e).elim,fun e=>(h e.1).elim⟩
  ·
   rename_i h0
   have h0':checkEntry (nth l k)=0:=by simpa using h0
   split
   ·
    rename_i h; exact ⟨fun e=>(by cases e),fun e=>by omega⟩
   ·
    rename_i h1
    split
    ·
     rename_i h; exact ⟨fun e=>(by cases e),fun e=>(h e.2.2.1).elim⟩
    ·
     rename_i h2
     have h2':(cntR (l.take k) (nth l k).id.r:Int) + 1=(nth l k).id.n:=by simpa using h2
     have hr:readyB (l.take k) (nth l k)=true↔∀ x ∈ (nth l k).ls,0≤findE (l.take k) x:=by
      simp only [readyB,h2',decide_true,Bool.true_and,Bool.not_eq_true',List.any_eq_false,decide_eq_true_eq]
      exact ⟨fun h x hx=>by have:=h x hx; omega,fun h x hx=>by have:=h x hx; omega⟩
     rw [← hr]
     split
     ·
      rename_i h; exact ⟨fun e=>(by cases e),fun e=>by rw [h] at e; simp at e⟩
     ·
      rename_i h; exact ⟨fun _=>⟨h0',by omega,h2',by simpa using h⟩,fun _=>rfl⟩
 unfold checkLog
 split
 ·
  rename_i h; exact ⟨fun e=>(by cases e),fun e=>by have:=e.len; omega⟩
 ·
  rename_i h
  rw [firstNZ_zero]
  exact ⟨fun e=>⟨by omega,fun k hk=>((key k).1 (e k hk)).1,fun k hk=>((key k).1 (e k hk)).2.1,fun k hk=>((key k).1 (e k hk)).2.2.1,fun k hk=>((key k).1 (e k hk)).2.2.2⟩,
   fun e k hk=>(key k).2 ⟨e.chk k hk,e.new k hk,e.num k hk,e.lnk k hk⟩⟩
theorem LogOk.id_ok {l:List Entry} (h:LogOk l) {k:Nat} (hk:k < l.length):okId (nth l k).id=true:=(check_ok_bounds (h.chk k hk)).1
theorem LogOk.links {l:List Entry} (h:LogOk l) {k:Nat} (hk:k < l.length):(nth l k).ls.length≤6:=(check_ok_bounds (h.chk k hk)).2.2.2.1
theorem LogOk.link_lt {l:List Entry} (h:LogOk l) {k:Nat} (hk:k < l.length) {x:Id} (hx:x ∈ (nth l k).ls):0≤findE l x∧findE l x < k:=by
 have h1:=h.lnk k hk x hx
 have h2:=findE_take h1
 exact ⟨by omega,h2.2⟩
theorem LogOk.inj {l:List Entry} (h:LogOk l) {i k:Nat} (hi:i < l.length) (hk:k < l.length) (e:(nth l i).id=(nth l k).id):i=k:=by
 have aux:∀ i k,i < k→k < l.length→(nth l i).id=(nth l k).id→False:=fun i k hik hk e=>by
  have:=findE_neg.1 (h.new k hk) (nth l i) (by rw [List.mem_take_iff_getElem]; exact ⟨i,by omega,by rw [nth_eq _ _ (by omega)]⟩)
  exact this e
 rcases Nat.lt_trichotomy i k with h1 | h1 | h1
 ·
  exact (aux i k h1 hk e).elim
 ·
  exact h1
 ·
  exact (aux k i h1 hi e.symm).elim
theorem LogOk.find {l:List Entry} (h:LogOk l) {k:Nat} (hk:k < l.length):findE l (nth l k).id=k:=by
 have h0:¬ findE l (nth l k).id < 0:=fun hn=>findE_neg.1 hn (nth l k) (by rw [nth_eq _ _ hk]; exact List.getElem_mem hk) rfl
 obtain ⟨j,h1,h2,h3⟩:=findE_spec (by omega:0≤findE l (nth l k).id)
 rw [h1,h.inj h2 hk h3]
theorem LogOk.reg {l:List Entry} (h:LogOk l):okReg l:=by
 intro e he
 obtain ⟨k,hk,rfl⟩:=List.getElem_of_mem he
 rw [← nth_eq l k hk]
 exact reg_of_check (h.chk k hk)
/-! pasts -/
def pastAt (ps:List (List Id)) (l:List Entry) (x:Id):List Id:=nth ps (findE l x).toNat
def allOf (ps:List (List Id)) (l:List Entry) (ls:List Id):List Id:=ls.flatMap fun x=>x :: pastAt ps l x
def pastsTo (l:List Entry):Nat→List (List Id)
 | 0 => []
 | k + 1=>pastsTo l k ++ [setI (allOf (pastsTo l k) l (nth l k).ls)]
def pasts (l:List Entry):List (List Id):=pastsTo l l.length
def pastOf (l:List Entry) (k:Nat):List Id:=nth (pasts l) k
@[simp] theorem pastsTo_length (l:List Entry):∀ k,(pastsTo l k).length=k
 | 0=>rfl
 | k + 1=>by simp [pastsTo,pastsTo_length l k]
theorem pastsTo_nth (l:List Entry) {i k:Nat} (h:i < k):nth (pastsTo l k) i=nth (pastsTo l (i + 1)) i:=by
 induction k with
 | zero=>omega
 | succ k ih =>
  by_cases e:i=k
  ·
   rw [e]
  ·
   rw [← ih (by omega),nth_eq _ _ (by simp; omega),nth_eq _ _ (by simp; omega)]
   simp only [pastsTo]
   rw [List.getElem_append_left]
theorem nth_last (l:List Entry) (k:Nat):nth (pastsTo l (k + 1)) k=setI (allOf (pastsTo l k) l (nth l k).ls):=by
 rw [nth_eq _ _ (by simp)]
 simp only [pastsTo]
 rw [List.getElem_append_right (by simp)]
 simp
theorem allOf_to {l:List Entry} (h:LogOk l) {k m:Nat} (hk:k < l.length) (hm:k≤m):allOf (pastsTo l m) l (nth l k).ls=allOf (pastsTo l k) l (nth l k).ls:=by
 unfold allOf
 have:∀ x ∈ (nth l k).ls,pastAt (pastsTo l m) l x=pastAt (pastsTo l k) l x:=fun x hx=>by
  have:=h.link_lt hk hx
  unfold pastAt
  rw [pastsTo_nth l (by omega:(findE l x).toNat < m),pastsTo_nth l (by omega:(findE l x).toNat < k)]
 rw [List.flatMap_def,List.flatMap_def]
 congr 1
 exact List.map_congr_left fun x hx=>by rw [this x hx]
theorem pastOf_eq {l:List Entry} (h:LogOk l) {k:Nat} (hk:k < l.length):pastOf l k=setI (allOf (pasts l) l (nth l k).ls):=by
 unfold pastOf pasts
 rw [pastsTo_nth l hk,nth_last,allOf_to h hk (Nat.le_of_lt hk)]
theorem pastOf_asc {l:List Entry} (h:LogOk l) {k:Nat} (hk:k < l.length):Asc (pastOf l k):=by
 rw [pastOf_eq h hk]; exact setI_asc _
theorem mem_pastOf {l:List Entry} (h:LogOk l) {k:Nat} (hk:k < l.length) {y:Id}:y ∈ pastOf l k↔∃ x ∈ (nth l k).ls,y=x∨y ∈ pastOf l (findE l x).toNat:=by
 rw [pastOf_eq h hk,setI_mem,allOf,List.mem_flatMap]
 simp only [List.mem_cons]
 rfl
theorem pastOf_lt {l:List Entry} (h:LogOk l):∀ (k:Nat),k < l.length→∀ y ∈ pastOf l k,∃ j,j < k∧(nth l j).id=y:=by
 intro k
 induction k using Nat.strongRecOn with
 | _ k ih =>
  intro hk y hy
  obtain ⟨x,hx,he⟩:=(mem_pastOf h hk).1 hy
  obtain ⟨h1,h2⟩:=h.link_lt hk hx
  obtain ⟨j,h3,h4,h5⟩:=findE_spec h1
  rcases he with rfl | he
  ·
   exact ⟨j,by omega,h5⟩
  ·
   obtain ⟨i,h6,h7⟩:=ih (findE l x).toNat (by omega) (by omega) y he
   exact ⟨i,by omega,h7⟩
theorem pastOf_ok {l:List Entry} (h:LogOk l) {k:Nat} (hk:k < l.length):∀ y ∈ pastOf l k,okId y=true:=by
 intro y hy
 obtain ⟨j,h1,rfl⟩:=pastOf_lt h k hk y hy
 exact h.id_ok (by omega)
theorem pastOf_len {l:List Entry} (h:LogOk l) {k:Nat} (hk:k < l.length):(pastOf l k).length≤40:=asc_len (pastOf_asc h hk) (pastOf_ok h hk)
end Go.Proofs.YtfdolehffjmdmaaGreatDoor
/- A struct that nobody writes any more: its pointer shows its cells,and its object is let go. -/
namespace Go.Proofs.YtfdolehffjmdmaaGreatDoor
open Go.RowKit
theorem weak_rptr {x : Cx} {nt : Nat} {st : St} (t id : Nat) {cells : List PV} {H' : List AObj} {cells' : List PV} (h : st.env t = .ptr id 0) (hid : st.heap[id]? = some (.box cells)) (hc : cells.map (frz st.heap) = cells') (hp : cells'.all PV.isPure = true) (hH : st.heap.set id .gone = H') :
    Weak x nt st (st.put (some t) (.rptr cells') H'):=by
  subst hc; subst hH
  intro a w ⟨⟨C,hr,he⟩,hdf,hs⟩
  have hlt:id < st.heap.length:=(List.getElem?_eq_some_iff.1 hid).1
  obtain ⟨cs,T,g1,g2,g3⟩:=hr.obj id _ hid
  have hb:C.blk id < w.heap.size:=(Array.getElem?_eq_some_iff.1 g1).1
  have hmp:∀ p v,RepP (Stab x C st.heap w) w p v→RepP (Stab x C (st.heap.set id .gone) w) w p v:=by
    intro p v h
    refine h.mono (fun b o h=>⟨h.1,h.2.1,fun i ob1 hi=>?_⟩) fun b o h=>rfl
    by_cases e:i=id
    · subst e; rw [List.getElem?_set_self hlt] at hi; cases hi; trivial
    · rw [List.getElem?_set_ne (Ne.symm e)] at hi; exact h.2.2 i ob1 hi
  obtain ⟨k1,k2⟩:=hr.change (C':=C) hid (ob' := .gone) (step_refl w) rfl (fun _=>rfl) (fun _ _=>⟨rfl,rfl⟩) (.inl ⟨rfl,rfl⟩)
    (fun b o hb hf=>trivial) (fun b o hb hf=>rfl) (fun b hb=>hb.elim) (fun _ _=>trivial)
  have hfz:=frz_cells (vs:=cells) (us:=cs.toList) hr (fun j q u hq hu=>g3 j q u hq (by rw [← Array.getElem?_toList]; exact hu)) hp
  refine ⟨⟨C,k1,fun u=>?_⟩,hdf,hs⟩
  simp only [St.put,Option.some.injEq]
  by_cases e:t=u
  · subst e
    rw [if_pos rfl]
    have:=he t
    rw [h] at this
    rw [this.ptr_inv.1]
    refine .rptr _ (C.blk id) 0 (fun j=>cs[j]!) (fun j p hj=>?_) fun j p hj=>?_
    all_goals
      have hjl:j < cs.size:=by
        have:=(List.getElem?_eq_some_iff.1 hj).1
        rw [List.length_map] at this; omega
    · refine ⟨⟨?_,hb,fun i ob1 hi=>?_⟩,?_⟩
      · rcases hr.mine id _ _ hid rfl with h | h
        · exact .inr (.inl h)
        · exact .inr (.inr h)
      · by_cases e:i=id
        · subst e; rw [List.getElem?_set_self hlt] at hi; cases hi; trivial
        · rw [List.getElem?_set_ne (Ne.symm e)] at hi
          exact AObj.free_of_not (fun hb=>e (hr.apart i id ob1 _ _ hi hid hb rfl)) _
      · simp [World.cell?,g1,hjl]
    · exact hmp _ _ (hfz j p _ hj (by simp [hjl])).2
  · rw [if_neg e]; exact k2 _ _ (he u)
end Go.Proofs.YtfdolehffjmdmaaGreatDoor
/- Pasts: contracts. -/
namespace Go.Proofs.YtfdolehffjmdmaaGreatDoor
set_option linter.unusedSimpArgs false
set_option linter.unusedVariables false
open Go.RowKit
def ofRows (ps:List (List Id)):List (List PV):=ps.map fun p => [.list (p.map cId)]
def pvPasts (l:List Entry) (ps:List (List Id)):PV := .rptr [.list (l.map cE),.list (ofRows ps)]
theorem of_meets (l : List Entry) (ps : List (List Id)) (x : Id) (hl : l.length ≤ 9223372036854775806) (h0 : 0 ≤ findE l x) (h1 : findE l x < ps.length) :
    Meets Tryz.prog 101 [pvPasts l ps,.agg (cId x)] [] (.list ((pastAt ps l x).map cId)) []:=by
  have hg:ps[(findE l x).toNat]? = some (pastAt ps l x):=nth_get? _ _ (by omega)
  refine Meets.of_walk Tryz.func101 Tryz.ntmps101 low101 res101 (by simp) fun xx hx=>?_
  simp only [go_sem,L101,R101,cId,pvPasts,ofRows]
  refine ops_call (.pureE (find_meets l x hl) (by simp [go_sem,cId])) ?_
  simp only [go_sem,h0,h1,hg]
  refine ret_pure hx ?_
  simp [go_sem,L101,R101]
theorem ofA_meets (l : List Entry) (ps : List (List Id)) (x : Id) (v T : Nat) (hl : l.length ≤ 9223372036854775806) (h0 : 0 ≤ findE l x) (h1 : findE l x < ps.length) :
    Meets Tryz.prog 101 [.ptr 0 0,.agg (cId x)] [.box [.list (l.map cE),.arr 1 v],.arr v false false T 1 (ofRows ps)] (.list ((pastAt ps l x).map cId)) [.box [.list (l.map cE),.arr 1 v],.arr v false false T 1 (ofRows ps)]:=by
  have hg:ps[(findE l x).toNat]? = some (pastAt ps l x):=nth_get? _ _ (by omega)
  refine Meets.of_walk Tryz.func101 Tryz.ntmps101 low101 res101 (by simp) fun xx hx=>?_
  simp only [go_sem,L101,R101,cId,ofRows]
  refine ops_call (.pureE (find_meets l x hl) (by simp [go_sem,cId])) ?_
  simp only [go_sem,h0,h1,hg]
  refine ret_keep [] (by simp) (by simp) (by simp [hx]) ?_ ?_
  · simp [go_sem,L101,R101,hx,pos,List.range_succ]
  · simp [subHeap,renObj,hx,go_sem,pos,List.range_succ]
theorem allOf_take {ps:List (List Id)} {l:List Entry} {ls:List Id} {j:Nat} (h:j < ls.length):allOf ps l (ls.take (j + 1))=allOf ps l (ls.take j) ++ [nth ls j] ++ pastAt ps l (nth ls j):=by
 unfold allOf
 rw [List.take_succ_eq_append_getElem h,nth_eq _ _ h,List.flatMap_append]
 simp only [List.flatMap_cons,List.flatMap_nil,List.append_nil,List.append_assoc,List.cons_append,List.nil_append]
theorem pastAt_to {l:List Entry} {k:Nat} {x:Id} (hk:k≤l.length) (h0:0≤findE l x) (h1:findE l x < k):pastAt (pastsTo l k) l x=pastOf l (findE l x).toNat:=by
 unfold pastAt pastOf pasts
 rw [pastsTo_nth l (by omega:(findE l x).toNat < k),pastsTo_nth l (by omega:(findE l x).toNat < l.length)]
theorem allOf_len {l:List Entry} (h:LogOk l) {k:Nat} (hk:k < l.length):∀ j,j≤(nth l k).ls.length→(allOf (pastsTo l k) l ((nth l k).ls.take j)).length≤41 * j
 | 0,_=>by simp [allOf]
 | j + 1,hj=>by
  have hlj:j < (nth l k).ls.length:=by omega
  obtain ⟨f1,f2⟩:=h.link_lt hk (x:=nth (nth l k).ls j) (by rw [nth_eq _ _ hlj]; exact List.getElem_mem hlj)
  have:=allOf_len h hk j (by omega)
  have h2:=pastOf_len h (k:=(findE l (nth (nth l k).ls j)).toNat) (by omega)
  rw [allOf_take hlj,pastAt_to (by omega) f1 f2]
  simp only [List.length_append,List.length_cons,List.length_nil]
  omega
set_option maxHeartbeats 1000000 in
theorem before_meets (l:List Entry) (h:LogOk l):Meets Tryz.prog 84 [.list (l.map cE)] [] (pvPasts l (pasts l)) []:=by
 have hm:=h.len
 refine Meets.of_walk Tryz.func84 Tryz.ntmps84 low84 res84 (by simp) fun x hx=>?_
 simp only [go_sem,L84,R84]
 refine W_weak (weak_ownc 0 1 0 44 1 false false rfl rfl (by omega)) ?_
 refine loop_inv [3,12,13,14] 2 (fun n st=>∃ k:Nat,k + n=l.length ∧
  st=⟨mkE .top [(3,.ptr 0 0),(12,.list (l.map cE)),(13,.int .i64 l.length),(14,.int .i64 k)],[.box [.list (l.map cE),.arr 1 k],.arr k false false 44 1 (ofRows (pastsTo l k))]⟩) l.length (by simp [hx]) (by simp) ?_ ?_
 ·
  refine ⟨0,by omega,?_⟩
  simp [trim_mk,go_sem,subHeap,renObj,pos,List.range_succ,pastsTo,ofRows]
 ·
  rintro n st ⟨k,hk,rfl⟩
  by_cases hlt:k < l.length
  ·
   have hg:l[k]? = some (nth l k):=nth_get? _ _ hlt
   have wk:=i64_up (k:=k) (by omega)
   have hls:=h.links hlt
   simp only [go_sem,hlt,hg,cE]
   refine W_weak (weak_own 6 0 43 2 true false rfl (by omega)) ?_
   refine loop_inv [3,6,12,13,14,19,20,21] 4 (fun n st=>∃ j:Nat,j + n=(nth l k).ls.length ∧
    st=⟨mkE .top [(3,.ptr 0 0),(6,.arr 3 (2 * j)),(12,.list (l.map cE)),(13,.int .i64 l.length),(14,.int .i64 k),(19,.list ((nth l k).ls.map cId)),(20,.int .i64 (nth l k).ls.length),(21,.int .i64 j)],
     [.box [.list (l.map cE),.arr 1 k],.arr k false false 44 1 (ofRows (pastsTo l k)),.box (cE (nth l k)),.arr (2 * j) true false 43 2 ((allOf (pastsTo l k) l ((nth l k).ls.take j)).map cId)]⟩) (nth l k).ls.length (by simp [hx]) (by simp [St.put]) ?_ ?_
   ·
    refine ⟨0,by omega,?_⟩
    simp [trim_mk,go_sem,subHeap,renObj,pos,List.range_succ,cE,allOf]
   ·
    rintro n2 st ⟨j,hj,rfl⟩
    by_cases hlj:j < (nth l k).ls.length
    ·
     have hgj:(nth l k).ls[j]? = some (nth (nth l k).ls j):=nth_get? _ _ hlj
     have wj:=i64_up (k:=j) (by omega)
     have hmem:nth (nth l k).ls j ∈ (nth l k).ls:=by rw [nth_eq _ _ hlj]; exact List.getElem_mem hlj
     obtain ⟨f1,f2⟩:=h.link_lt hlt hmem
     simp only [go_sem,hlj,hgj,cId]
     have b1:=allOf_len h hlt j (by omega)
     have b2:=pastOf_len h (k:=(findE l (nth (nth l k).ls j)).toNat) (by omega)
     rw [← pastAt_to (k:=k) (by omega) f1 f2] at b2
     rw [app_arr rfl rfl (by simp) (by simp; omega)]
     simp only [go_sem]
     refine ops_call (.heapE [0,1] (r' := .list ((pastAt (pastsTo l k) l (nth (nth l k).ls j)).map cId)) (H' := [.box [.list (l.map cE),.arr 1 k],.arr k false false 44 1 (ofRows (pastsTo l k)),.box (cE (nth l k)),.arr (2 * j + 1) true false 43 2 ((allOf (pastsTo l k) l ((nth l k).ls.take j)).map cId ++ [cId (nth (nth l k).ls j)]),.box (cId (nth (nth l k).ls j))]) (ofA_meets l (pastsTo l k) (nth (nth l k).ls j) k 44 (by omega) f1 (by simp; omega))
      (by simp) (by simp) (by simp [go_sem,pos,cId]) (by simp [subHeap,renObj,go_sem,pos]) rfl (by simp [merge,mergeObj,callId,renObj,pos,go_sem,List.range_succ,backF,backId,cE,cId])) ?_
     simp only [go_sem]
     rw [app_arr rfl rfl (by simp [cId]) (by simp; omega)]
     simp only [go_sem,wj]
     refine ⟨rfl,?_⟩
     refine ⟨by simp,n2 - 1,by omega,j + 1,by omega,?_⟩
     simp [trim_mk,go_sem,subHeap,renObj,pos,List.range_succ,cE,allOf_take hlj,show 2 * (j + 1)=2 * j + 1 + 1 by omega]
    ·
     have htl:(nth l k).ls.take j=(nth l k).ls:=List.take_of_length_le (by omega)
     have b1:=allOf_len h hlt j (by omega)
     rw [htl] at b1
     simp only [go_sem,hlj,htl]
     have hso:=sortIds_meets (allOf (pastsTo l k) l (nth l k).ls) (2 * j) 43 (by omega)
     refine ops_call (.heapE [3] (r' := .tup []) (H' := [.box [.list (l.map cE),.arr 1 k],.arr k false false 44 1 (ofRows (pastsTo l k)),.box (cE (nth l k)),.arr (2 * j) true false 43 2 ((sortI (allOf (pastsTo l k) l (nth l k).ls)).map cId)]) hso
      (by simp) (by simp) (by simp [go_sem,pos]) (by simp [subHeap,renObj,go_sem,pos]) rfl (by simp [merge,mergeObj,callId,renObj,pos,go_sem,List.range_succ,backF,backId,cE])) ?_
     simp only [go_sem]
     have hco:=compactIds_meets (sortI (allOf (pastsTo l k) l (nth l k).ls)) (2 * j) 43 (by rw [sortI_length]; omega)
     refine ops_call1 3 hco rfl rfl rfl rfl (by simp [go_sem]) (by simp [go_sem,pos]) rfl ?_
     simp only [go_sem]
     rw [app_arr rfl rfl (by simp) (by simp [ofRows]; omega)]
     simp only [go_sem,wk]
     refine ⟨rfl,rfl,rfl,?_⟩
     refine ⟨by simp,n - 1,by omega,k + 1,by omega,?_⟩
     simp [trim_mk,go_sem,subHeap,renObj,pos,List.range_succ,cE,ofRows,pastsTo,setI]
  ·
   have hke:k=l.length:=by omega
   subst hke
   simp only [go_sem,Nat.lt_irrefl]
   refine ret_weak (weak_rptr (cells' := [.list (l.map cE),.list (ofRows (pastsTo l l.length))]) 2 0 rfl rfl (by simp [frz]) rfl rfl) ?_
   refine ret_pure hx ?_
   simp [go_sem,L84,R84,pvPasts,pasts]
end Go.Proofs.YtfdolehffjmdmaaGreatDoor
/- Logs,in the law text's words: counting,finding,being right; colors; ids among others: contracts. -/
namespace Go.Proofs.YtfdolehffjmdmaaGreatDoor
set_option linter.unusedSimpArgs false
set_option linter.unusedVariables false
open Go.RowKit
theorem countOf_meets (l:List Entry) (h:okReg l) (hl:l.length≤1000000000000000):Meets Tryz.prog 48 [.list (l.map cE)] [] (.agg [.int .i64 (cntR l 0),.int .i64 (cntR l 1)]) []:=by
 refine Meets.of_walk Tryz.func48 Tryz.ntmps48 low48 res48 (by simp) fun x hx=>?_
 simp only [go_sem,L48,R48]
 refine loop_inv [0,2,3,4] 2 (fun n st=>∃ k:Nat,k + n=l.length ∧
  st=⟨mkE .top [(0,.list (l.map cE)),(2,.ptr 0 0),(3,.ptr 1 0),(4,.int .i64 k)],[.box [.int .i64 0,.int .i64 0],.box [.int .i64 (cntR (l.take k) 0),.int .i64 (cntR (l.take k) 1)]]⟩) l.length (by simp [hx]) (by simp) ?_ ?_
 ·
  refine ⟨0,by omega,?_⟩
  simp [trim_mk,go_sem,subHeap,renObj,pos,List.range_succ,cntR]
 ·
  rintro n st ⟨k,hk,rfl⟩
  by_cases hlt:k < l.length
  ·
   have hg:l[k]? = some (nth l k):=nth_get? _ _ hlt
   have wk:=i64_up (k:=k) (by omega)
   have hle:∀ r,cntR (l.take k) r≤1000000000000000:=fun r=>by have:=cntR_le (l.take k) r; rw [List.length_take] at this; omega
   have w0:=i64_up (k:=cntR (l.take k) 0) (by have:=hle 0; omega)
   have w1:=i64_up (k:=cntR (l.take k) 1) (by have:=hle 1; omega)
   have c0:=cntR_take l k 0 hlt
   have c1:=cntR_take l k 1 hlt
   rcases h (nth l k) (by rw [nth_eq _ _ hlt]; exact List.getElem_mem hlt) with hr | hr
   ·
    rw [hr] at c0 c1
    simp only [go_sem,hlt,hg,cE,hr,w0,w1,wk,Int.reduceLE,Int.reduceLT,Int.reduceToNat,Int.cast_ofNat_Int,Int.ofNat_zero,Int.toNat_zero,Int.le_refl]
    refine ⟨by simp,n - 1,by omega,k + 1,by omega,?_⟩
    simp [trim_mk,go_sem,subHeap,renObj,pos,List.range_succ,c0,c1]
   ·
    rw [hr] at c0 c1
    simp only [go_sem,hlt,hg,cE,hr,w0,w1,wk,Int.reduceLE,Int.reduceLT,Int.reduceToNat,Int.cast_ofNat_Int,Int.ofNat_zero,Int.toNat_zero,Int.le_refl]
    refine ⟨by simp,n - 1,by omega,k + 1,by omega,?_⟩
    simp [trim_mk,go_sem,subHeap,renObj,pos,List.range_succ,c0,c1]
  ·
   have:l.take k=l:=List.take_of_length_le (by omega)
   simp only [go_sem,hlt]
   refine ret_pure hx ?_
   simp [go_sem,L48,R48,this]
theorem entryAt_meets (l:List Entry) (y:Id) (hl:l.length≤9223372036854775806):Meets Tryz.prog 47 [.list (l.map cE),.agg (cId y)] [] (.int .i64 (findE l y)) []:=by
 refine Meets.of_walk Tryz.func47 Tryz.ntmps47 low47 res47 (by simp) fun x hx=>?_
 simp only [go_sem,L47,R47,cId]
 refine loop_inv [0,3,5] 1 (fun n st=>∃ k:Nat,k + n=l.length∧idxF (fun e=>decide (e.id=y)) (l.drop k) k=findE l y ∧
  st=⟨mkE .top [(0,.list (l.map cE)),(3,.ptr 0 0),(5,.int .i64 k)],[.box (cId y)]⟩) l.length (by simp [hx]) (by simp) ?_ ?_
 ·
  refine ⟨0,by omega,by simp [findE],?_⟩
  simp [trim_mk,go_sem,subHeap,renObj,pos,List.range_succ,cId]
 ·
  rintro n st ⟨k,hk,hi,rfl⟩
  by_cases hlt:k < l.length
  ·
   have hg:l[k]? = some (nth l k):=nth_get? _ _ hlt
   have wk:=i64_up (k:=k) (by omega)
   rw [idxF_drop _ l k hlt] at hi
   by_cases he:(nth l k).id=y
   ·
    simp only [go_sem,hlt,hg,cE,cId,beqId,he]
    refine ret_pure hx ?_
    simp [he] at hi
    simp [go_sem,L47,R47,hi]
   ·
    simp only [go_sem,hlt,hg,cE,cId,beqId,he,wk]
    refine ⟨by simp,n - 1,by omega,k + 1,by omega,by simpa [he] using hi,?_⟩
    simp [trim_mk,go_sem,subHeap,renObj,pos,List.range_succ,cId]
  ·
   have:l.drop k = []:=List.drop_eq_nil_of_le (by omega)
   rw [this] at hi
   simp only [go_sem,hlt]
   refine ret_pure hx ?_
   simp [go_sem,L47,R47,← hi,idxF]
theorem checkLog_meets (l:List Entry) (hm:l.length≤9223372036854775806):Meets Tryz.prog 12 [.list (l.map cE)] [] (.int .i64 (checkLog l)) []:=by
 refine Meets.of_walk Tryz.func12 Tryz.ntmps12 low12 res12 (by simp) fun x hx=>?_
 by_cases h40:40 < l.length
 ·
  have d40:decide ((40:Int) < (l.length:Nat))=true:=by simp; omega
  simp only [go_sem,L12,R12,d40]
  refine ret_pure hx ?_
  simp [go_sem,L12,R12,checkLog,h40]
 have d40:decide ((40:Int) < (l.length:Nat))=false:=by simp; omega
 have hcl:checkLog l=firstNZ (logErr l) l.length:=by simp [checkLog,h40]
 simp only [go_sem,L12,R12,d40,hcl]
 refine loop_inv [0,3] 0 (fun n st=>∃ k:Nat,k + n=l.length∧firstNZ (logErr l) k=0 ∧
  st=⟨mkE .top [(0,.list (l.map cE)),(3,.int .i64 k)],[]⟩) l.length (by simp [hx]) (by simp) ?_ ?_
 ·
  refine ⟨0,by omega,rfl,?_⟩
  simp [trim_mk,go_sem,subHeap,renObj,pos]
 ·
  rintro n st ⟨k,hk,hz,rfl⟩
  by_cases hlt:k < l.length
  ·
   have hg:l[k]? = some (nth l k):=nth_get? _ _ hlt
   have wk:=i64_up (k:=k) (by omega)
   have hle:k≤l.length:=by omega
   have hrow:(∀ row ∈ List.map cE l,row.length=5)=True:=eq_true (cE_row l)
   have htk:List.take k (List.map cE l)=List.map cE (List.take k l):=List.map_take.symm
   have hlk:(l.take k).length≤40:=by rw [List.length_take]; omega
   have hreg:=okReg_take hz hle
   have fin:∀ r:Int,logErr l k=r→r≠0→firstNZ (logErr l) l.length=r:=fun r h1 h2=>by rw [firstNZ_hit hz (by rw [h1]; exact h2) hlt,h1]
   simp only [go_sem,hlt,hg,cE]
   refine ops_call (.pureE (checkEntry_meets (nth l k)) (by simp [go_sem,cE])) ?_
   by_cases h1:checkEntry (nth l k)=0
   ·
    have hr:=reg_of_check h1
    have hls:=(check_ok_bounds h1).2.2.2.1
    simp only [go_sem,h1,hlt,hg,hle,hrow,htk,Int.le_refl,Int.sub_zero,Int.toNat_zero,Int.natCast_nonneg,cE]
    refine ops_call (.pureE (entryAt_meets (l.take k) (nth l k).id (by omega)) (by simp [go_sem,cId])) ?_
    by_cases h2:0≤findE (l.take k) (nth l k).id
    ·
     simp only [go_sem,h2]
     refine ret_pure hx ?_
     have:logErr l k=6:=by simp [logErr,h1,h2]
     simp [go_sem,L12,R12,fin _ this (by decide)]
    simp only [go_sem,h2,hlt,hg,hle,hrow,htk,Int.le_refl,Int.sub_zero,Int.toNat_zero,Int.natCast_nonneg,cE]
    refine ops_call (.pureE (countOf_meets (l.take k) hreg (by omega)) (by simp [go_sem])) ?_
    have hw:∀ r,IntKind.i64.wrap ((cntR (l.take k) r:Int) + 1)=(cntR (l.take k) r:Int) + 1:=fun r=>by have:=cntR_le (l.take k) r; rw [IntWalk.i64_in _ (by omega)]
    by_cases h3:(cntR (l.take k) (nth l k).id.r:Int) + 1=(nth l k).id.n
    ·
     have h3e:logErr l k=if readyB (l.take k) (nth l k)=false then 5 else 0:=by simp [logErr,h1,h2,h3]
     have hrb:readyB (l.take k) (nth l k) = !((nth l k).ls.any fun x=>decide (findE (l.take k) x < 0)):=by simp [readyB,h3]
     have looped:∀ j,(nth l k).ls.any (fun x=>decide (findE (l.take k) x < 0))=false∨j≤(nth l k).ls.length→True:=fun _ _=>trivial
     rcases hr with hr | hr
     all_goals
      have h3':=h3
      rw [hr] at h3'
      have dc:=decide_eq_true h3'
      simp only [go_sem,hr,hw,dc,hlt,hg,hle,hrow,htk,Int.sub_zero,Int.natCast_nonneg,cE,Int.reduceLE,Int.reduceLT,Int.reduceToNat,Int.cast_ofNat_Int,Int.ofNat_zero,Int.toNat_zero,Int.le_refl]
      refine loop_inv [0,3,5] 0 (fun n st=>∃ j:Nat,j + n=(nth l k).ls.length∧((nth l k).ls.take j).any (fun x=>decide (findE (l.take k) x < 0))=false ∧
       st=⟨mkE .top [(0,.list (l.map cE)),(3,.int .i64 k),(5,.int .i64 j)],[]⟩) (nth l k).ls.length (by simp [hx]) (by simp) ?_ ?_
      ·
       refine ⟨0,by omega,by simp,?_⟩
       simp [trim_mk,go_sem,subHeap,renObj,pos]
      ·
       rintro n2 st ⟨j,hj,ha,rfl⟩
       by_cases hlj:j < (nth l k).ls.length
       ·
        have hgj:(nth l k).ls[j]? = some (nth (nth l k).ls j):=nth_get? _ _ hlj
        have wj:=i64_up (k:=j) (by omega)
        simp only [go_sem,hlt,hg,hlj,hgj,hle,hrow,htk,Int.sub_zero,Int.natCast_nonneg,Int.toNat_zero,Int.le_refl,cE,cId]
        refine ops_call (.pureE (entryAt_meets (l.take k) (nth (nth l k).ls j) (by omega)) (by simp [go_sem,cId])) ?_
        have hsucc:((nth l k).ls.take (j + 1)).any (fun x=>decide (findE (l.take k) x < 0))=decide (findE (l.take k) (nth (nth l k).ls j) < 0):=by
         rw [List.take_succ_eq_append_getElem hlj,List.any_append,ha,nth_eq _ _ hlj]; simp
        by_cases h5:findE (l.take k) (nth (nth l k).ls j) < 0
        ·
         simp only [go_sem,h5]
         refine ret_pure hx ?_
         have hall:(nth l k).ls.any (fun x=>decide (findE (l.take k) x < 0))=true:=by
          rw [List.any_eq_true]
          exact ⟨nth (nth l k).ls j,by rw [nth_eq _ _ hlj]; exact List.getElem_mem hlj,by simp [h5]⟩
         have:logErr l k=5:=by rw [h3e,hrb,hall]; rfl
         simp [go_sem,L12,R12,fin _ this (by decide)]
        ·
         simp only [go_sem,h5,wj]
         refine ⟨by simp,n2 - 1,by omega,j + 1,by omega,by rw [hsucc]; simp [h5],?_⟩
         simp [trim_mk,go_sem,subHeap,renObj,pos]
       ·
        have htl:(nth l k).ls.take j=(nth l k).ls:=List.take_of_length_le (by omega)
        rw [htl] at ha
        simp only [go_sem,hlt,hg,hlj,cE,wk]
        refine ⟨by simp,n - 1,by omega,k + 1,by omega,firstNZ_succ hz (by rw [h3e,hrb,ha]; rfl),?_⟩
        simp [trim_mk,go_sem,subHeap,renObj,pos]
    ·
     rcases hr with hr | hr
     all_goals
      have h3':=h3
      rw [hr] at h3'
      have dc:=decide_eq_false h3'
      simp only [go_sem,hr,hw,dc,hlt,hg,cE,Int.reduceLE,Int.reduceLT,Int.reduceToNat,Int.cast_ofNat_Int,Int.ofNat_zero,Int.toNat_zero,Int.le_refl]
      refine ret_pure hx ?_
      have:logErr l k=4:=by simp [logErr,h1,h2,h3]
      simp [go_sem,L12,R12,fin _ this (by decide)]
   ·
    simp only [go_sem,h1]
    refine ret_pure hx ?_
    have:logErr l k=checkEntry (nth l k):=by simp [logErr,h1]
    simp [go_sem,L12,R12,fin _ this h1]
  ·
   have hke:k=l.length:=by omega
   subst hke
   simp only [go_sem,Nat.lt_irrefl,hz]
   refine ret_pure hx ?_
   simp [go_sem,L12,R12,hz]
end Go.Proofs.YtfdolehffjmdmaaGreatDoor
/- Pasts,heads,counts: contracts. -/
namespace Go.Proofs.YtfdolehffjmdmaaGreatDoor
set_option linter.unusedSimpArgs false
set_option linter.unusedVariables false
open Go.RowKit
def hasI (l:List Id) (y:Id):Bool:=l.any fun x=>decide (y=x)
theorem hasI_iff {l:List Id} {y:Id}:hasI l y=true↔y ∈ l:=by simp [hasI]
theorem indexI2_meets (l:List Id) (y:Id) (hl:l.length≤9223372036854775806):Meets Tryz.prog 157 [.list (l.map cId),.agg (cId y)] [] (.int .i64 (idxF (fun x=>decide (y=x)) l 0)) []:=by
 refine Meets.of_walk Tryz.func157 Tryz.ntmps157 low157 res157 (by simp) fun x hx=>?_
 simp only [go_sem,L157,R157,cId]
 refine loop_inv [0,3,7,8] 1 (fun n st=>∃ k:Nat,k + n=l.length∧idxF (fun x=>decide (y=x)) (l.drop k) k=idxF (fun x=>decide (y=x)) l 0 ∧
  st=⟨mkE .top [(0,.list (l.map cId)),(3,.ptr 0 0),(7,.int .i64 l.length),(8,.int .i64 k)],[.box (cId y)]⟩) l.length (by simp [hx]) (by simp) ?_ ?_
 ·
  refine ⟨0,by omega,by simp,?_⟩
  simp [trim_mk,go_sem,subHeap,renObj,pos,List.range_succ,cId]
 ·
  rintro n st ⟨k,hk,hi,rfl⟩
  by_cases hlt:k < l.length
  ·
   have hg:l[k]? = some (nth l k):=nth_get? _ _ hlt
   have wk:=i64_up (k:=k) (by omega)
   rw [idxF_drop _ l k hlt] at hi
   by_cases he:y=nth l k
   ·
    simp only [go_sem,hlt,hg,cId,beqId,he]
    refine ret_pure hx ?_
    simp [he] at hi
    simp [go_sem,L157,R157,hi,he]
   ·
    simp only [go_sem,hlt,hg,cId,beqId,he,wk]
    refine ⟨by simp,n - 1,by omega,k + 1,by omega,by simpa [he] using hi,?_⟩
    simp [trim_mk,go_sem,subHeap,renObj,pos,List.range_succ,cId]
  ·
   have:l.drop k = []:=List.drop_eq_nil_of_le (by omega)
   rw [this] at hi
   simp only [go_sem,hlt]
   refine ret_pure hx ?_
   simp [go_sem,L157,R157,← hi,idxF]
theorem containsI_meets (l:List Id) (y:Id) (hl:l.length≤9223372036854775806):Meets Tryz.prog 131 [.list (l.map cId),.agg (cId y)] [] (.bool (hasI l y)) []:=by
 refine Meets.of_walk Tryz.func131 Tryz.ntmps131 low131 res131 (by simp) fun x hx=>?_
 simp only [go_sem,L131,R131,cId]
 refine ops_call (.pureE (indexI2_meets l y hl) (by simp [go_sem,cId])) ?_
 simp only [go_sem]
 refine ret_pure hx ?_
 simp [go_sem,L131,R131,hasI,idxF_any]
theorem ahead_meets (l : List Entry) (ps : List (List Id)) (y z : Id) (hl : l.length ≤ 9223372036854775806) (h0 : 0 ≤ findE l z) (h1 : findE l z < ps.length) (h2 : (pastAt ps l z).length ≤ 9223372036854775806) :
    Meets Tryz.prog 91 [pvPasts l ps,.agg (cId y),.agg (cId z)] [] (.bool (hasI (pastAt ps l z) y)) []:=by
  refine Meets.of_walk Tryz.func91 Tryz.ntmps91 low91 res91 (by simp) fun x hx=>?_
  simp only [go_sem,L91,R91,cId,pvPasts]
  refine ops_call (.pureE (of_meets l ps z hl h0 h1) (by simp [go_sem,cId,pvPasts])) ?_
  simp only [go_sem]
  refine ops_call (.pureE (containsI_meets (pastAt ps l z) y h2) (by simp [go_sem,cId])) ?_
  simp only [go_sem]
  refine ret_pure hx ?_
  simp [go_sem,L91,R91]
def bitB (c:Int) (i:Nat):Bool:=decide (c / 2 ^ i % 2=1)
def meetB (a b:Int):Bool:=(bitB a 0 && bitB b 0) || (bitB a 1 && bitB b 1) || (bitB a 2 && bitB b 2)
theorem and_meet0 {a b:Int} (ha:wthn a 1 7=true) (hb:wthn b 1 7=true):(!decide (IntKind.i64.wrap ((BitVec.ofInt IntKind.i64.bits a &&& BitVec.ofInt IntKind.i64.bits b).toNat:Int)=0))=meetB a b:=by
 have key:∀ a b:Fin 8,(!decide (IntKind.i64.wrap ((BitVec.ofInt IntKind.i64.bits (a.val:Int) &&& BitVec.ofInt IntKind.i64.bits (b.val:Int)).toNat:Int)=0))=meetB (a.val:Int) (b.val:Int):=by decide +kernel
 rw [wthn_iff] at ha hb
 have:=key ⟨a.toNat,by omega⟩ ⟨b.toNat,by omega⟩
 simp only [Int.toNat_of_nonneg (show 0≤a by omega),Int.toNat_of_nonneg (show 0≤b by omega)] at this
 exact this
theorem and_meet {a b:Int} (ha:wthn a 1 7=true) (hb:wthn b 1 7=true):(!decide (IntKind.i64.wrap ((@HAnd.hAnd (BitVec 64) (BitVec 64) (BitVec 64) (@instHAndOfAndOp (BitVec IntKind.i64.bits) _) (BitVec.ofInt 64 a) (BitVec.ofInt 64 b)).toNat:Int)=0))=meetB a b:=and_meet0 ha hb
def withC (l:List Entry) (c:Int):List Entry:=l.filter fun e=>meetB e.c c
theorem withC_take {l:List Entry} {c:Int} {k:Nat} (h:k < l.length):withC (l.take (k + 1)) c=withC (l.take k) c ++ if meetB (nth l k).c c then [nth l k] else []:=by
 unfold withC
 rw [List.take_succ_eq_append_getElem h,List.filter_append,nth_eq _ _ h]
 simp only [List.filter_cons,List.filter_nil]
theorem withC_len (l:List Entry) (c:Int):(withC l c).length≤l.length:=List.length_filter_le _ _
theorem LogOk.col {l:List Entry} (h:LogOk l) {k:Nat} (hk:k < l.length):wthn (nth l k).c 1 7=true:=(check_ok_bounds (h.chk k hk)).2.1
theorem with_meets (l:List Entry) (c:Int) (h:LogOk l) (hc:wthn c 1 7=true):Meets Tryz.prog 129 [.list (l.map cE),.int .i64 c] [] (.list ((withC l c).map cE)) []:=by
 have hm:=h.len
 refine Meets.of_walk Tryz.func129 Tryz.ntmps129 low129 res129 (by simp) fun x hx=>?_
 simp only [go_sem,L129,R129]
 refine W_weak (weak_own 5 0 46 5 false false rfl (by omega)) ?_
 refine loop_inv [1,5,8,9,10] 1 (fun n st=>∃ k v:Nat,k + n=l.length ∧
  st=⟨mkE .top [(1,.int .i64 c),(5,.arr 0 v),(8,.list (l.map cE)),(9,.int .i64 l.length),(10,.int .i64 k)],[.arr v false false 46 5 ((withC (l.take k) c).map cE)]⟩) l.length (by simp [hx]) (by simp [St.put]) ?_ ?_
 ·
  refine ⟨0,0,by omega,?_⟩
  simp [trim_mk,go_sem,subHeap,renObj,pos,List.range_succ,withC]
 ·
  rintro n st ⟨k,v,hk,rfl⟩
  by_cases hlt:k < l.length
  ·
   have hg:l[k]? = some (nth l k):=nth_get? _ _ hlt
   have wk:=i64_up (k:=k) (by omega)
   have hw:=withC_take (c:=c) hlt
   have hle:=withC_len (l.take k) c
   rw [List.length_take] at hle
   have ha:=and_meet (h.col hlt) hc
   cases hb:meetB (nth l k).c c
   ·
    rw [hb] at ha hw
    simp only [go_sem,hlt,hg,cE,ha,wk]
    refine ⟨by simp,n - 1,by omega,k + 1,v,by omega,?_⟩
    simp [trim_mk,go_sem,subHeap,renObj,pos,List.range_succ,hw]
   ·
    rw [hb] at ha hw
    simp only [go_sem,hlt,hg,cE,ha,wk]
    rw [app_arr rfl rfl (by simp) (by simp; omega)]
    simp only [go_sem,wk]
    refine ⟨by simp,n - 1,by omega,k + 1,v + 1,by omega,?_⟩
    simp [trim_mk,go_sem,subHeap,renObj,pos,List.range_succ,hw,cE]
  ·
   have:l.take k=l:=List.take_of_length_le (by omega)
   simp only [go_sem,hlt,this]
   refine ret_pure hx ?_
   simp [go_sem,L129,R129,frzAt,pos]
theorem closed2 (c d : List PV) (h : c.map (renCell false (pos [0, 1]) (frzAt false [.box c, .box d])) = c) (h2 : c.map (renCell false (pos [0, 1]) (frzAt true [.box c, .box d])) = c) (h3 : c.map (renCell false (backF 2 [0, 1]) noFz) = c)
    (g:d.map (renCell false (pos [0,1]) (frzAt false [.box c,.box d]))=d) (g2:d.map (renCell false (pos [0,1]) (frzAt true [.box c,.box d]))=d) (g3:d.map (renCell false (backF 2 [0,1]) noFz)=d) :
    ClosedH [.box c,.box d] [.ptr 0 0,.ptr 1 0]:=by
  refine ⟨?_,?_,?_,?_,?_⟩
  · simp [renLeaf,pos,List.range_succ]
  · simp [ren,renCell,renLeaf,pos,List.range_succ]
  · simp only [List.length_cons,List.length_nil,List.range_succ,List.range_zero,List.nil_append,List.cons_append,subHeap,List.map_cons,List.map_nil,List.getElem?_cons_zero,List.getElem?_cons_succ,Option.getD_some,renObj,h,g]
  · simp only [List.length_cons,List.length_nil,List.range_succ,List.range_zero,List.nil_append,List.cons_append,merge,List.map_cons,List.map_nil,mergeObj,callId,Nat.zero_add,Nat.sub_self,Nat.add_zero]
    simp [pos,renObj,h3,g3]
  · simp only [List.length_cons,List.length_nil,List.range_succ,List.range_zero,List.nil_append,List.cons_append,subHeap,List.map_cons,List.map_nil,List.getElem?_cons_zero,List.getElem?_cons_succ,Option.getD_some,renObj,h2,g2]
theorem closedT (l:List Entry) (ps:List (List Id)) (e:Entry):ClosedH [.box [pvPasts l ps],.box (cE e)] [.ptr 0 0,.ptr 1 0]:=by
 refine closed2 _ _ ?_ ?_ ?_ ?_ ?_ ?_ <;> simp [pvPasts,cE,renCell,renLeaf]
theorem top1_meets (l : List Entry) (ps : List (List Id)) (e f : Entry) (hl : l.length ≤ 9223372036854775806) (h0 : 0 ≤ findE l f.id) (h1 : findE l f.id < ps.length) (h2 : (pastAt ps l f.id).length ≤ 9223372036854775806) :
    Meets Tryz.prog 139 [.agg (cE f),.ptr 0 0,.ptr 1 0] [.box [pvPasts l ps],.box (cE e)] (.bool (hasI (pastAt ps l f.id) e.id)) [.box [pvPasts l ps],.box (cE e)]:=by
  refine Meets.of_walk Tryz.func139 Tryz.ntmps139 low139 res139 (by simp) fun x hx=>?_
  simp only [go_sem,L139,R139,cE]
  refine ops_call (.pureE (ahead_meets l ps e.id f.id hl h0 h1 h2) (by simp [go_sem,cId,pvPasts])) ?_
  simp only [go_sem]
  refine ret_keep [] (by simp) (by simp) (by simp [hx]) ?_ ?_
  · simp [go_sem,L139,R139,hx]
  · simp [subHeap,renObj,hx,go_sem,pos,List.range_succ,cE,pvPasts]
def underB (l:List Entry) (c:Int) (e:Entry):Bool:=(withC l c).any fun f=>hasI (pastAt (pasts l) l f.id) e.id
def headsC (l:List Entry) (c:Int):List Id:=((withC l c).filter fun e => !underB l c e).map (·.id)
theorem headsC_take {l:List Entry} {c:Int} {s:List Entry} {k:Nat} (h:k < s.length):((s.take (k + 1)).filter fun e => !underB l c e).map (·.id)=((s.take k).filter fun e => !underB l c e).map (·.id) ++ if underB l c (nth s k) then [] else [(nth s k).id]:=by
 rw [List.take_succ_eq_append_getElem h,List.filter_append,nth_eq _ _ h,List.map_append]
 simp only [List.filter_cons,List.filter_nil]
 cases underB l c s[k] <;> rfl
theorem withC_mem {l:List Entry} {c:Int} {e:Entry} (h:e ∈ withC l c):∃ k,k < l.length∧nth l k=e:=by
 obtain ⟨k,hk,rfl⟩:=List.getElem_of_mem (List.mem_filter.1 h).1
 exact ⟨k,hk,nth_eq _ _ hk⟩
theorem pastAt_eq {l:List Entry} (x:Id):pastAt (pasts l) l x=pastOf l (findE l x).toNat:=rfl
set_option maxHeartbeats 1000000 in
theorem top_meets (l:List Entry) (c:Int) (h:LogOk l) (hc:wthn c 1 7=true):Meets Tryz.prog 102 [.list (l.map cE),.int .i64 c] [] (.list ((sortI (headsC l c)).map cId)) []:=by
 have hm:=h.len
 have hle:=withC_len l c
 refine Meets.of_walk Tryz.func102 Tryz.ntmps102 low102 res102 (by simp) fun x hx=>?_
 simp only [go_sem,L102,R102]
 refine ops_call (.pureE (before_meets l h) (by simp [go_sem])) ?_
 simp only [go_sem,pvPasts]
 refine ops_call (.pureE (with_meets l c h hc) (by simp [go_sem])) ?_
 simp only [go_sem]
 refine W_weak (weak_own 7 0 43 2 true false rfl (by omega)) ?_
 refine loop_inv [5,6,7,15,16,17] 2 (fun n st=>∃ k v:Nat,k + n=(withC l c).length ∧
  st=⟨mkE .top [(5,.ptr 0 0),(6,.list ((withC l c).map cE)),(7,.arr 1 v),(15,.list ((withC l c).map cE)),(16,.int .i64 (withC l c).length),(17,.int .i64 k)],
   [.box [pvPasts l (pasts l)],.arr v true false 43 2 ((((withC l c).take k).filter fun e => !underB l c e).map (·.id) |>.map cId)]⟩) (withC l c).length (by simp [hx]) (by simp [St.put]) ?_ ?_
 ·
  refine ⟨0,0,by omega,?_⟩
  simp [trim_mk,go_sem,subHeap,renObj,pos,List.range_succ,pvPasts]
 ·
  rintro n st ⟨k,v,hk,rfl⟩
  by_cases hlt:k < (withC l c).length
  ·
   have hg:(withC l c)[k]? = some (nth (withC l c) k):=nth_get? _ _ hlt
   have wk:=i64_up (k:=k) (by omega)
   have hw:=headsC_take (l:=l) (c:=c) hlt
   have hle2:((((withC l c).take k).filter fun e => !underB l c e).map (·.id)).length≤40:=by
    rw [List.length_map]
    refine Nat.le_trans (List.length_filter_le _ _) ?_
    rw [List.length_take]; omega
   simp only [go_sem,hlt,hg,cE]
   have hcf:=contFE_meets (withC l c) 139 [.ptr 0 0,.ptr 1 0] [.box [pvPasts l (pasts l)],.box (cE (nth (withC l c) k))] (fun f=>hasI (pastAt (pasts l) l f.id) (nth (withC l c) k).id) (by kernel_rfl) (by omega) (closedT _ _ _) (fun f hf=>by
    obtain ⟨j,hj,rfl⟩:=withC_mem hf
    have e:=h.find hj
    exact top1_meets l (pasts l) _ _ (by omega) (by omega) (by simp [pasts]; omega) (by rw [pastAt_eq,e,Int.toNat_natCast]; have:=pastOf_len h hj; omega))
   refine ops_call (.heapE [0,2] (r' := .bool (underB l c (nth (withC l c) k))) (H' := [.box [pvPasts l (pasts l)],.arr v true false 43 2 ((((withC l c).take k).filter fun e => !underB l c e).map (·.id) |>.map cId),.box (cE (nth (withC l c) k))]) hcf
    (by simp) (by simp) (by simp [go_sem,pos]) (by simp [subHeap,renObj,go_sem,pos,cE,pvPasts]) rfl (by simp [merge,mergeObj,callId,renObj,pos,go_sem,List.range_succ,backF,backId,cE,pvPasts])) ?_
   cases hu:underB l c (nth (withC l c) k)
   ·
    rw [hu] at hw
    simp only [go_sem,cE]
    rw [app_arr rfl rfl (by simp) (by simp at hle2 ⊢; omega)]
    simp only [go_sem,wk]
    refine ⟨by simp,n - 1,by omega,k + 1,v + 1,by omega,?_⟩
    rw [hw]
    simp [trim_mk,go_sem,subHeap,renObj,pos,List.range_succ,cId,pvPasts]
   ·
    rw [hu] at hw
    simp only [go_sem,wk]
    refine ⟨by simp,n - 1,by omega,k + 1,v,by omega,?_⟩
    rw [hw]
    simp [trim_mk,go_sem,subHeap,renObj,pos,List.range_succ,cId,pvPasts]
  ·
   have:(withC l c).take k=withC l c:=List.take_of_length_le (by omega)
   have hle2:(headsC l c).length≤40:=by
    unfold headsC
    rw [List.length_map]
    refine Nat.le_trans (List.length_filter_le _ _) ?_
    omega
   simp only [go_sem,hlt,this]
   have hso:=sortIds_meets (headsC l c) v 43 (by omega)
   refine ops_call (.heapE [1] (r' := .tup []) (H' := [.box [pvPasts l (pasts l)],.arr v true false 43 2 ((sortI (headsC l c)).map cId)]) hso
    (by simp) (by simp) (by simp [go_sem,pos]) (by simp [subHeap,renObj,go_sem,pos,headsC]) rfl (by simp [merge,mergeObj,callId,renObj,pos,go_sem,List.range_succ,backF,backId,pvPasts])) ?_
   simp only [go_sem]
   refine ret_pure hx ?_
   simp [go_sem,L102,R102,frzAt,pos]
end Go.Proofs.YtfdolehffjmdmaaGreatDoor
/- dag.Past,dag.Heads,dag.Count: contracts. -/
namespace Go.Proofs.YtfdolehffjmdmaaGreatDoor
set_option linter.unusedSimpArgs false
set_option linter.unusedVariables false
open Go.RowKit
def pastErr (l:List Entry) (y:Id):Int:=if checkLog l≠0 then checkLog l else if findE l y < 0 then 5 else 0
def pastIds (l:List Entry) (y:Id):List Id:=if pastErr l y=0 then pastOf l (findE l y).toNat else []
/-! the same in the law text's words -/
theorem isOf_meets (c:Int) (i:Nat) (hi:i < 3) (h0:0≤c) (h7:c≤7):Meets Tryz.prog 100 [.int .i64 c,.int .i64 i] [] (.bool (bitB c i)) []:=by
 obtain ⟨m,rfl⟩:∃ m:Fin 8,c=(m.val:Int):=⟨⟨c.toNat,by omega⟩,by simp; omega⟩
 have key:∀ (m:Fin 8) (d:Fin 3),decide (((IntKind.i64.wrap ((m.val:Int).tdiv (2 ^ d.val))).tmod 2)=1)=bitB (m.val:Int) d.val:=by decide +kernel
 refine Meets.of_walk Tryz.func100 Tryz.ntmps100 low100 res100 (by simp) fun x hx=>?_
 rcases i with _ | _ | _ | i
 ·
  have k0:=key m 0
  simp only [Fin.isValue,Fin.val_zero,Int.pow_zero] at k0
  simp only [go_sem,L100,R100,Int.ofNat_zero,Int.toNat_zero,Int.reduceLT,Int.reduceLE,Int.reduceNe,Int.cast_ofNat_Int,Int.reduceToNat,ne_eq,k0]
  refine ret_pure hx ?_
  simp [go_sem,L100,R100,k0]
 ·
  have k0:=key m 1
  simp only [Fin.isValue,Fin.val_one,Int.pow_succ,Int.pow_zero,Int.one_mul] at k0
  simp only [go_sem,L100,R100,Int.ofNat_zero,Int.toNat_zero,Int.reduceLT,Int.reduceLE,Int.reduceNe,Int.cast_ofNat_Int,Int.reduceToNat,ne_eq,Int.natCast_one,Int.reduceAdd,Int.natCast_add,k0]
  refine ret_pure hx ?_
  simp [go_sem,L100,R100,k0]
 ·
  have k0:=key m 2
  simp only [Fin.isValue,Fin.val_two,Int.pow_succ,Int.pow_zero,Int.one_mul,Int.reduceMul] at k0
  simp only [go_sem,L100,R100,Int.ofNat_zero,Int.toNat_zero,Int.reduceLT,Int.reduceLE,Int.reduceNe,Int.cast_ofNat_Int,Int.reduceToNat,ne_eq,Int.natCast_one,Int.reduceAdd,Int.natCast_add,k0]
  refine ret_pure hx ?_
  simp [go_sem,L100,R100,k0]
 ·
  omega
end Go.Proofs.YtfdolehffjmdmaaGreatDoor
/- Pasts and heads in the law text's words: contracts. -/
namespace Go.Proofs.YtfdolehffjmdmaaGreatDoor
set_option linter.unusedSimpArgs false
set_option linter.unusedVariables false
open Go.RowKit
theorem meets_meets (a b:Int) (ha:0≤a∧a≤7) (hb:0≤b∧b≤7):Meets Tryz.prog 51 [.int .i64 a,.int .i64 b] [] (.bool (meetB a b)) []:=by
 refine Meets.of_walk Tryz.func51 Tryz.ntmps51 low51 res51 (by simp) fun x hx=>?_
 simp only [go_sem,L51,R51]
 refine loop_inv [0,1,5] 0 (fun n st=>∃ k:Nat,k + n=3∧(∀ j,j < k→(bitB a j && bitB b j)=false) ∧
  st=⟨mkE .top [(0,.int .i64 a),(1,.int .i64 b),(5,.int .i64 k)],[]⟩) 3 (by simp [hx]) (by simp) ?_ ?_
 ·
  refine ⟨0,by omega,by simp,?_⟩
  simp [trim_mk,go_sem,subHeap,renObj,pos]
 ·
  rintro n st ⟨k,hk,hi,rfl⟩
  by_cases hlt:k < 3
  ·
   have d3:decide ((k:Int) < 3)=true:=by simp; omega
   have wk:=i64_up (k:=k) (by omega)
   simp only [go_sem,d3]
   refine ops_call (.pureE (isOf_meets a k hlt ha.1 ha.2) (by simp [go_sem])) ?_
   cases h1:bitB a k
   ·
    simp only [go_sem,wk]
    refine ⟨by simp,n - 1,by omega,k + 1,by omega,fun j hj=>?_,?_⟩
    ·
     by_cases e:j=k
     ·
      subst e; simp [h1]
     ·
      exact hi j (by omega)
    ·
     simp [trim_mk,go_sem,subHeap,renObj,pos]
   ·
    simp only [go_sem]
    refine ops_call (.pureE (isOf_meets b k hlt hb.1 hb.2) (by simp [go_sem])) ?_
    cases h2:bitB b k
    ·
     simp only [go_sem,wk]
     refine ⟨by simp,n - 1,by omega,k + 1,by omega,fun j hj=>?_,?_⟩
     ·
      by_cases e:j=k
      ·
       subst e; simp [h2]
      ·
       exact hi j (by omega)
     ·
      simp [trim_mk,go_sem,subHeap,renObj,pos]
    ·
     simp only [go_sem]
     refine ret_pure hx ?_
     have:meetB a b=true:=by
      rcases k with _ | _ | _ | k
      ·
       simp [meetB,h1,h2]
      ·
       simp [meetB,h1,h2]
      ·
       simp [meetB,h1,h2]
      ·
       omega
     simp [go_sem,L51,R51,this]
  ·
   have d3:decide ((k:Int) < 3)=false:=by simp; omega
   simp only [go_sem,d3]
   refine ret_pure hx ?_
   have:meetB a b=false:=by simp only [meetB,hi 0 (by omega),hi 1 (by omega),hi 2 (by omega)]; rfl
   simp [go_sem,L51,R51,this]
def rB (b:Bool):List PV := [.bool b]
def markL (l:List Entry) (ls:List Id) (M:List Bool):List Bool:=ls.foldl (fun M x=>M.set (findE l x).toNat true) M
def markS (l:List Entry) (a i:Nat) (M:List Bool):List Bool:=if i=a∨nth M i=true then markL l (nth l i).ls M else M
def marks (l:List Entry) (a:Nat):Nat→List Bool
 | 0=>List.replicate l.length false
 | s + 1=>markS l a (a - s) (marks l a s)
def marksOf (l:List Entry) (a:Nat):List Bool:=marks l a (a + 1)
theorem markL_length (l:List Entry):∀ (ls:List Id) (M:List Bool),(markL l ls M).length=M.length
 | [],_=>rfl
 | x :: ls,M=>by
  show (markL l ls (M.set _ true)).length=_
  rw [markL_length l ls]; simp
theorem markL_take {l:List Entry} {ls:List Id} {M:List Bool} {j:Nat} (h:j < ls.length):markL l (ls.take (j + 1)) M=(markL l (ls.take j) M).set (findE l (nth ls j)).toNat true:=by
 unfold markL
 rw [List.take_succ_eq_append_getElem h,List.foldl_append,nth_eq _ _ h]
 rfl
theorem marks_length (l:List Entry) (a:Nat):∀ s,(marks l a s).length=l.length
 | 0=>by simp [marks]
 | s + 1=>by
  simp only [marks,markS]
  split
  ·
   rw [markL_length,marks_length l a s]
  ·
   exact marks_length l a s
set_option maxHeartbeats 1000000 in
theorem pastOfR_meets (l:List Entry) (a:Nat) (h:LogOk l) (ha:a < l.length):Meets Tryz.prog 52 [.list (l.map cE),.int .i64 a] [] (.list ((marksOf l a).map rB)) []:=by
 have hm:=h.len
 refine Meets.of_walk Tryz.func52 Tryz.ntmps52 low52 res52 (by simp) fun x hx=>?_
 have hb:(l.length:Int) * ((1:Nat):Int)≤140737488355328:=by omega
 have hn0:(0:Int)≤(l.length:Int):=by omega
 simp only [go_sem,L52,R52,hb,hn0]
 refine loop_inv [0,1,5,6] 1 (fun n st=>∃ m:Nat,m=n∧m≤a + 1 ∧
  st=⟨mkE .top [(0,.list (l.map cE)),(1,.int .i64 a),(5,.arr 0 0),(6,.int .i64 ((m:Int) - 1))],[.arr 0 true false 4 1 ((marks l a (a + 1 - m)).map rB)]⟩) (a + 1) (by simp [hx]) (by simp) ?_ ?_
 ·
  refine ⟨a + 1,rfl,by omega,?_⟩
  simp [trim_mk,go_sem,subHeap,renObj,pos,List.range_succ,marks,rB]
 ·
  rintro n st ⟨m,rfl,hma,rfl⟩
  have hml:=marks_length l a (a + 1 - m)
  rcases m with _ | i
  ·
   have d0:decide ((0:Int)≤((0:Nat):Int) - 1)=false:=by simp
   simp only [go_sem,d0]
   refine ret_pure hx ?_
   simp [go_sem,L52,R52,frzAt,pos,marksOf]
  ·
   have e1:(((i + 1:Nat):Int) - 1)=(i:Int):=by omega
   have hil:i < l.length:=by omega
   have hg:l[i]? = some (nth l i):=nth_get? _ _ hil
   have hls:=h.links hil
   have hM:(marks l a (a + 1 - (i + 1)))[i]? = some (nth (marks l a (a + 1 - (i + 1))) i):=nth_get? _ _ (by omega)
   have wi:IntKind.i64.wrap ((i:Int) - 1)=(i:Int) - 1:=by rw [IntWalk.i64_in _ (by omega)]
   have hstep:marks l a (a + 1 - i)=markS l a i (marks l a (a + 1 - (i + 1))):=by
    rw [show a + 1 - i=(a + 1 - (i + 1)) + 1 by omega]
    simp only [marks]
    rw [show a - (a + 1 - (i + 1))=i by omega]
   generalize hMd:marks l a (a + 1 - (i + 1))=M at *
   by_cases hia:i=a
   ·
    have da:decide ((i:Int)=(a:Int))=true:=by simp; omega
    simp only [go_sem,e1,da]
    refine loop_inv [0,1,5,6,7] 1 (fun n st=>∃ j:Nat,j + n=(nth l i).ls.length ∧
     st=⟨mkE .top [(0,.list (l.map cE)),(1,.int .i64 a),(5,.arr 0 0),(6,.int .i64 i),(7,.int .i64 j)],[.arr 0 true false 4 1 ((markL l ((nth l i).ls.take j) M).map rB)]⟩) (nth l i).ls.length (by simp [hx]) (by simp) ?_ ?_
    ·
     refine ⟨0,by omega,?_⟩
     simp [trim_mk,go_sem,subHeap,renObj,pos,List.range_succ,markL,rB]
    ·
     rintro n2 st ⟨j,hj,rfl⟩
     by_cases hlj:j < (nth l i).ls.length
     ·
      have hgj:(nth l i).ls[j]? = some (nth (nth l i).ls j):=nth_get? _ _ hlj
      have wj:=i64_up (k:=j) (by omega)
      obtain ⟨f1,f2⟩:=h.link_lt hil (x:=nth (nth l i).ls j) (by rw [nth_eq _ _ hlj]; exact List.getElem_mem hlj)
      have hL:(markL l ((nth l i).ls.take j) M).length=l.length:=by rw [markL_length]; exact hml
      have f3:findE l (nth (nth l i).ls j) < ((markL l ((nth l i).ls.take j) M).length:Nat):=by omega
      have hM2:(markL l ((nth l i).ls.take j) M)[(findE l (nth (nth l i).ls j)).toNat]? = some (nth (markL l ((nth l i).ls.take j) M) (findE l (nth (nth l i).ls j)).toNat):=nth_get? _ _ (by omega)
      simp only [go_sem,hil,hg,cE,hlj,hgj,cId]
      refine ops_call (.pureE (entryAt_meets l (nth (nth l i).ls j) (by omega)) (by simp [go_sem,cId])) ?_
      simp only [go_sem,f1,f3,hM2,rB,wj,Nat.le_refl,frz,or_true,false_or]
      refine ⟨by simp,n2 - 1,by omega,j + 1,by omega,?_⟩
      simp [trim_mk,go_sem,subHeap,renObj,pos,List.range_succ,markL_take hlj,rB,List.map_set]
     ·
      have htl:(nth l i).ls.take j=(nth l i).ls:=List.take_of_length_le (by omega)
      simp only [go_sem,hil,hg,cE,hlj,htl,wi]
      refine ⟨by simp,i,by omega,i,rfl,by omega,?_⟩
      rw [hstep,markS,if_pos (.inl hia)]
      simp [trim_mk,go_sem,subHeap,renObj,pos,List.range_succ,rB]
   ·
    have da:decide ((i:Int)=(a:Int))=false:=by simp; omega
    have hil':i < M.length:=by omega
    simp only [go_sem,e1,da,hil,hM,hml,rB,Nat.le_refl]
    cases hMi:nth M i
    ·
     simp only [go_sem,wi]
     refine ⟨by simp,i,by omega,i,rfl,by omega,?_⟩
     rw [hstep,markS,if_neg (by simp [hia,hMi])]
     simp [trim_mk,go_sem,subHeap,renObj,pos,List.range_succ,rB]
    ·
     simp only [go_sem]
     refine loop_inv [0,1,5,6,7] 1 (fun n st=>∃ j:Nat,j + n=(nth l i).ls.length ∧
      st=⟨mkE .top [(0,.list (l.map cE)),(1,.int .i64 a),(5,.arr 0 0),(6,.int .i64 i),(7,.int .i64 j)],[.arr 0 true false 4 1 ((markL l ((nth l i).ls.take j) M).map rB)]⟩) (nth l i).ls.length (by simp [hx]) (by simp) ?_ ?_
     ·
      refine ⟨0,by omega,?_⟩
      simp [trim_mk,go_sem,subHeap,renObj,pos,List.range_succ,markL,rB]
     ·
      rintro n2 st ⟨j,hj,rfl⟩
      by_cases hlj:j < (nth l i).ls.length
      ·
       have hgj:(nth l i).ls[j]? = some (nth (nth l i).ls j):=nth_get? _ _ hlj
       have wj:=i64_up (k:=j) (by omega)
       obtain ⟨f1,f2⟩:=h.link_lt hil (x:=nth (nth l i).ls j) (by rw [nth_eq _ _ hlj]; exact List.getElem_mem hlj)
       have hL:(markL l ((nth l i).ls.take j) M).length=l.length:=by rw [markL_length]; exact hml
       have f3:findE l (nth (nth l i).ls j) < ((markL l ((nth l i).ls.take j) M).length:Nat):=by omega
       have hM2:(markL l ((nth l i).ls.take j) M)[(findE l (nth (nth l i).ls j)).toNat]? = some (nth (markL l ((nth l i).ls.take j) M) (findE l (nth (nth l i).ls j)).toNat):=nth_get? _ _ (by omega)
       simp only [go_sem,hil,hg,cE,hlj,hgj,cId]
       refine ops_call (.pureE (entryAt_meets l (nth (nth l i).ls j) (by omega)) (by simp [go_sem,cId])) ?_
       simp only [go_sem,f1,f3,hM2,rB,wj,Nat.le_refl,frz,or_true,false_or]
       refine ⟨by simp,n2 - 1,by omega,j + 1,by omega,?_⟩
       simp [trim_mk,go_sem,subHeap,renObj,pos,List.range_succ,markL_take hlj,rB,List.map_set]
      ·
       have htl:(nth l i).ls.take j=(nth l i).ls:=List.take_of_length_le (by omega)
       simp only [go_sem,hil,hg,cE,hlj,htl,wi]
       refine ⟨by simp,i,by omega,i,rfl,by omega,?_⟩
       rw [hstep,markS,if_pos (.inr hMi)]
       simp [trim_mk,go_sem,subHeap,renObj,pos,List.range_succ,rB]
end Go.Proofs.YtfdolehffjmdmaaGreatDoor
/- Ids that are told,rising: a contract. -/
namespace Go.Proofs.YtfdolehffjmdmaaGreatDoor
set_option linter.unusedSimpArgs false
set_option linter.unusedVariables false
open Go.RowKit
def idRow (r n:Nat):List Id:=(List.range n).map fun m=>⟨r,((m + 1:Nat):Int)⟩
def idsUp (r n:Nat):List Id:=(List.range r).flatMap (fun q=>idRow q 20) ++ idRow r n
theorem idsUp_n (r n:Nat):idsUp r (n + 1)=idsUp r n ++ [⟨r,((n + 1:Nat):Int)⟩]:=by
 simp only [idsUp,idRow,List.range_succ,List.map_append,List.map_cons,List.map_nil,List.append_assoc]
theorem idsUp_r (r:Nat):idsUp (r + 1) 0=idsUp r 20:=by
 simp only [idsUp,idRow,List.range_succ,List.flatMap_append,List.flatMap_cons,List.flatMap_nil,List.range_zero,List.map_nil,List.append_nil]
theorem idsUp_length (r n:Nat):(idsUp r n).length=20 * r + n:=by
 induction r generalizing n with
 | zero=>simp [idsUp,idRow]
 | succ r ih =>
  induction n with
  | zero=>rw [idsUp_r,ih]; omega
  | succ n ihn=>rw [idsUp_n,List.length_append,ihn]; simp; omega
def allIds:List Id:=idsUp 2 0
def tellB (l:List Entry) (M:List Bool) (x:Id):Bool:=decide (0≤findE l x) && nth M (findE l x).toNat
def risingI (l:List Entry) (M:List Bool):List Id:=allIds.filter (tellB l M)
set_option maxHeartbeats 1000000 in
theorem rising_meets (l:List Entry) (M:List Bool) (hm:l.length≤40) (hM:M.length=l.length):Meets Tryz.prog 153 [.list (l.map cE),.list (M.map rB)] [] (.list ((risingI l M).map cId)) []:=by
 refine Meets.of_walk Tryz.func153 Tryz.ntmps153 low153 res153 (by simp) fun x hx=>?_
 simp only [go_sem,L153,R153]
 refine W_weak (weak_own 5 0 43 2 false false rfl (by omega)) ?_
 refine loop_inv [0,1,5,6] 1 (fun n st=>∃ r v:Nat,r + n=2 ∧
  st=⟨mkE .top [(0,.list (l.map cE)),(1,.list (M.map rB)),(5,.arr 0 v),(6,.int .i64 r)],[.arr v false false 43 2 (((idsUp r 0).filter (tellB l M)).map cId)]⟩) 2 (by simp [hx]) (by simp [St.put]) ?_ ?_
 ·
  refine ⟨0,0,by omega,?_⟩
  simp [trim_mk,go_sem,subHeap,renObj,pos,List.range_succ,idsUp,idRow]
 ·
  rintro n st ⟨r,v,hr,rfl⟩
  by_cases hlt:r < 2
  ·
   have d2:decide ((r:Int) < 2)=true:=by simp; omega
   have wr:=i64_up (k:=r) (by omega)
   simp only [go_sem,d2]
   refine loop_inv [0,1,5,6,7] 1 (fun n st=>∃ k v:Nat,k + n=20 ∧
    st=⟨mkE .top [(0,.list (l.map cE)),(1,.list (M.map rB)),(5,.arr 0 v),(6,.int .i64 r),(7,.int .i64 ((k + 1:Nat):Int))],[.arr v false false 43 2 (((idsUp r k).filter (tellB l M)).map cId)]⟩) 20 (by simp [hx]) (by simp) ?_ ?_
   ·
    refine ⟨0,v,by omega,?_⟩
    simp [trim_mk,go_sem,subHeap,renObj,pos,List.range_succ]
   ·
    rintro n2 st ⟨k,v2,hk,rfl⟩
    have wk:=i64_up (k:=k + 1) (by omega)
    by_cases hk20:k < 20
    ·
     have d20:decide (((k + 1:Nat):Int)≤20)=true:=by simp; omega
     have hb:=idsUp_length r k
     have hfl:=List.length_filter_le (tellB l M) (idsUp r k)
     have hn:=idsUp_n r k
     simp only [go_sem,d20]
     refine ops_call (.pureE (entryAt_meets l ⟨r,((k + 1:Nat):Int)⟩ (by omega)) (by simp [go_sem,cId])) ?_
     generalize (⟨r,((k + 1:Nat):Int)⟩:Id)=q at *
     generalize hz:findE l q=z
     by_cases hz0:0≤z
     ·
      obtain ⟨i,f1,f2,f3⟩:=findE_spec (l:=l) (x:=q) (by rw [hz]; exact hz0)
      obtain rfl:z=(i:Int):=by rw [← hz]; exact f1
      have hMi:M[i]? = some (nth M i):=nth_get? _ _ (by omega)
      have hiM:i < M.length:=by omega
      have hg:l[i]? = some (nth l i):=nth_get? _ _ f2
      have i0:(0:Int)≤(i:Int):=by omega
      have ht:tellB l M q=nth M i:=by simp [tellB,f1]
      cases hb:nth M i
      ·
       rw [hb] at ht hMi
       simp only [go_sem,i0,hiM,hMi,rB,wk]
       refine ⟨by simp,n2 - 1,by omega,k + 1,v2,by omega,?_⟩
       rw [hn,List.filter_append]
       simp [trim_mk,go_sem,subHeap,renObj,pos,List.range_succ,ht,rB]
      ·
       rw [hb] at ht hMi
       simp only [go_sem,i0,hiM,hMi,rB,f2,hg,cE,f3]
       rw [app_arr rfl rfl (by simp) (by simp; omega)]
       simp only [go_sem,wk]
       refine ⟨by simp,n2 - 1,by omega,k + 1,v2 + 1,by omega,?_⟩
       rw [hn,List.filter_append]
       simp [trim_mk,go_sem,subHeap,renObj,pos,List.range_succ,ht,rB,cId]
     ·
      have ht:tellB l M q=false:=by simp [tellB,hz,hz0]
      simp only [go_sem,hz0,wk]
      refine ⟨by simp,n2 - 1,by omega,k + 1,v2,by omega,?_⟩
      rw [hn,List.filter_append]
      simp [trim_mk,go_sem,subHeap,renObj,pos,List.range_succ,ht,rB]
    ·
     obtain rfl:k=20:=by omega
     have d20:decide (((20 + 1:Nat):Int)≤20)=false:=by simp
     simp only [go_sem,d20,wr]
     refine ⟨by simp,n - 1,by omega,r + 1,v2,by omega,?_⟩
     simp [trim_mk,go_sem,subHeap,renObj,pos,List.range_succ,idsUp_r]
  ·
   obtain rfl:r=2:=by omega
   have d2:decide (((2:Nat):Int) < 2)=false:=by simp
   simp only [go_sem,d2]
   refine ret_pure hx ?_
   simp [go_sem,L153,R153,frzAt,pos,risingI,allIds]
end Go.Proofs.YtfdolehffjmdmaaGreatDoor
/- Heads in the law text's words: a contract. -/
namespace Go.Proofs.YtfdolehffjmdmaaGreatDoor
set_option linter.unusedSimpArgs false
set_option linter.unusedVariables false
open Go.RowKit
def mix (A B:List Bool) (j:Nat):List Bool:=A.take j ++ B.drop j
theorem mix_length {A B:List Bool} {j:Nat} (h:A.length=B.length):(mix A B j).length=B.length:=by
 simp [mix]; omega
theorem mix_get {A B:List Bool} {j:Nat} (h:A.length=B.length) (hj:j < B.length):(mix A B j)[j]? = some (nth B j):=by
 unfold mix
 rw [List.getElem?_append_right (by simp; omega)]
 simp [show j - min j A.length=0 by omega,nth,hj]
theorem mix_set {A B:List Bool} {j:Nat} (h:A.length=B.length) (hj:j < B.length):(mix A B j).set j (nth A j)=mix A B (j + 1):=by
 unfold mix
 rw [List.set_append_right _ _ (by simp; omega)]
 rw [List.take_succ_eq_append_getElem (by omega),nth_eq _ _ (by omega)]
 simp only [List.length_take,show j - min j A.length=0 by omega,List.append_assoc]
 rw [List.drop_eq_getElem_cons hj]
 rfl
theorem mix_zero (A B:List Bool):mix A B 0=B:=by simp [mix]
theorem mix_all {A B:List Bool} (h:A.length=B.length):mix A B B.length=A:=by simp [mix,← h]
def cutM (M P:List Bool):List Bool:=List.zipWith (fun a p=>a && !p) M P
def meetsL (l:List Entry) (c:Int):List Bool:=l.map fun e=>meetB e.c c
def headM (l:List Entry) (c:Int):Nat→List Bool
 | 0=>meetsL l c
 | k + 1=>if meetB (nth l k).c c then cutM (headM l c k) (marksOf l k) else headM l c k
theorem marksOf_length (l:List Entry) (a:Nat):(marksOf l a).length=l.length:=marks_length l a (a + 1)
theorem headM_length (l:List Entry) (c:Int):∀ k,(headM l c k).length=l.length
 | 0=>by simp [headM,meetsL]
 | k + 1=>by
  simp only [headM]
  split
  ·
   simp [cutM,headM_length l c k,marksOf_length]
  ·
   exact headM_length l c k
def headsR (l:List Entry) (c:Int):List Id:=risingI l (headM l c l.length)
theorem LogOk.col07 {l:List Entry} (h:LogOk l) {k:Nat} (hk:k < l.length):0≤(nth l k).c∧(nth l k).c≤7:=by
 have:=h.col hk
 rw [wthn_iff] at this
 omega
set_option maxHeartbeats 2000000 in
theorem headsOf_meets (l:List Entry) (c:Int) (h:LogOk l) (hc:wthn c 1 7=true):Meets Tryz.prog 122 [.list (l.map cE),.int .i64 c] [] (.list ((headsR l c).map cId)) []:=by
 have hm:=h.len
 have hc':0≤c∧c≤7:=by rw [wthn_iff] at hc; omega
 have hb:(l.length:Int) * ((1:Nat):Int)≤140737488355328:=by omega
 have hn0:(0:Int)≤(l.length:Int):=by omega
 refine Meets.of_parts Tryz.func122 Tryz.ntmps122 low122 res122 (by simp) fun x hx=>?_
 simp only [LC.flat,L122,R122,List.cons_append,List.nil_append]
 refine WL_join 6 [0,5] 1 (fun st=>st=⟨mkE .top [(0,.list (l.map cE)),(5,.arr 0 0)],[.arr 0 false false 4 1 ((headM l c l.length).map rB)]⟩) (by simp [hx]) (by simp) ?_ ?_
 ·
  simp only [go_sem,L122,R122,List.take_succ_cons,List.take_zero,hb,hn0]
  refine loop_inv [0,1,5,6] 1 (fun n st=>∃ k:Nat,k + n=l.length ∧
   st=⟨mkE .top [(0,.list (l.map cE)),(1,.int .i64 c),(5,.arr 0 0),(6,.int .i64 k)],[.arr 0 true false 4 1 ((mix (meetsL l c) (List.replicate l.length false) k).map rB)]⟩) l.length (by simp [hx]) (by simp) ?_ ?_
  ·
   refine ⟨0,by omega,?_⟩
   simp [trim_mk,go_sem,subHeap,renObj,pos,List.range_succ,mix_zero,rB]
  ·
   rintro n st ⟨k,hk,rfl⟩
   have hl1:(meetsL l c).length=(List.replicate l.length false).length:=by simp [meetsL]
   have hl2:(List.replicate l.length false).length=l.length:=by simp
   by_cases hlt:k < l.length
   ·
    have hg:l[k]? = some (nth l k):=nth_get? _ _ hlt
    have wk:=i64_up (k:=k) (by omega)
    have hmx:=mix_get (j:=k) hl1 (by omega)
    have hms:=mix_set (j:=k) hl1 (by omega)
    have hml:=mix_length (j:=k) hl1
    rw [hl2] at hml
    have hmb:nth (meetsL l c) k=meetB (nth l k).c c:=by rw [nth_eq _ _ (by rw [hl1,hl2]; exact hlt)]; simp [meetsL,nth_eq _ _ hlt]
    rw [hmb] at hms
    simp only [go_sem,hlt,hg,cE]
    refine ops_call (.pureE (meets_meets (nth l k).c c (h.col07 hlt) hc') (by simp [go_sem])) ?_
    simp only [go_sem,hlt,hml,hmx,rB,wk,Nat.le_refl,frz,or_true,false_or]
    refine ⟨by simp,n - 1,by omega,k + 1,by omega,?_⟩
    rw [← hms]
    simp [trim_mk,go_sem,subHeap,renObj,pos,List.range_succ,rB,List.map_set]
   ·
    obtain rfl:k=l.length:=by omega
    have hma:=mix_all hl1
    rw [hl2] at hma
    simp only [go_sem,Nat.lt_irrefl,hma]
    refine loop_inv [0,1,5,7] 1 (fun n st=>∃ k:Nat,k + n=l.length ∧
     st=⟨mkE .top [(0,.list (l.map cE)),(1,.int .i64 c),(5,.arr 0 0),(7,.int .i64 k)],[.arr 0 true false 4 1 ((headM l c k).map rB)]⟩) l.length (by simp [hx]) (by simp) ?_ ?_
    ·
     refine ⟨0,by omega,?_⟩
     simp [trim_mk,go_sem,subHeap,renObj,pos,List.range_succ,headM]
    ·
     rintro n2 st ⟨k,hk,rfl⟩
     have hhl:=headM_length l c k
     by_cases hlt:k < l.length
     ·
      have hg:l[k]? = some (nth l k):=nth_get? _ _ hlt
      have wk:=i64_up (k:=k) (by omega)
      simp only [go_sem,hlt,hg,cE]
      refine ops_call (.pureE (meets_meets (nth l k).c c (h.col07 hlt) hc') (by simp [go_sem])) ?_
      cases hmt:meetB (nth l k).c c
      ·
       simp only [go_sem,wk]
       refine ⟨by simp,n2 - 1,by omega,k + 1,by omega,?_⟩
       simp [trim_mk,go_sem,subHeap,renObj,pos,List.range_succ,headM,hmt]
      ·
       simp only [go_sem]
       refine ops_call (.pureE (pastOfR_meets l k h hlt) (by simp [go_sem])) ?_
       simp only [go_sem]
       have hml:=marksOf_length l k
       have hcl:(cutM (headM l c k) (marksOf l k)).length=(headM l c k).length:=by simp [cutM,hhl,hml]
       refine loop_inv [0,1,5,7,8,9] 1 (fun n st=>∃ j:Nat,j + n=l.length ∧
        st=⟨mkE .top [(0,.list (l.map cE)),(1,.int .i64 c),(5,.arr 0 0),(7,.int .i64 k),(8,.list ((marksOf l k).map rB)),(9,.int .i64 j)],[.arr 0 true false 4 1 ((mix (cutM (headM l c k) (marksOf l k)) (headM l c k) j).map rB)]⟩) l.length (by simp [hx]) (by simp) ?_ ?_
       ·
        refine ⟨0,by omega,?_⟩
        simp [trim_mk,go_sem,subHeap,renObj,pos,List.range_succ,mix_zero]
       ·
        rintro n3 st ⟨j,hj,rfl⟩
        by_cases hlj:j < l.length
        ·
         have wj:=i64_up (k:=j) (by omega)
         have hmx:=mix_get (j:=j) hcl (by omega)
         have hms:=mix_set (j:=j) hcl (by omega)
         have hmxl:=mix_length (j:=j) hcl
         rw [hhl] at hmxl
         have hP:(marksOf l k)[j]? = some (nth (marksOf l k) j):=nth_get? _ _ (by omega)
         have hcj:nth (cutM (headM l c k) (marksOf l k)) j=(nth (headM l c k) j && !nth (marksOf l k) j):=by
          rw [nth_eq _ _ (by omega),nth_eq _ _ (by omega),nth_eq _ _ (by omega)]; simp [cutM]
         rw [hcj] at hms
         cases hb1:nth (headM l c k) j
         ·
          rw [hb1] at hmx hms
          simp only [go_sem,hlj,hmxl,hmx,rB]
          simp only [go_sem,hlj,hmxl,hmx,rB,wj,Nat.le_refl,frz,or_true,false_or]
          refine ⟨by simp,n3 - 1,by omega,j + 1,by omega,?_⟩
          rw [← hms]
          simp [trim_mk,go_sem,subHeap,renObj,pos,List.range_succ,rB,List.map_set]
         ·
          rw [hb1] at hmx hms
          simp only [go_sem,hlj,hmxl,hmx,hml,hP,rB]
          simp only [go_sem,hlj,hmxl,hmx,rB,wj,Nat.le_refl,frz,or_true,false_or]
          refine ⟨by simp,n3 - 1,by omega,j + 1,by omega,?_⟩
          rw [← hms]
          simp [trim_mk,go_sem,subHeap,renObj,pos,List.range_succ,rB,List.map_set]
        ·
         obtain rfl:j=l.length:=by omega
         have hma:=mix_all hcl
         rw [hhl] at hma
         simp only [go_sem,Nat.lt_irrefl,hma,wk]
         refine ⟨by simp,n2 - 1,by omega,k + 1,by omega,?_⟩
         simp [trim_mk,go_sem,subHeap,renObj,pos,List.range_succ,headM,hmt]
     ·
      obtain rfl:k=l.length:=by omega
      simp only [go_sem,Nat.lt_irrefl]
      rw [join_normal]
      refine ⟨by simp,_,?_,rfl⟩
      rw [show (St.mk (mkE .top [(0,.list (l.map cE)),(5,.arr 0 0)]) [AObj.arr 0 false false 4 1 ((headM l c l.length).map rB)])=(⟨(St.mk (mkE .top [(0,.list (l.map cE)),(5,.arr 0 0)]) [AObj.arr 0 true false 4 1 ((headM l c l.length).map rB)]).env,[AObj.arr 0 true false 4 1 ((headM l c l.length).map rB)].set 0 (AObj.arr 0 false false 4 1 ((headM l c l.length).map rB))⟩:St) from rfl]
      have e:=weak_shut (x:=x) (nt:=68) (st:=St.mk (mkE .top [(0,.list (l.map cE)),(5,.arr 0 0)]) [AObj.arr 0 true false 4 1 ((headM l c l.length).map rB)]) 0 rfl
      refine cast ?_ e
      congr 1
      simp [trim_mk,go_sem,subHeap,renObj,pos,List.range_succ]
 ·
  rintro st rfl
  refine WL_walk ?_
  simp only [go_sem,L122,R122,List.drop_succ_cons,List.drop_zero]
  refine ops_call (.pureE (rising_meets l (headM l c l.length) (by omega) (headM_length l c _)) (by simp [go_sem,frzAt,pos])) ?_
  simp only [go_sem]
  refine ret_pure hx ?_
  simp [go_sem,L122,R122,headsR]
end Go.Proofs.YtfdolehffjmdmaaGreatDoor
/- Plain laws of pasts and heads: what the marks tell. No program in sight. -/
namespace Go.Proofs.YtfdolehffjmdmaaGreatDoor
theorem pastOf_trans {l:List Entry} (h:LogOk l) {j:Nat} (hj:j < l.length):∀ (a:Nat),a < l.length→(nth l j).id ∈ pastOf l a→∀ y ∈ pastOf l j,y ∈ pastOf l a:=by
 intro a
 induction a using Nat.strongRecOn with
 | _ a ih =>
  intro ha hm y hy
  obtain ⟨x,hx,he⟩:=(mem_pastOf h ha).1 hm
  obtain ⟨f1,f2⟩:=h.link_lt ha hx
  refine (mem_pastOf h ha).2 ⟨x,hx,.inr ?_⟩
  rcases he with rfl | he
  ·
   rw [h.find hj,Int.toNat_natCast]; exact hy
  ·
   exact ih _ (by omega) (by omega) he y hy
theorem nth_set {M:List Bool} {i k:Nat} (hk:k < M.length):nth (M.set i true) k=(nth M k || decide (i=k)):=by
 rw [nth_eq _ _ (by simpa using hk),nth_eq _ _ hk,List.getElem_set]
 by_cases e:i=k
 ·
  simp [e]
 ·
  simp [e]
theorem nth_markL {l:List Entry}:∀ (ls:List Id) (M:List Bool) (k:Nat),k < M.length→nth (markL l ls M) k=(nth M k || ls.any fun x=>decide ((findE l x).toNat=k))
 | [],M,k,_=>by simp [markL]
 | x :: ls,M,k,h=>by
  show nth (markL l ls (M.set (findE l x).toNat true)) k=_
  rw [nth_markL ls _ k (by simpa using h),nth_set h]
  simp [Bool.or_assoc]
theorem markL_link {l : List Entry} (h : LogOk l) {i k : Nat} (hi : i < l.length) (hk : k < l.length) {M : List Bool} (hM : M.length = l.length) :
    nth (markL l (nth l i).ls M) k=true↔nth M k=true∨(nth l k).id ∈ (nth l i).ls:=by
  rw [nth_markL _ _ _ (by omega),Bool.or_eq_true,List.any_eq_true]
  constructor
  · rintro (h1 | ⟨x,hx,hd⟩)
    · exact .inl h1
    · obtain ⟨f1,f2⟩:=h.link_lt hi hx
      obtain ⟨m,g1,g2,g3⟩:=findE_spec f1
      have:m=k:=by simpa [g1] using hd
      subst this
      exact .inr (by rw [g3]; exact hx)
  · rintro (h1 | hx)
    · exact .inl h1
    · exact .inr ⟨_,hx,by simp [h.find hk]⟩
theorem nth_repl {n k:Nat} (h:k < n):nth (List.replicate n false) k=false:=by
 rw [nth_eq _ _ (by simpa using h)]; simp
theorem marks_inv {l : List Entry} (h : LogOk l) {a : Nat} (ha : a < l.length) : ∀ s, s ≤ a →
    (∀ k,k < l.length→nth (marks l a (s + 1)) k=true→(nth l k).id ∈ pastOf l a) ∧
    (∀ k,k < l.length→(nth l k).id ∈ pastOf l a→nth (marks l a (s + 1)) k=true∨∃ j,j < a - s∧nth (marks l a (s + 1)) j=true∧(nth l k).id ∈ pastOf l j)
  | 0,_=>by
    have e:marks l a 1=markL l (nth l a).ls (List.replicate l.length false):=by simp [marks,markS]
    rw [Nat.zero_add,e]
    have hlk:∀ k,k < l.length→(nth (markL l (nth l a).ls (List.replicate l.length false)) k=true↔(nth l k).id ∈ (nth l a).ls):=fun k hk=>by
      rw [markL_link h ha hk (by simp),nth_repl hk]; simp
    refine ⟨fun k hk hm=>(mem_pastOf h ha).2 ⟨_,(hlk k hk).1 hm,.inl rfl⟩,fun k hk hp=>?_⟩
    obtain ⟨x,hx,he⟩:=(mem_pastOf h ha).1 hp
    rcases he with rfl | he
    · exact .inl ((hlk k hk).2 hx)
    · obtain ⟨f1,f2⟩:=h.link_lt ha hx
      obtain ⟨m,g1,g2,g3⟩:=findE_spec f1
      rw [g1,Int.toNat_natCast] at he
      exact .inr ⟨m,by omega,(hlk m g2).2 (by rw [g3]; exact hx),he⟩
  | s + 1,hs=>by
    obtain ⟨iA,iB⟩:=marks_inv h ha s (by omega)
    have hi:a - (s + 1) < l.length:=by omega
    have e:marks l a (s + 1 + 1)=markS l a (a - (s + 1)) (marks l a (s + 1)):=rfl
    rw [e]
    generalize hM:marks l a (s + 1)=M at *
    have hMl:M.length=l.length:=by rw [← hM]; exact marks_length l a _
    generalize hid:a - (s + 1)=i at *
    have hne:¬ i=a:=by omega
    unfold markS
    by_cases hm:nth M i=true
    · rw [if_pos (.inr hm)]
      have hlk:∀ k,k < l.length→(nth (markL l (nth l i).ls M) k=true↔nth M k=true∨(nth l k).id ∈ (nth l i).ls):=fun k hk=>markL_link h hi hk hMl
      refine ⟨fun k hk hkm=>?_,fun k hk hp=>?_⟩
      · rcases (hlk k hk).1 hkm with h1 | h1
        · exact iA k hk h1
        · exact pastOf_trans h hi a ha (iA i hi hm) _ ((mem_pastOf h hi).2 ⟨_,h1,.inl rfl⟩)
      · rcases iB k hk hp with h1 | ⟨j,hj,h2,h3⟩
        · exact .inl ((hlk k hk).2 (.inl h1))
        · by_cases hji:j=i
          · subst hji
            obtain ⟨x,hx,he⟩:=(mem_pastOf h hi).1 h3
            rcases he with rfl | he
            · exact .inl ((hlk k hk).2 (.inr hx))
            · obtain ⟨f1,f2⟩:=h.link_lt hi hx
              obtain ⟨m,g1,g2,g3⟩:=findE_spec f1
              rw [g1,Int.toNat_natCast] at he
              exact .inr ⟨m,by omega,(hlk m g2).2 (.inr (by rw [g3]; exact hx)),he⟩
          · exact .inr ⟨j,by omega,(hlk j (by omega)).2 (.inl h2),h3⟩
    · rw [if_neg (by simp [hne,hm])]
      refine ⟨iA,fun k hk hp=>?_⟩
      rcases iB k hk hp with h1 | ⟨j,hj,h2,h3⟩
      · exact .inl h1
      · have:j≠i:=fun e=>hm (e ▸ h2)
        exact .inr ⟨j,by omega,h2,h3⟩
theorem marksOf_iff {l:List Entry} (h:LogOk l) {a k:Nat} (ha:a < l.length) (hk:k < l.length):nth (marksOf l a) k=true↔(nth l k).id ∈ pastOf l a:=by
 obtain ⟨h1,h2⟩:=marks_inv h ha a (Nat.le_refl _)
 refine ⟨h1 k hk,fun hp=>?_⟩
 rcases h2 k hk hp with h3 | ⟨j,hj,-⟩
 ·
  exact h3
 ·
  omega
theorem allIds_asc:Asc allIds:=by
 unfold Asc
 have:(allIds.Pairwise fun a b=>lessB a b=true):=by decide +kernel
 exact this
theorem mem_allIds {x:Id}:x ∈ allIds↔okId x=true:=by
 obtain ⟨r,n⟩:=x
 simp only [okId,Bool.and_eq_true,wthn_iff]
 constructor
 ·
  intro h
  have key:∀ y ∈ allIds,(0≤y.r∧y.r≤1)∧1≤y.n∧y.n≤20:=by decide +kernel
  exact key _ h
 ·
  rintro ⟨⟨h1,h2⟩,h3,h4⟩
  have key:∀ (a:Fin 2) (b:Fin 20),(⟨(a.val:Int),(b.val:Int) + 1⟩:Id) ∈ allIds:=by decide +kernel
  have:=key ⟨r.toNat,by omega⟩ ⟨(n - 1).toNat,by omega⟩
  simp only [Int.toNat_of_nonneg h1,Int.toNat_of_nonneg (show 0≤n - 1 by omega),Int.sub_add_cancel] at this
  exact this
theorem risingI_asc (l:List Entry) (M:List Bool):Asc (risingI l M):=allIds_asc.filter _
theorem mem_risingI {l:List Entry} (h:LogOk l) {M:List Bool} {x:Id}:x ∈ risingI l M↔∃ k,k < l.length∧(nth l k).id=x∧nth M k=true:=by
 unfold risingI
 rw [List.mem_filter,mem_allIds,tellB,Bool.and_eq_true,decide_eq_true_eq]
 constructor
 ·
  rintro ⟨h1,h2,h3⟩
  obtain ⟨k,g1,g2,g3⟩:=findE_spec h2
  rw [g1,Int.toNat_natCast] at h3
  exact ⟨k,g2,g3,h3⟩
 ·
  rintro ⟨k,hk,rfl,h3⟩
  rw [h.find hk,Int.toNat_natCast]
  exact ⟨h.id_ok hk,by omega,h3⟩
theorem nth_cut {M P:List Bool} {k:Nat} (h1:k < M.length) (h2:k < P.length):nth (cutM M P) k=(nth M k && !nth P k):=by
 rw [nth_eq _ _ (by simp [cutM]; omega),nth_eq _ _ h1,nth_eq _ _ h2]; simp [cutM]
theorem headM_iff {l:List Entry} (h:LogOk l) {c:Int} {k:Nat} (hk:k < l.length):∀ n,n≤l.length→(nth (headM l c n) k=true↔meetB (nth l k).c c=true∧∀ i,i < n→meetB (nth l i).c c=true→(nth l k).id ∉ pastOf l i)
 | 0,_=>by
  have:nth (headM l c 0) k=meetB (nth l k).c c:=by
   simp only [headM,meetsL]
   rw [nth_eq _ _ (by simpa using hk)]; simp [nth_eq _ _ hk]
  rw [this]
  exact ⟨fun e=>⟨e,fun i hi=>by omega⟩,fun e=>e.1⟩
 | n + 1,hn=>by
  have ih:=headM_iff h (c:=c) hk n (by omega)
  simp only [headM]
  split
  ·
   rename_i hm
   rw [nth_cut (by rw [headM_length]; exact hk) (by rw [marksOf_length]; exact hk),Bool.and_eq_true,ih,Bool.not_eq_true',← Bool.not_eq_true,marksOf_iff h (by omega) hk]
   constructor
   ·
    rintro ⟨⟨h1,h2⟩,h3⟩
    refine ⟨h1,fun i hi hmi=>?_⟩
    by_cases e:i=n
    ·
     subst e; exact h3
    ·
     exact h2 i (by omega) hmi
   ·
    rintro ⟨h1,h2⟩
    exact ⟨⟨h1,fun i hi=>h2 i (by omega)⟩,h2 n (by omega) hm⟩
  ·
   rename_i hm
   rw [ih]
   constructor
   ·
    rintro ⟨h1,h2⟩
    refine ⟨h1,fun i hi hmi=>?_⟩
    by_cases e:i=n
    ·
     subst e; exact (hm hmi).elim
    ·
     exact h2 i (by omega) hmi
   ·
    rintro ⟨h1,h2⟩
    exact ⟨h1,fun i hi=>h2 i (by omega)⟩
theorem ids_nodup {l:List Entry} (h:LogOk l):(l.map (·.id)).Nodup:=by
 rw [List.Nodup,List.pairwise_map,List.pairwise_iff_getElem]
 intro i j hi hj hij e
 rw [← nth_eq l i hi,← nth_eq l j hj] at e
 have:=h.inj hi hj e
 omega
theorem headsC_nodup {l:List Entry} (h:LogOk l) (c:Int):(headsC l c).Nodup:=by
 refine List.Nodup.sublist (List.Sublist.map _ ?_) (ids_nodup h)
 exact List.filter_sublist.trans List.filter_sublist
theorem mem_withC {l:List Entry} {c:Int} {e:Entry}:e ∈ withC l c↔∃ k,k < l.length∧nth l k=e∧meetB e.c c=true:=by
 unfold withC
 rw [List.mem_filter]
 constructor
 ·
  rintro ⟨h1,h2⟩
  obtain ⟨k,hk,rfl⟩:=List.getElem_of_mem h1
  exact ⟨k,hk,nth_eq _ _ hk,h2⟩
 ·
  rintro ⟨k,hk,rfl,h2⟩
  exact ⟨by rw [nth_eq _ _ hk]; exact List.getElem_mem hk,h2⟩
theorem mem_headsC {l:List Entry} (h:LogOk l) {c:Int} {x:Id}:x ∈ headsC l c↔∃ k,k < l.length∧(nth l k).id=x∧meetB (nth l k).c c=true∧∀ i,i < l.length→meetB (nth l i).c c=true→x ∉ pastOf l i:=by
 unfold headsC
 rw [List.mem_map]
 constructor
 ·
  rintro ⟨e,he,rfl⟩
  obtain ⟨h1,h2⟩:=List.mem_filter.1 he
  obtain ⟨k,hk,rfl,hm⟩:=mem_withC.1 h1
  refine ⟨k,hk,rfl,hm,fun i hi hmi hp=>?_⟩
  simp only [Bool.not_eq_true',underB,List.any_eq_false] at h2
  have:=h2 (nth l i) (mem_withC.2 ⟨i,hi,rfl,hmi⟩)
  rw [pastAt_eq,h.find hi,Int.toNat_natCast] at this
  exact this (hasI_iff.2 hp)
 ·
  rintro ⟨k,hk,rfl,hm,hp⟩
  refine ⟨nth l k,List.mem_filter.2 ⟨mem_withC.2 ⟨k,hk,rfl,hm⟩,?_⟩,rfl⟩
  simp only [Bool.not_eq_true',underB,List.any_eq_false]
  intro f hf
  obtain ⟨i,hi,rfl,hmi⟩:=mem_withC.1 hf
  rw [pastAt_eq,h.find hi,Int.toNat_natCast]
  exact fun hh=>hp i hi hmi (hasI_iff.1 hh)
theorem heads_eq {l:List Entry} (h:LogOk l) (c:Int):headsR l c=sortI (headsC l c):=by
 refine asc_ext (risingI_asc _ _) (sortI_asc (headsC_nodup h c)) fun x=>?_
 rw [headsR,mem_risingI h,sortI_mem,mem_headsC h]
 constructor
 ·
  rintro ⟨k,hk,rfl,hm⟩
  obtain ⟨h1,h2⟩:=(headM_iff h hk l.length (Nat.le_refl _)).1 hm
  exact ⟨k,hk,rfl,h1,h2⟩
 ·
  rintro ⟨k,hk,rfl,hm,hp⟩
  exact ⟨k,hk,rfl,(headM_iff h hk l.length (Nat.le_refl _)).2 ⟨hm,hp⟩⟩
end Go.Proofs.YtfdolehffjmdmaaGreatDoor
/- Players of a log: contracts. -/
namespace Go.Proofs.YtfdolehffjmdmaaGreatDoor
set_option linter.unusedSimpArgs false
set_option linter.unusedVariables false
open Go.RowKit
theorem cloneI_meets (l:List Id) (hb:l.length≤1000000000):Meets Tryz.prog 148 [.list (l.map cId)] [] (.list (l.map cId)) []:=by
 refine Meets.of_walk Tryz.func148 Tryz.ntmps148 low148 res148 (by simp) fun x hx=>?_
 simp only [go_sem,L148,R148]
 refine ops_isnil rfl fun b hb'=>?_
 cases b
 ·
  simp only [go_sem]
  rw [app_arr rfl rfl (by simp [cId]) (by simp; omega)]
  simp only [go_sem]
  refine ret_pure hx ?_
  simp [go_sem,L148,R148,pos,frzAt]
 ·
  simp only [go_sem]
  have:l = []:=by simpa using hb' rfl
  subst this
  refine ret_pure hx ?_
  simp [go_sem,L148,R148]
def blkB (l:List Entry) (out:List Id) (y:Id) (e:Entry):Bool:=hasI (pastAt (pasts l) l y) e.id && !hasI out e.id
def mayB (l:List Entry) (c:Int) (out:List Id) (y:Id):Bool := !(withC l c).any (blkB l out y)
end Go.Proofs.YtfdolehffjmdmaaGreatDoor
/- Plain laws of orders: what comes next,and what comes at all. No program in sight. -/
namespace Go.Proofs.YtfdolehffjmdmaaGreatDoor
def candB (l:List Entry) (c:Int) (out:List Id) (x:Id):Bool:=decide (0≤findE l x) && meetB (nth l (findE l x).toNat).c c && !hasI out x && mayB l c out x
def nextR (l:List Entry) (c:Int) (out:List Id):Option Id:=allIds.find? (candB l c out)
def mOut (l:List Entry) (c:Int) (out:List Id):Nat:=(withC l c).countP fun e => !hasI out e.id
def moreN (l:List Entry) (c:Int):Nat→List Id→List Id
 | 0,out=>out
 | n + 1,out=>match nextR l c out with
  | some x=>moreN l c n (out ++ [x])
  | none=>out
def more (l:List Entry) (c:Int) (out:List Id):List Id:=moreN l c (mOut l c out) out
end Go.Proofs.YtfdolehffjmdmaaGreatDoor
/- A loop whose objects change places: what stays is chosen anew in each round. -/
namespace Go.Proofs.YtfdolehffjmdmaaGreatDoor
open Go.RowKit
section
variable {P:Program} {x:Cx} {nt:Nat} {st:St}
def St.sel (st:St) (live ks:List Nat):St :=
 ⟨fun t=>if t ∈ live then renT false (pos ks) (frzAt true st.heap) (st.env t) else .top,subHeap (pos ks) (frzAt true st.heap) st.heap ks⟩
theorem weak_sel (live ks:List Nat) (hnd:ks.Nodup) (hlt:∀ k ∈ ks,k < st.heap.length) (hpre:∀ i,i < x.H0.length→ks[i]? = some i):Weak x nt st (st.sel live ks):=by
 intro a w ⟨⟨C,hr,he⟩,hdf,hsz⟩
 obtain ⟨k1,k2⟩:=hr.restrict hnd hlt hpre
 refine ⟨⟨_,k1,fun t=>?_⟩,hdf,hsz⟩
 simp only [St.sel]
 split
 ·
  exact renT_rep k2 (he t)
 ·
  exact .any
theorem sel_mk (d:PV) (l:List (Nat × PV)) (H:List AObj) (live ks:List Nat):(St.mk (mkE d l) H).sel live ks=⟨mkE .top (live.map fun t=>(t,renT false (pos ks) (frzAt true H) (mkE d l t))),subHeap (pos ks) (frzAt true H) H ks⟩:=by
 simp only [St.sel,St.mk.injEq,and_true]
 funext t
 induction live with
 | nil=>simp [mkE]
 | cons k live ih =>
  simp only [List.map_cons,mkE]
  by_cases e:k=t
  ·
   subst e; simp
  ·
   rw [if_neg e,← ih]
   simp [Ne.symm e]
def againS (x:Cx) (nt:Nat) (I:Nat→St→Prop) (n:Nat) (st:St):Prop:=∃ n' st',n' < n∧Weak x nt st st'∧I n' st'
theorem loop_sel {b : LC} {Q : AE → St → Prop} (I : Nat → St → Prop) (n : Nat) (h0 : ∃ st', Weak x nt st st' ∧ I n st')
    (hstep:∀ n st,I n st→walk P x nt b (@thenB ⟨againS x nt I n⟩ Q) st):W P x nt (.loop b) Q st:=by
  refine W_loop (fun n st=>∃ st',Weak x nt st st'∧I n st') n h0 ?_
  rintro n st ⟨st',hw,hI⟩
  refine W_weaken hw ((W_walk (hstep n st' hI)).mono fun e st2 hq=>?_)
  cases e with
  | normal=>obtain ⟨n',st3,g2,g3,g4⟩:=hq; exact ⟨n',g2,st3,g3,g4⟩
  | exit id=>exact hq
  | ret=>exact hq
end
end Go.Proofs.YtfdolehffjmdmaaGreatDoor
