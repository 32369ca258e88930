/- Joined texts of this claim: Pi1 Pi2 Pi3 Pi4 Pi5 Pi6 Pi7 Pi8 Pi9 Pi10 Pi11 Pi12 Pi13 Pi14 Pi15 Pi16. -/
import Derived.WalkKit
import Derived.LoopN
import Derived.Orders
import Derived.Laws.AppendOwn
import Derived.Great.BuildSlice
import Derived.Deep.MidRow
import Derived.Laws.StructEq
import Derived.Laws.BytesArg
set_option linter.unusedSimpArgs false
set_option linter.unusedVariables false
set_option linter.unusedSectionVars false
set_option maxHeartbeats 8000000
set_option maxRecDepth 100000
namespace Go.Proofs.YtkcahmbcpkjpiaaGreatDoor
open Go.RowKit
theorem yaa:type_of% @List.range_succ:=@List.range_succ
theorem yab:type_of% @List.getElem?_eq_some_iff:=@List.getElem?_eq_some_iff
theorem yac:type_of% @List.getElem?_eq_getElem:=@List.getElem?_eq_getElem
theorem yad:type_of% @Option.map_eq_some_iff:=@Option.map_eq_some_iff
theorem yae:type_of% @Option.some.injEq:=@Option.some.injEq
theorem yaf:type_of% @List.mem_of_getElem?:=@List.mem_of_getElem?
theorem yag:type_of% @Nat.le_refl:=@Nat.le_refl
theorem yah:type_of% @List.length_map:=@List.length_map
theorem yai:type_of% @List.mem_append:=@List.mem_append
theorem yaj:type_of% @Nat.mul_le_mul_right:=@Nat.mul_le_mul_right
theorem yak:type_of% @Array.getElem?_eq_some_iff:=@Array.getElem?_eq_some_iff
theorem yal:type_of% @Sem.run_bind:=@Sem.run_bind
theorem yam:type_of% @Nat.lt_of_lt_of_le:=@Nat.lt_of_lt_of_le
theorem yan:type_of% @List.take_of_length_le:=@List.take_of_length_le
theorem yao:type_of% @Int.cast_ofNat_Int:=@Int.cast_ofNat_Int
theorem yap:type_of% @Bool.false_eq_true:=@Bool.false_eq_true
theorem yaq:type_of% @List.getElem_of_mem:=@List.getElem_of_mem
theorem yar:type_of% @List.all_eq_true:=@List.all_eq_true
theorem yas:type_of% @List.nil_append:=@List.nil_append
theorem yat:type_of% @Bool.and_eq_true:=@Bool.and_eq_true
theorem yau:type_of% @List.cons_append:=@List.cons_append
theorem yav:type_of% @List.getElem?_map:=@List.getElem?_map
theorem yaw:type_of% @List.getElem_mem:=@List.getElem_mem
theorem yax:type_of% @List.length_cons:=@List.length_cons
theorem yay:type_of% @Sem.run_pure:=@Sem.run_pure
theorem yaz:type_of% @List.length_take:=@List.length_take
theorem yaA:type_of% @List.map_cons:=@List.map_cons
theorem yaB:type_of% @Int.toNat_natCast:=@Int.toNat_natCast
theorem yaC:type_of% @List.getElem?_append_left:=@List.getElem?_append_left
theorem yaD:type_of% @Int.toNat_zero:=@Int.toNat_zero
theorem yaE:type_of% @List.take_succ_eq_append_getElem:=@List.take_succ_eq_append_getElem
theorem yaF:type_of% @Nat.zero_add:=@Nat.zero_add
theorem yaG:type_of% @List.mem_map:=@List.mem_map
theorem yaH:type_of% @List.eq_nil_of_length_eq_zero:=@List.eq_nil_of_length_eq_zero
theorem yaI:type_of% @Nat.add_mul:=@Nat.add_mul
theorem yaJ:type_of% @List.drop_succ_cons:=@List.drop_succ_cons
theorem yaK:type_of% @List.getElem?_take:=@List.getElem?_take
theorem yaL:type_of% @List.getElem?_append_right:=@List.getElem?_append_right
theorem yaM:type_of% @Option.map_some:=@Option.map_some
theorem yaN:type_of% @List.mem_cons:=@List.mem_cons
theorem yaO:type_of% @Int.le_refl:=@Int.le_refl
theorem yaP:type_of% @Nat.le_trans:=@Nat.le_trans
theorem yaQ:type_of% @Bool.not_eq_true':=@Bool.not_eq_true'
theorem yaR:type_of% @List.length_append:=@List.length_append
theorem yaS:type_of% @List.length_nil:=@List.length_nil
theorem yaT:type_of% @List.pairwise_iff_getElem:=@List.pairwise_iff_getElem
theorem yaU:type_of% @List.map_congr_left:=@List.map_congr_left
theorem yaV:type_of% @Array.getElem?_toList:=@Array.getElem?_toList
theorem yaW:type_of% @List.mem_range:=@List.mem_range
theorem yaX:type_of% @Int.ofNat_zero:=@Int.ofNat_zero
theorem yaY:type_of% @List.drop_zero:=@List.drop_zero
theorem yaZ:type_of% @List.any_eq_false:=@List.any_eq_false
theorem ya0:type_of% @List.getElem?_range:=@List.getElem?_range
theorem ya1:type_of% @List.mem_filter:=@List.mem_filter
theorem ya2:type_of% @List.drop_eq_nil_of_le:=@List.drop_eq_nil_of_le
theorem ya3:type_of% @List.map_nil:=@List.map_nil
theorem ya4:type_of% @Array.getElem?_eq_getElem:=@Array.getElem?_eq_getElem
theorem ya5:type_of% @List.mem_flatMap:=@List.mem_flatMap
theorem ya6:type_of% @List.append_nil:=@List.append_nil
theorem ya7:type_of% @List.pairwise_cons:=@List.pairwise_cons
theorem ya8:type_of% @List.getElem?_cons_zero:=@List.getElem?_cons_zero
theorem ya9:type_of% @List.getElem?_set_self:=@List.getElem?_set_self
theorem yba:type_of% @World.size_alloc:=@World.size_alloc
theorem ybb:type_of% @List.append_assoc:=@List.append_assoc
theorem ybc:type_of% @Nat.add_assoc:=@Nat.add_assoc
theorem ybd:type_of% @Prod.mk.injEq:=@Prod.mk.injEq
theorem ybe:type_of% @Option.some.inj:=@Option.some.inj
theorem ybf:type_of% @List.pairwise_append:=@List.pairwise_append
theorem ybg:type_of% @List.getElem?_drop:=@List.getElem?_drop
theorem ybh:type_of% @Nat.add_zero:=@Nat.add_zero
theorem ybi:type_of% @Array.getElem?_modify:=@Array.getElem?_modify
theorem ybj:type_of% @List.length_filter_le:=@List.length_filter_le
theorem ybk:type_of% @List.take_succ_cons:=@List.take_succ_cons
theorem ybl:type_of% @List.getElem?_set_ne:=@List.getElem?_set_ne
theorem ybm:type_of% @Int.natCast_nonneg:=@Int.natCast_nonneg
theorem ybn:type_of% @List.any_eq_true:=@List.any_eq_true
theorem ybo:type_of% @Option.bind_eq_some_iff:=@Option.bind_eq_some_iff
theorem ybp:type_of% @Array.eq_empty_of_size_eq_zero:=@Array.eq_empty_of_size_eq_zero
theorem ybq:type_of% @List.getElem?_eq_none:=@List.getElem?_eq_none
theorem ybr:type_of% @Int.natCast_one:=@Int.natCast_one
theorem ybs:type_of% @List.length_eq_zero_iff:=@List.length_eq_zero_iff
theorem ybt:type_of% @Bool.not_eq_true:=@Bool.not_eq_true
theorem ybu:type_of% @List.mem_cons_of_mem:=@List.mem_cons_of_mem
theorem ybv:type_of% @Nat.zero_le:=@Nat.zero_le
theorem ybw:type_of% @Nat.one_mul:=@Nat.one_mul
theorem ybx:type_of% @List.flatMap_cons:=@List.flatMap_cons
theorem yby:type_of% @List.take_add_one:=@List.take_add_one
theorem ybz:type_of% @Array.mapM_eq_mapM_toList:=@Array.mapM_eq_mapM_toList
theorem ybA:type_of% @Option.getD_some:=@Option.getD_some
theorem ybB:type_of% @List.mem_zipIdx_iff_getElem?:=@List.mem_zipIdx_iff_getElem?
theorem ybC:type_of% @List.length_eraseIdx:=@List.length_eraseIdx
theorem ybD:type_of% @List.length_set:=@List.length_set
theorem ybE:type_of% @Array.toList_map:=@Array.toList_map
theorem ybF:type_of% @List.take_length:=@List.take_length
theorem ybG:type_of% @List.take_append_drop:=@List.take_append_drop
theorem ybH:type_of% @List.mem_take_iff_getElem:=@List.mem_take_iff_getElem
theorem ybI:type_of% @Bool.or_eq_true:=@Bool.or_eq_true
theorem ybJ:type_of% @Bool.eq_iff_iff:=@Bool.eq_iff_iff
theorem ybK:type_of% @Int.sub_zero:=@Int.sub_zero
theorem ybL:type_of% @World.ownsRow_nil:=@World.ownsRow_nil
theorem ybM:type_of% @List.foldl_append:=@List.foldl_append
theorem ybN:type_of% @List.all_cons:=@List.all_cons
theorem ybO:type_of% @Nat.lt_irrefl:=@Nat.lt_irrefl
theorem ybP:type_of% @List.getElem?_cons_succ:=@List.getElem?_cons_succ
theorem ybQ:type_of% @List.length_drop:=@List.length_drop
theorem ybR:type_of% @Iff.rfl:=@Iff.rfl
theorem ybS:type_of% @List.nodup_range:=@List.nodup_range
theorem ybT:type_of% @Array.getInternal_eq_getElem:=@Array.getInternal_eq_getElem
theorem ybU:type_of% @IntKind.wrap_i64:=@IntKind.wrap_i64
theorem ybV:type_of% @Array.getElem?_eq_none:=@Array.getElem?_eq_none
theorem ybW:type_of% @Nat.mul_comm:=@Nat.mul_comm
theorem ybX:type_of% @Nat.add_sub_cancel:=@Nat.add_sub_cancel
theorem ybY:type_of% @List.mem_replicate:=@List.mem_replicate
theorem ybZ:type_of% @List.mem_cons_self:=@List.mem_cons_self
theorem yb0:type_of% @List.range_zero:=@List.range_zero
theorem yb1:type_of% @List.mem_append_left:=@List.mem_append_left
theorem yb2:type_of% @Array.length_toList:=@Array.length_toList
theorem yb3:type_of% @List.flatMap_append:=@List.flatMap_append
theorem yb4:type_of% @Int.eq_ofNat_of_zero_le:=@Int.eq_ofNat_of_zero_le
theorem yb5:type_of% @Nat.eq_zero_or_pos:=@Nat.eq_zero_or_pos
theorem yb6:type_of% @List.cons.injEq:=@List.cons.injEq
theorem yb7:type_of% @List.filter_append:=@List.filter_append
theorem yb8:type_of% @List.mem_filterMap:=@List.mem_filterMap
theorem yb9:type_of% @List.size_toArray:=@List.size_toArray
theorem yca:type_of% @List.pairwise_map:=@List.pairwise_map
theorem ycb:type_of% @List.map_set:=@List.map_set
theorem ycc:type_of% @List.all_nil:=@List.all_nil
theorem ycd:type_of% @List.map_toArray:=@List.map_toArray
theorem yce:type_of% @List.flatMap_map:=@List.flatMap_map
theorem ycf:type_of% @List.ext_getElem:=@List.ext_getElem
theorem ycg:type_of% @Bool.true_and:=@Bool.true_and
theorem ych:type_of% @Int.toNat_one:=@Int.toNat_one
inductive PV where
 | top
 | undef
 | bool (b:Bool)
 | int (k:IntKind) (n:Int)
 | str (s:ByteArray)
 | nilp
 | nilsl
 | list (rows:List (List PV))
 | vlist (rows:List (List PV))
 | agg (cs:List PV)
 | tup (vs:List PV)
 | ptr (id off:Nat)
 | aptr (id ver sz idx off:Nat)
 | rptr (cells:List PV)
 | arr (id ver:Nat)
 | clo (f:Nat) (caps:List PV)
 | clob (f:Nat) (first:List PV)
 | oll (rows:List (List PV))
 | olp (cells:List PV)
instance:Inhabited PV:=⟨.top⟩
inductive AObj where
 | box (cells:List PV)
 | arr (ver:Nat) (st ipu:Bool) (T sz:Nat) (rows:List (List PV))
 | gone
structure Conc where
 n:Nat
 blk:Nat→Nat
 sv:Nat→Value
 ver:Nat→Nat
 old:Nat→Nat→Prop:=fun _ _=>False
inductive RepP (S:Nat→Nat→Prop) (w:World):PV→Value→Prop
  | top {v:Value} (h:v.oneCell'=true):RepP S w .top v
  | bool (b:Bool):RepP S w (.bool b) (.bool b)
  | int (k:IntKind) (n:Int):RepP S w (.int k n) (.int k n)
  | str (s:ByteArray):RepP S w (.str s) (.string s)
  | nilp:RepP S w .nilp (.pointer none)
  | nilsl:RepP S w .nilsl (.slice none 0 0)
  | list (rows : List (List PV)) (a : Option Addr) (c sz : Nat) (x : Nat → Nat → Value) (hc : rows.length ≤ c) (hm : c ≤ maxLen) (hsz : 0 < sz) (hz : ∀ row ∈ rows, row.length = sz)
      (hl:∀ k row j p,rows[k]? = some row→row[j]? = some p→∃ b o,a=some ⟨b,o,none⟩∧S b (o + k * sz + j)∧w.cell? ⟨b,o + k * sz + j,none⟩=some (x k j))
      (h:∀ k row j p,rows[k]? = some row→row[j]? = some p→RepP S w p (x k j)):RepP S w (.list rows) (.slice a rows.length c)
  | rptr (cells : List PV) (b o : Nat) (x : Nat → Value)
      (hl:∀ j p,cells[j]? = some p→S b (o + j)∧w.cell? ⟨b,o + j,none⟩=some (x j))
      (h:∀ j p,cells[j]? = some p→RepP S w p (x j)):RepP S w (.rptr cells) (.pointer (some ⟨b,o,none⟩))
inductive RepV (S:Nat→Nat→Prop) (w:World) (C:Conc):PV→Value→Prop
  | pure {p:PV} {v:Value} (h:RepP S w p v):RepV S w C p v
  | any {v:Value}:RepV S w C .top v
  | undef:RepV S w C .undef undef
  | vlist (rows : List (List PV)) (a : Option Addr) (c sz : Nat) (x : Nat → Nat → Value) (hc : rows.length ≤ c) (hm : c ≤ maxLen) (hsz : 0 < sz) (hz : ∀ row ∈ rows, row.length = sz)
      (hl:∀ k row j p,rows[k]? = some row→row[j]? = some p→(x k j).oneCell'=true∧∃ b o,a=some ⟨b,o,none⟩∧S b (o + k * sz + j)∧w.cell? ⟨b,o + k * sz + j,none⟩=some (x k j))
      (h:∀ k row j p,rows[k]? = some row→row[j]? = some p→RepV S w C p (x k j)):RepV S w C (.vlist rows) (.slice a rows.length c)
  | agg (cs : List PV) (vs : List Value) (hl : vs.length = cs.length) (h1 : ∀ (j : Nat) (x : Value), vs[j]? = some x → x.oneCell' = true)
      (h:∀ (j:Nat) p x,cs[j]? = some p→vs[j]? = some x→RepV S w C p x):RepV S w C (.agg cs) (.agg vs.toArray)
  | tup (cs : List PV) (vs : List Value) (hl : vs.length = cs.length)
      (h:∀ (j:Nat) p x,cs[j]? = some p→vs[j]? = some x→RepV S w C p x):RepV S w C (.tup cs) (.tuple vs.toArray)
  | clo (f : Nat) (cs : List PV) (vs : List Value) (hl : vs.length = cs.length)
      (h:∀ (j:Nat) p x,cs[j]? = some p→vs[j]? = some x→RepV S w C p x):RepV S w C (.clo f cs) (.func (.func f) #[] vs.toArray)
  | clob (f : Nat) (cs : List PV) (vs : List Value) (hl : vs.length = cs.length)
      (h:∀ (j:Nat) p x,cs[j]? = some p→vs[j]? = some x→RepV S w C p x):RepV S w C (.clob f cs) (.func (.func f) vs.toArray #[])
  | ptr (id off:Nat) (hi:id < C.n):RepV S w C (.ptr id off) (.pointer (some ⟨C.blk id,off,none⟩))
  | aptr (id sz idx off g n c:Nat) (hi:id < C.n) (hs:C.sv id = .slice (some ⟨g,0,none⟩) n c):RepV S w C (.aptr id (C.ver id) sz idx off) (.pointer (some ⟨g,idx * sz + off,none⟩))
  | aptrOld (id ver sz idx off:Nat) (hi:id < C.n) (hv:ver < C.ver id) {v:Value} (h1:v.oneCell'=true):RepV S w C (.aptr id ver sz idx off) v
  | arr (id:Nat) (hi:id < C.n) (h1:(C.sv id).oneCell'=true):RepV S w C (.arr id (C.ver id)) (C.sv id)
  | arrOld (id ver:Nat) (hi:id < C.n) (hv:ver < C.ver id) {v:Value} (h1:v.oneCell'=true):RepV S w C (.arr id ver) v
  | oll (rows:List (List PV)) {v:Value} (h:RepP C.old w (.list rows) v):RepV S w C (.oll rows) v
  | olp (cells:List PV) {v:Value} (h:RepP C.old w (.rptr cells) v):RepV S w C (.olp cells) v
section
variable {S S':Nat→Nat→Prop} {w w':World} {C C':Conc}
theorem RepP.mono {p:PV} {v:Value} (h:RepP S w p v) (hS:∀ b o,S b o→S' b o) (hw:∀ b o,S b o→w'.cell? ⟨b,o,none⟩=w.cell? ⟨b,o,none⟩):RepP S' w' p v:=by
 induction h with
 | top h=>exact .top h
 | bool b=>exact .bool b
 | int k n=>exact .int k n
 | str s=>exact .str s
 | nilp=>exact .nilp
 | nilsl=>exact .nilsl
 | list rows a c sz x hc hm hsz hz hl _ ih =>
  refine .list rows a c sz x hc hm hsz hz (fun k row j p h1 h2=>?_) (fun k row j p h1 h2=>ih k row j p h1 h2)
  obtain ⟨b,o,ha,hs,hcell⟩:=hl k row j p h1 h2
  exact ⟨b,o,ha,hS _ _ hs,(hw _ _ hs).trans hcell⟩
 | rptr cells b o x hl _ ih=>exact .rptr cells b o x (fun j p h1=>⟨hS _ _ (hl j p h1).1,(hw _ _ (hl j p h1).1).trans (hl j p h1).2⟩) fun j p h1=>ih j p h1
theorem RepV.rptr (cells : List PV) (b o : Nat) (x : Nat → Value) (hl : ∀ j p, cells[j]? = some p → S b (o + j) ∧ w.cell? ⟨b, o + j, none⟩ = some (x j))
    (h:∀ j p,cells[j]? = some p→RepP S w p (x j)):RepV S w C (.rptr cells) (.pointer (some ⟨b,o,none⟩)) := .pure (.rptr cells b o x hl h)
theorem RepV.mono {p : PV} {v : Value} (h : RepV S w C p v) (hS : ∀ b o, S b o → S' b o) (hw : ∀ b o, S b o → w'.cell? ⟨b, o, none⟩ = w.cell? ⟨b, o, none⟩)
    (hn:C.n≤C'.n) (hb:∀ id,id < C.n→C'.blk id=C.blk id) (hv:∀ id,id < C.n→(C'.ver id=C.ver id∧C'.sv id=C.sv id)∨C.ver id < C'.ver id)
    (ho:∀ b o,C.old b o→C'.old b o∧w'.cell? ⟨b,o,none⟩=w.cell? ⟨b,o,none⟩):RepV S' w' C' p v:=by
  induction h with
  | pure h=>exact .pure (h.mono hS hw)
  | any=>exact .any
  | undef=>exact .undef
  | vlist rows a c sz x hc hm hsz hz hl _ ih =>
    refine .vlist rows a c sz x hc hm hsz hz (fun k row j p h1 h2=>?_) (fun k row j p h1 h2=>ih k row j p h1 h2)
    obtain ⟨h0,b,o,ha,hs,hcell⟩:=hl k row j p h1 h2
    exact ⟨h0,b,o,ha,hS _ _ hs,(hw _ _ hs).trans hcell⟩
  | agg cs vs hl h1 _ ih=>exact .agg cs vs hl h1 fun j p x h2 h3=>ih j p x h2 h3
  | tup cs vs hl _ ih=>exact .tup cs vs hl fun j p x h2 h3=>ih j p x h2 h3
  | clo f cs vs hl _ ih=>exact .clo f cs vs hl fun j p x h2 h3=>ih j p x h2 h3
  | clob f cs vs hl _ ih=>exact .clob f cs vs hl fun j p x h2 h3=>ih j p x h2 h3
  | ptr id off hi=>rw [← hb id hi]; exact .ptr id off (by omega)
  | aptr id sz idx off g n c hi hs =>
    rcases hv id hi with ⟨h1,h2⟩ | h1
    · rw [← h1]; exact .aptr id sz idx off g n c (by omega) (h2.trans hs)
    · exact .aptrOld id _ sz idx off (by omega) h1 rfl
  | aptrOld id ver sz idx off hi hlt h0=>exact .aptrOld id ver sz idx off (by omega) (by have:=hv id hi; omega) h0
  | arr id hi h0 =>
    rcases hv id hi with ⟨h1,h2⟩ | h1
    · rw [← h1,← h2]; exact .arr id (by omega) (by rw [h2]; exact h0)
    · exact .arrOld id _ (by omega) h1 h0
  | arrOld id ver hi hlt h0=>exact .arrOld id ver (by omega) (by have:=hv id hi; omega) h0
  | oll p h=>exact .oll p (h.mono (fun b o h=>(ho b o h).1) fun b o h=>(ho b o h).2)
  | olp p h=>exact .olp p (h.mono (fun b o h=>(ho b o h).1) fun b o h=>(ho b o h).2)
end
def olc:PV→PV
 | .list rows => .oll rows
 | .rptr cells => .olp cells
 | p=>p
theorem zqT {S:Nat→Nat→Prop} {w:World} {C:Conc} {p:PV} {v:Value} (h:RepP C.old w p v):RepV S w C (olc p) v:=by
 cases h with
 | top h=>exact .any
 | bool b=>exact .pure (.bool b)
 | int k n=>exact .pure (.int k n)
 | str s=>exact .pure (.str s)
 | nilp=>exact .pure .nilp
 | nilsl=>exact .pure .nilsl
 | list rows a c sz x hc hm hsz hz hl h=>exact .oll rows (.list rows a c sz x hc hm hsz hz hl h)
 | rptr cells b o x hl h=>exact .olp cells (.rptr cells b o x hl h)
def AObj.free (C:Conc) (id:Nat):AObj→Nat→Nat→Prop
 | .box _,b,_=>b≠C.blk id
 | .arr _ st ipu _ sz rows,b,o=>(C.sv id).ownBlock=some b→st=false∧ipu=false∧o < rows.length * sz
 | .gone,_,_=>True
def AObj.holds (C:Conc) (id:Nat):AObj→Nat→Prop
 | .box _,b=>b=C.blk id
 | .arr ..,b=>(C.sv id).ownBlock=some b
 | .gone,_=>False
theorem AObj.free_of_not {C:Conc} {id:Nat} {ob:AObj} {b:Nat} (h:¬ ob.holds C id b) (o:Nat):ob.free C id b o:=by
 cases ob with
 | box cs=>exact h
 | arr ver st ipu T sz rows=>exact fun h'=>(h h').elim
 | gone=>trivial
def zk5 (C:Conc) (H:List AObj) (b o:Nat):Prop:=∀ (id:Nat) (ob:AObj),H[id]? = some ob→ob.free C id b o
structure Cx where
 w0:World
 S0:Nat→Nat→Prop
 C0:Conc
 H0:List AObj
def Unf (w:World) (b:Nat):Prop:=∀ o,w.frozen? ⟨b,o,none⟩=false
theorem Unf.of {w:World} {b:Nat} {cs:Array Value} {T:TypeId} (h:w.heap[b]? = some (.cells cs T (0,0))):Unf w b:=fun o=>by simp [World.frozen?,h]
theorem Unf.same {w w':World} {b:Nat} (e:w'.heap[b]? = w.heap[b]?) (h:Unf w b):Unf w' b:=fun o=>(World.frozen?_of_block (a:=⟨b,o,none⟩) e).trans (h o)
def zu (x:Cx) (C:Conc) (H:List AObj) (w:World) (b o:Nat):Prop :=
 (x.S0 b o∨((x.w0.heap.size≤b∨∃ (i:Nat) (ob0:AObj),x.H0[i]? = some ob0∧ob0.holds x.C0 i b)∧Unf w b))∧b < w.heap.size∧zk5 C H b o
def zmJ (S:Nat→Nat→Prop) (w:World) (C:Conc) (id:Nat):AObj→Prop
  | .box cells => ∃ (cs : Array Value) (T : TypeId), w.heap[C.blk id]? = some (.cells cs T (0, 0)) ∧ cs.size = cells.length ∧
      ∀ (j:Nat) p v,cells[j]? = some p→cs[j]? = some v→v.oneCell'=true∧RepV S w C p v
  | .arr ver _ ipu T sz rows => C.ver id = ver ∧ 0 < sz ∧ (∀ row ∈ rows, row.length = sz) ∧ ∃ xs : List Value, w.ownsRow 0 T sz (C.sv id) rows.length xs ∧
      ∀ k row (j:Nat) p v,rows[k]? = some row→row[j]? = some p→xs[k * sz + j]? = some v→v.oneCell'=true∧(if ipu then RepV S w C p v else RepP S w p v)
  | .gone=>True
structure HR (x:Cx) (C:Conc) (H:List AObj) (w:World):Prop where
 n:C.n=H.length
 obj:∀ (id:Nat) ob,H[id]? = some ob→zmJ (zu x C H w) w C id ob
 apart:∀ (id id':Nat) ob ob' b,H[id]? = some ob→H[id']? = some ob'→ob.holds C id b→ob'.holds C id' b→id=id'
 mine:∀ (id:Nat) ob b,H[id]? = some ob→ob.holds C id b→x.w0.heap.size≤b∨∃ (i:Nat) (ob0:AObj),x.H0[i]? = some ob0∧ob0.holds x.C0 i b
 s0:∀ b o,x.S0 b o→b < x.w0.heap.size∧zk5 C H b o∧w.cell? ⟨b,o,none⟩=x.w0.cell? ⟨b,o,none⟩
 size:x.w0.heap.size≤w.heap.size
 os:w.os=x.w0.os
 tape:w.tape=x.w0.tape
 output:w.output=x.w0.output
 frame:∀ b,b < x.w0.heap.size→(∀ (i:Nat) ob0,x.H0[i]? = some ob0→¬ ob0.holds x.C0 i b)→w.heap[b]? = x.w0.heap[b]?
 len:x.H0.length≤H.length
 ids:∀ i,i < x.H0.length→C.blk i=x.C0.blk i
 vers:∀ i,i < x.H0.length→(C.ver i=x.C0.ver i∧C.sv i=x.C0.sv i)∨x.C0.ver i < C.ver i
 old:∀ b o,C.old b o→b < w.heap.size∧(∀ (id:Nat) ob,H[id]? = some ob→¬ ob.holds C id b)∧x.C0.old b o∧b < x.w0.heap.size∧∀ (i:Nat) ob0,x.H0[i]? = some ob0→¬ ob0.holds x.C0 i b
 old0:∀ b o,x.C0.old b o→C.old b o
 unf:∀ b,b < x.w0.heap.size→Unf x.w0 b→Unf w b
structure St where
 env:Nat→PV
 heap:List AObj
def St.put (s:St) (d:Option Nat) (v:PV) (H:List AObj):St:=⟨fun t=>if d=some t then v else s.env t,H⟩
structure Rel (x:Cx) (nt:Nat) (st:St) (a:Act) (w:World):Prop where
 ex:∃ C,HR x C st.heap w∧∀ t,RepV (zu x C st.heap w) w C (st.env t) (a.tmps.getD t Go.undef)
 defers:a.defers = []
 size:a.tmps.size=nt
def zmK (S:Nat→Nat→Prop) (w:World) (C:Conc) (ps:List PV) (vs:List Value):Prop:=vs.length=ps.length∧∀ (j:Nat) p v,ps[j]? = some p→vs[j]? = some v→RepV S w C p v
def zg (P:Program) (f:Nat) (args:List PV) (Hs:List AObj) (r:PV) (Hs':List AObj):Prop :=
 ∀ (x:Cx) (vs:Array Value),x.H0=Hs→HR x x.C0 Hs x.w0→zmK (zu x x.C0 Hs x.w0) x.w0 x.C0 args vs.toList →
  Calls P f vs x.w0 fun e w'=>∃ v C',e = .returned v∧HR x C' Hs' w'∧RepV (zu x C' Hs' w') w' C' r v
section
variable {x:Cx} {C C':Conc} {H:List AObj} {w w':World}
theorem HR.blk_lt (hr:HR x C H w) {id:Nat} {ob:AObj} {b:Nat} (h:H[id]? = some ob) (hb:ob.holds C id b):b < w.heap.size:=by
 have ho:=hr.obj id ob h
 cases ob with
 | box cells =>
  obtain ⟨cs,T,h1,_⟩:=ho
  rw [show b=C.blk id from hb]
  rcases Nat.lt_or_ge (C.blk id) w.heap.size with h2 | h2
  ·
   exact h2
  ·
   rw [ybV h2] at h1; cases h1
 | arr ver st ipu T sz rows =>
  obtain ⟨_,_,_,xs,⟨_,h1⟩,_⟩:=ho
  have hb':(C.sv id).ownBlock=some b:=hb
  rcases h1 with ⟨h2,_⟩ | ⟨g,cap,cur,h2,_,h3,_⟩
  ·
   rw [h2] at hb'; cases hb'
  ·
   rw [h2] at hb'
   obtain rfl:g=b:=by simpa [Value.ownBlock] using hb'
   rcases Nat.lt_or_ge g w.heap.size with h4 | h4
   ·
    exact h4
   ·
    rw [ybV h4] at h3; cases h3
 | gone=>exact hb.elim
theorem HR.obj_unf (hr:HR x C H w) {id:Nat} {ob:AObj} {b:Nat} (h:H[id]? = some ob) (hb:ob.holds C id b):Unf w b:=by
 have ho:=hr.obj id ob h
 cases ob with
 | box cells =>
  obtain ⟨cs,T,h1,_⟩:=ho
  rw [show b=C.blk id from hb]
  exact .of h1
 | arr ver st ipu T sz rows =>
  obtain ⟨_,_,_,xs,⟨_,h1⟩,_⟩:=ho
  have hb':(C.sv id).ownBlock=some b:=hb
  rcases h1 with ⟨h2,_⟩ | ⟨g,cap,cur,h2,_,h3,_⟩
  ·
   rw [h2] at hb'; cases hb'
  ·
   rw [h2] at hb'
   obtain rfl:g=b:=by simpa [Value.ownBlock] using hb'
   exact .of h3
 | gone=>exact hb.elim
theorem zmJ.mono {S S' : Nat → Nat → Prop} {id : Nat} {ob : AObj} (h : zmJ S w C id ob)
    (hm:∀ p v,RepV S w C p v→RepV S' w' C' p v) (hp:∀ p v,RepP S w p v→RepP S' w' p v)
    (hb:∀ b,ob.holds C id b→w'.heap[b]? = w.heap[b]?) (h1:C'.blk id=C.blk id) (h2:C'.ver id=C.ver id) (h3:C'.sv id=C.sv id):zmJ S' w' C' id ob:=by
  cases ob with
  | box cells =>
    obtain ⟨cs,T,e1,e2,e3⟩:=h
    exact ⟨cs,T,by rw [h1,hb _ rfl]; exact e1,e2,fun j p v a b=>⟨(e3 j p v a b).1,hm _ _ (e3 j p v a b).2⟩⟩
  | arr ver st ipu T sz rows =>
    obtain ⟨e1,e2,e3,xs,e4,e5⟩:=h
    refine ⟨h2.trans e1,e2,e3,xs,?_,fun k row j p v a b c=>⟨(e5 k row j p v a b c).1,?_⟩⟩
    · rw [h3]
      refine ⟨e4.1,?_⟩
      rcases e4.2 with g | ⟨g,cap,cur,g1,g2,g3,g4⟩
      · exact .inl g
      · exact .inr ⟨g,cap,cur,g1,g2,(hb g (by show (C.sv id).ownBlock=some g; rw [g1]; rfl)).trans g3,g4⟩
    · have:=(e5 k row j p v a b c).2
      cases ipu with
      | true=>simp only [if_true] at this ⊢; exact hm _ _ this
      | false=>simp only [yap,if_false] at this ⊢; exact hp _ _ this
  | gone=>trivial
theorem zbb {b o:Nat} (h:w'.heap[b]? = w.heap[b]?):w'.cell? ⟨b,o,none⟩=w.cell? ⟨b,o,none⟩:=World.cell?_of_block (a:=⟨b,o,none⟩) h
structure Step (w w':World) (may:Nat→Prop):Prop where
 size:w.heap.size≤w'.heap.size
 os:w'.os=w.os
 tape:w'.tape=w.tape
 output:w'.output=w.output
 blk:∀ b,b < w.heap.size→¬ may b→w'.heap[b]? = w.heap[b]?
theorem HR.change (hr : HR x C H w) {id : Nat} {ob ob' : AObj} (hid : H[id]? = some ob) (hs : Step w w' (ob.holds C id))
    (hn:C'.n=C.n) (hblk:∀ i,C'.blk i=C.blk i) (hoth:∀ i,i≠id→C'.ver i=C.ver i∧C'.sv i=C.sv i)
    (hver:(C'.ver id=C.ver id∧C'.sv id=C.sv id)∨C.ver id < C'.ver id)
    (hfree:∀ b o,b < w.heap.size→ob.free C id b o→ob'.free C' id b o)
    (hcell:∀ b o,ob.holds C id b→ob.free C id b o→w'.cell? ⟨b,o,none⟩=w.cell? ⟨b,o,none⟩)
    (hholds:∀ b,ob'.holds C' id b→ob.holds C id b∨w.heap.size≤b)
    (hob:(∀ p v,RepV (zu x C H w) w C p v→RepV (zu x C' (H.set id ob') w') w' C' p v)→(∀ p v,RepP (zu x C H w) w p v→RepP (zu x C' (H.set id ob') w') w' p v) →
      zmJ (zu x C' (H.set id ob') w') w' C' id ob') (hol:C'.old=C.old:=by rfl) (hfz:∀ b,ob.holds C id b→Unf w b→Unf w' b:=by exact fun _ _ h=>h) :
    HR x C' (H.set id ob') w'∧∀ p v,RepV (zu x C H w) w C p v→RepV (zu x C' (H.set id ob') w') w' C' p v:=by
  have hlt:id < H.length:=(yab.1 hid).1
  have hget:∀ (i:Nat) ob1,(H.set id ob')[i]? = some ob1→(i=id∧ob1=ob')∨(i≠id∧H[i]? = some ob1):=by
    intro i ob1 h
    by_cases e:i=id
    · subst e; rw [ya9 hlt] at h; exact .inl ⟨rfl,(ybe h).symm⟩
    · rw [ybl (Ne.symm e)] at h; exact .inr ⟨e,h⟩
  have hfo:∀ (i:Nat) (ob1:AObj) (b o:Nat),i≠id→ob1.free C i b o→ob1.free C' i b o:=by
    intro i ob1 b o e h
    cases ob1 with
    | box cs=>show b≠C'.blk i; rw [hblk]; exact h
    | arr ver st ipu T sz rows=>intro h'; rw [(hoth i e).2] at h'; exact h h'
    | gone=>trivial
  have hho:∀ (i:Nat) (ob1:AObj) (b:Nat),i≠id→ob1.holds C' i b→ob1.holds C i b:=by
    intro i ob1 b e h
    cases ob1 with
    | box cs=>show b=C.blk i; rw [← hblk]; exact h
    | arr ver st ipu T sz rows=>show (C.sv i).ownBlock=some b; rw [← (hoth i e).2]; exact h
    | gone=>exact h
  have hfr:∀ (b o:Nat),b < w.heap.size→zk5 C H b o→zk5 C' (H.set id ob') b o:=by
    intro b o hb h i ob1 h1
    rcases hget i ob1 h1 with ⟨rfl,rfl⟩ | ⟨e,h2⟩
    · exact hfree b o hb (h _ _ hid)
    · exact hfo i ob1 b o e (h _ _ h2)
  have hce:∀ b o,b < w.heap.size→zk5 C H b o→w'.cell? ⟨b,o,none⟩=w.cell? ⟨b,o,none⟩:=by
    intro b o hb h
    by_cases e:ob.holds C id b
    · exact hcell b o e (h _ _ hid)
    · exact zbb (hs.blk b hb e)
  have hun:∀ b,b < w.heap.size→Unf w b→Unf w' b:=fun b hb h=>by
    by_cases e:ob.holds C id b
    · exact hfz b e h
    · exact h.same (hs.blk b hb e)
  have hS:∀ b o,zu x C H w b o→zu x C' (H.set id ob') w' b o:=fun b o h=>⟨h.1.imp_right fun g=>⟨g.1,hun b h.2.1 g.2⟩,yam h.2.1 hs.size,hfr b o h.2.1 h.2.2⟩
  have hw:∀ b o,zu x C H w b o→w'.cell? ⟨b,o,none⟩=w.cell? ⟨b,o,none⟩:=fun b o h=>hce b o h.2.1 h.2.2
  have hv':∀ i,i < C.n→(C'.ver i=C.ver i∧C'.sv i=C.sv i)∨C.ver i < C'.ver i:=by
    intro i _
    by_cases e:i=id
    · subst e; exact hver
    · exact .inl (hoth i e)
  have hoc:∀ b o,C.old b o→C'.old b o∧w'.cell? ⟨b,o,none⟩=w.cell? ⟨b,o,none⟩:=fun b o h=>⟨by rw [hol]; exact h,zbb (hs.blk b (hr.old b o h).1 ((hr.old b o h).2.1 id ob hid))⟩
  have hm:∀ p v,RepV (zu x C H w) w C p v→RepV (zu x C' (H.set id ob') w') w' C' p v:=fun p v h=>h.mono hS hw (by omega) (fun i _=>hblk i) hv' hoc
  have hp:∀ p v,RepP (zu x C H w) w p v→RepP (zu x C' (H.set id ob') w') w' p v:=fun p v h=>h.mono hS hw
  refine ⟨⟨?_,?_,?_,?_,?_,?_,?_,?_,?_,?_,?_,?_,?_,?_,?_,?_⟩,hm⟩
  · rw [hn,hr.n,ybD]
  · intro i ob1 h
    rcases hget i ob1 h with ⟨rfl,rfl⟩ | ⟨e,h2⟩
    · exact hob hm hp
    · refine (hr.obj i ob1 h2).mono hm hp (fun b hb=>?_) (hblk i) (hoth i e).1 (hoth i e).2
      refine hs.blk b (hr.blk_lt h2 hb) (fun hc=>e (hr.apart i id ob1 ob b h2 hid hb hc))
  · intro i i' ob1 ob2 b h1 h2 h3 h4
    rcases hget i ob1 h1 with ⟨rfl,rfl⟩ | ⟨e,g⟩ <;> rcases hget i' ob2 h2 with ⟨rfl,rfl⟩ | ⟨e',g'⟩
    · rfl
    · have h4':=hho _ _ _ e' h4
      rcases hholds b h3 with h5 | h5
      · exact hr.apart _ _ _ _ b hid g' h5 h4'
      · have:=hr.blk_lt g' h4'; omega
    · have h3':=hho _ _ _ e h3
      rcases hholds b h4 with h5 | h5
      · exact hr.apart _ _ _ _ b g hid h3' h5
      · have:=hr.blk_lt g h3'; omega
    · exact hr.apart _ _ _ _ b g g' (hho _ _ _ e h3) (hho _ _ _ e' h4)
  · intro i ob1 b h1 h2
    rcases hget i ob1 h1 with ⟨rfl,rfl⟩ | ⟨e,g⟩
    · rcases hholds b h2 with h3 | h3
      · exact hr.mine _ _ b hid h3
      · exact .inl (yaP hr.size h3)
    · exact hr.mine _ _ b g (hho _ _ _ e h2)
  · intro b o h
    obtain ⟨h1,h2,h3⟩:=hr.s0 b o h
    have hb:b < w.heap.size:=yam h1 hr.size
    exact ⟨h1,hfr b o hb h2,(hce b o hb h2).trans h3⟩
  · exact yaP hr.size hs.size
  · exact hs.os.trans hr.os
  · exact hs.tape.trans hr.tape
  · exact hs.output.trans hr.output
  · intro b hb h
    have hb':b < w.heap.size:=yam hb hr.size
    refine (hs.blk b hb' fun hc=>?_).trans (hr.frame b hb h)
    rcases hr.mine id ob b hid hc with h1 | ⟨i,ob0,h1,h2⟩
    · omega
    · exact h i ob0 h1 h2
  · rw [ybD]; exact hr.len
  · intro i hi; rw [hblk]; exact hr.ids i hi
  · intro i hi
    by_cases e:i=id
    · subst e
      rcases hver with ⟨h1,h2⟩ | h1
      · rw [h1,h2]; exact hr.vers i hi
      · rcases hr.vers i hi with ⟨h2,-⟩ | h2
        · exact .inr (by omega)
        · exact .inr (by omega)
    · rw [(hoth i e).1,(hoth i e).2]; exact hr.vers i hi
  · intro b o h
    rw [hol] at h
    obtain ⟨h1,h2,h3⟩:=hr.old b o h
    refine ⟨yam h1 hs.size,fun i ob1 hi hb=>?_,h3⟩
    rcases hget i ob1 hi with ⟨rfl,rfl⟩ | ⟨e,g⟩
    · rcases hholds b hb with h4 | h4
      · exact h2 _ _ hid h4
      · omega
    · exact h2 _ _ g (hho _ _ _ e hb)
  · intro b o h; rw [hol]; exact hr.old0 b o h
  · exact fun b hb h=>hun b (yam hb hr.size) (hr.unf b hb h)
theorem HR.grow (hr:HR x C H w) (hs:Step w w' fun _=>False):HR x C H w'∧(∀ p v,RepV (zu x C H w) w C p v→RepV (zu x C H w') w' C p v)∧(∀ p v,RepP (zu x C H w) w p v→RepP (zu x C H w') w' p v):=by
 have hS:∀ b o,zu x C H w b o→zu x C H w' b o:=fun b o h=>⟨h.1.imp_right fun g=>⟨g.1,g.2.same (hs.blk b h.2.1 fun h=>h)⟩,yam h.2.1 hs.size,h.2.2⟩
 have hw:∀ b o,zu x C H w b o→w'.cell? ⟨b,o,none⟩=w.cell? ⟨b,o,none⟩:=fun b o h=>zbb (hs.blk b h.2.1 (fun h=>h))
 have hm:∀ p v,RepV (zu x C H w) w C p v→RepV (zu x C H w') w' C p v:=fun p v h=>h.mono hS hw (yag _) (fun i _=>rfl) (fun i _ => .inl ⟨rfl,rfl⟩) fun b o h=>⟨h,zbb (hs.blk b (hr.old b o h).1 fun h=>h)⟩
 have hp:∀ p v,RepP (zu x C H w) w p v→RepP (zu x C H w') w' p v:=fun p v h=>h.mono hS hw
 refine ⟨⟨hr.n,fun i ob h=>?_,hr.apart,hr.mine,fun b o h=>?_,yaP hr.size hs.size,hs.os.trans hr.os,hs.tape.trans hr.tape,hs.output.trans hr.output,fun b hb h=>?_,hr.len,hr.ids,hr.vers,fun b o h=>⟨yam (hr.old b o h).1 hs.size,(hr.old b o h).2⟩,hr.old0,fun b hb h=>(hr.unf b hb h).same (hs.blk b (yam hb hr.size) fun h=>h)⟩,hm,hp⟩
 ·
  exact (hr.obj i ob h).mono hm hp (fun b hb=>hs.blk b (hr.blk_lt h hb) fun h=>h) rfl rfl rfl
 ·
  obtain ⟨h1,h2,h3⟩:=hr.s0 b o h
  exact ⟨h1,h2,(zbb (hs.blk b (yam h1 hr.size) fun h=>h)).trans h3⟩
 ·
  exact (hs.blk b (yam hb hr.size) fun h=>h).trans (hr.frame b hb h)
theorem HR.push (hr : HR x C H w) {ob' : AObj} (hs : Step w w' fun _ => False)
    (hn:C'.n=C.n + 1) (hblk:∀ i,i < C.n→C'.blk i=C.blk i) (hver:∀ i,i < C.n→C'.ver i=C.ver i) (hsv:∀ i,i < C.n→C'.sv i=C.sv i)
    (hholds:∀ b,ob'.holds C' H.length b→w.heap.size≤b)
    (hob:(∀ p v,RepV (zu x C H w) w C p v→RepV (zu x C' (H ++ [ob']) w') w' C' p v)→(∀ p v,RepP (zu x C H w) w p v→RepP (zu x C' (H ++ [ob']) w') w' p v) →
      zmJ (zu x C' (H ++ [ob']) w') w' C' H.length ob') (hol:C'.old=C.old:=by rfl) :
    HR x C' (H ++ [ob']) w'∧∀ p v,RepV (zu x C H w) w C p v→RepV (zu x C' (H ++ [ob']) w') w' C' p v:=by
  have hget:∀ (i:Nat) ob1,(H ++ [ob'])[i]? = some ob1→(i=H.length∧ob1=ob')∨(i < C.n∧H[i]? = some ob1):=by
    intro i ob1 h
    by_cases e:i < H.length
    · rw [yaC e] at h; exact .inr ⟨by rw [hr.n]; exact e,h⟩
    · rw [yaL (by omega)] at h
      by_cases e2:i=H.length
      · subst e2; simp at h; exact .inl ⟨rfl,h.symm⟩
      · rw [ybq (by simp; omega)] at h; cases h
  have hfo:∀ (i:Nat) (ob1:AObj) (b o:Nat),i < C.n→ob1.free C i b o→ob1.free C' i b o:=by
    intro i ob1 b o e h
    cases ob1 with
    | box cs=>show b≠C'.blk i; rw [hblk i e]; exact h
    | arr ver st ipu T sz rows=>intro h'; rw [hsv i e] at h'; exact h h'
    | gone=>trivial
  have hho:∀ (i:Nat) (ob1:AObj) (b:Nat),i < C.n→ob1.holds C' i b→ob1.holds C i b:=by
    intro i ob1 b e h
    cases ob1 with
    | box cs=>show b=C.blk i; rw [← hblk i e]; exact h
    | arr ver st ipu T sz rows=>show (C.sv i).ownBlock=some b; rw [← hsv i e]; exact h
    | gone=>exact h
  have hfr:∀ (b o:Nat),b < w.heap.size→zk5 C H b o→zk5 C' (H ++ [ob']) b o:=by
    intro b o hb h i ob1 h1
    rcases hget i ob1 h1 with ⟨rfl,rfl⟩ | ⟨e,h2⟩
    · exact AObj.free_of_not (fun hc=>by have:=hholds b hc; omega) o
    · exact hfo i ob1 b o e (h _ _ h2)
  have hS:∀ b o,zu x C H w b o→zu x C' (H ++ [ob']) w' b o:=fun b o h=>⟨h.1.imp_right fun g=>⟨g.1,g.2.same (hs.blk b h.2.1 fun h=>h)⟩,yam h.2.1 hs.size,hfr b o h.2.1 h.2.2⟩
  have hw:∀ b o,zu x C H w b o→w'.cell? ⟨b,o,none⟩=w.cell? ⟨b,o,none⟩:=fun b o h=>zbb (hs.blk b h.2.1 fun h=>h)
  have hm:∀ p v,RepV (zu x C H w) w C p v→RepV (zu x C' (H ++ [ob']) w') w' C' p v:=fun p v h=>h.mono hS hw (by omega) hblk (fun i hi => .inl ⟨hver i hi,hsv i hi⟩) fun b o h=>⟨by rw [hol]; exact h,zbb (hs.blk b (hr.old b o h).1 fun h=>h)⟩
  have hp:∀ p v,RepP (zu x C H w) w p v→RepP (zu x C' (H ++ [ob']) w') w' p v:=fun p v h=>h.mono hS hw
  refine ⟨⟨?_,?_,?_,?_,?_,?_,?_,?_,?_,?_,?_,?_,?_,?_,?_,?_⟩,hm⟩
  · rw [hn,hr.n]; simp
  · intro i ob1 h
    rcases hget i ob1 h with ⟨rfl,rfl⟩ | ⟨e,h2⟩
    · exact hob hm hp
    · exact (hr.obj i ob1 h2).mono hm hp (fun b hb=>hs.blk b (hr.blk_lt h2 hb) fun h=>h) (hblk i e) (hver i e) (hsv i e)
  · intro i i' ob1 ob2 b h1 h2 h3 h4
    rcases hget i ob1 h1 with ⟨rfl,rfl⟩ | ⟨e,g⟩ <;> rcases hget i' ob2 h2 with ⟨rfl,rfl⟩ | ⟨e',g'⟩
    · rfl
    · have:=hr.blk_lt g' (hho _ _ _ e' h4); have:=hholds b h3; omega
    · have:=hr.blk_lt g (hho _ _ _ e h3); have:=hholds b h4; omega
    · exact hr.apart _ _ _ _ b g g' (hho _ _ _ e h3) (hho _ _ _ e' h4)
  · intro i ob1 b h1 h2
    rcases hget i ob1 h1 with ⟨rfl,rfl⟩ | ⟨e,g⟩
    · exact .inl (yaP hr.size (hholds b h2))
    · exact hr.mine _ _ b g (hho _ _ _ e h2)
  · intro b o h
    obtain ⟨h1,h2,h3⟩:=hr.s0 b o h
    have hb:b < w.heap.size:=yam h1 hr.size
    exact ⟨h1,hfr b o hb h2,(zbb (hs.blk b hb fun h=>h)).trans h3⟩
  · exact yaP hr.size hs.size
  · exact hs.os.trans hr.os
  · exact hs.tape.trans hr.tape
  · exact hs.output.trans hr.output
  · intro b hb h
    exact (hs.blk b (yam hb hr.size) fun h=>h).trans (hr.frame b hb h)
  · rw [yaR]; have:=hr.len; omega
  · intro i hi; rw [hblk i (by rw [hr.n]; have:=hr.len; omega)]; exact hr.ids i hi
  · intro i hi
    have hi':i < C.n:=by rw [hr.n]; have:=hr.len; omega
    rw [hver i hi',hsv i hi']; exact hr.vers i hi
  · intro b o h
    rw [hol] at h
    obtain ⟨h1,h2,h3⟩:=hr.old b o h
    refine ⟨yam h1 hs.size,fun i ob1 hi hb=>?_,h3⟩
    rcases hget i ob1 hi with ⟨rfl,rfl⟩ | ⟨e,g⟩
    · have:=hholds b hb; omega
    · exact h2 _ _ g (hho _ _ _ e hb)
  · intro b o h; rw [hol]; exact hr.old0 b o h
  · exact fun b hb h=>(hr.unf b hb h).same (hs.blk b (yam hb hr.size) fun h=>h)
end
inductive LOpd where
 | tmp (t:Nat)
 | val (p:PV)
inductive FK where
 | b | i | s
inductive LOp where
 | mv (x:LOpd)
 | pick (c a b:LOpd)
 | alloc (zs:List PV)
 | box (x:LOpd)
 | build (zs:List PV) (parts:List (Nat × Nat × LOpd))
 | mks (sz:Nat) (zs:List PV) (n:Nat) (parts:List (Nat × LOpd))
 | mksA (T sz:Nat) (zs:List PV) (n:Nat) (parts:List (Nat × LOpd))
 | mk0 (T sz:Nat)
 | mk0i (T sz id:Nat)
 | alloci (T id:Nat) (zs:List PV)
 | mkn (T sz bytes:Nat) (zs:List PV) (n c:LOpd)
 | load (n:Nat) (ag:Bool) (x:LOpd)
 | store (n:Nat) (x v:LOpd)
 | nilchk (x:LOpd)
 | bin (o:BinOp) (x y:LOpd)
 | binb (neg:Bool) (x y:LOpd)
 | eqag (neg:Bool) (ks:List FK) (x y:LOpd)
 | isnil (neg:Bool) (x:LOpd)
 | not (x:LOpd)
 | neg (x:LOpd)
 | conv (k:IntKind) (x:LOpd)
 | b2s (x:LOpd)
 | clo (f:Nat) (caps:List LOpd)
 | clob (f:Nat) (first:List LOpd)
 | slc (sz:Nat) (x:LOpd) (lo hi:Option LOpd)
 | addr (off:Nat) (x:LOpd)
 | iaddrA (sz n:Nat) (x i:LOpd)
 | iaddrS (sz:Nat) (x i:LOpd)
 | field (off n:Nat) (ag:Bool) (x:LOpd)
 | idxS (x i:LOpd)
 | idxA (sz n:Nat) (ag:Bool) (x i:LOpd)
 | ext (i:Nat) (x:LOpd)
 | len (str:Bool) (x:LOpd)
 | mm (mx:Bool) (x y:LOpd)
 | append (T sz bytes:Nat) (x y:LOpd)
 | call (f:Nat) (args:List LOpd) (h:Nat)
 | callv (x:LOpd) (args:List LOpd)
structure LOper where
 dst:Option Nat
 op:LOp
 guard:Option (Nat × Bool)
 solo:Bool
def LOpd.ev (s:St):LOpd→PV
 | .tmp t=>s.env t
 | .val p=>p
def PV.cells? : PV→Option (List PV)
 | .agg cs=>some cs
 | .top | .undef | .tup _=>none
 | p=>some [p]
def PV.isPure:PV→Bool
 | .bool _ | .int _ _ | .str _ | .nilp | .nilsl | .list _ | .rptr _=>true
 | _=>false
def zhi (cs:List PV) (off n:Nat) (ag:Bool):Option PV :=
 if off + n≤cs.length then (if ag then some (.agg ((cs.drop off).take n)) else if n=1 then cs[off]? else none) else none
def zbO (H:List AObj):PV→Nat→Option (List PV)
 | .ptr id off,n=>match H[id]? with
  | some (.box cells)=>if off + n≤cells.length then some ((cells.drop off).take n) else none
  | _=>none
 | .rptr cells,n=>if n≤cells.length then some (cells.take n) else none
 | .olp cells,n=>if n≤cells.length then some ((cells.take n).map olc) else none
 | .aptr id ver sz idx off,n=>match H[id]? with
  | some (.arr v _ _ _ sz' rows)=>if v=ver∧sz'=sz then (match rows[idx]? with
   | some row=>if off + n≤row.length then some ((row.drop off).take n) else none
   | none=>none) else none
  | _=>none
 | _,_=>none
def zk6 (ag:Bool) (cs:List PV):Option PV:=if ag then some (.agg cs) else match cs with | [c]=>some c | _=>none
def zfd (cells:List PV) (off:Nat) (vs:List PV):List PV:=cells.take off ++ vs ++ cells.drop (off + vs.length)
def frz (H:List AObj):PV→PV
 | .arr id ver=>match H[id]? with
  | some (.arr v false false _ _ rows)=>if v=ver then .list rows else .arr id ver
  | _ => .arr id ver
 | p=>p
def zxi (H:List AObj):PV→List PV→Option (List AObj)
  | .ptr id off,vs=>match H[id]? with
    | some (.box cells)=>if off + vs.length≤cells.length then some (H.set id (.box (zfd cells off vs))) else none
    | _=>none
  | .aptr id ver sz idx off,vs=>match H[id]? with
    | some (.arr v true ipu T sz' rows)=>if v=ver∧sz'=sz then (match rows[idx]? with
      | some row => if off + vs.length ≤ row.length ∧ (ipu = true ∨ (vs.map (frz H)).all PV.isPure = true) then
          some (H.set id (.arr v true ipu T sz (rows.set idx (zfd row off (if ipu then vs else vs.map (frz H)))))) else none
      | none=>none) else none
    | _=>none
  | _,_=>none
def zcC (H:List AObj):PV→Option (List (List PV))
 | .list rows=>some rows
 | .nilsl=>some []
 | .arr id ver=>match H[id]? with
  | some (.arr v _ false _ _ rows)=>if v=ver then some rows else none
  | _=>none
 | _=>none
def zcQ (H:List AObj):PV→Option Nat
 | .list rows | .vlist rows | .oll rows=>some rows.length
 | .nilsl=>some 0
 | .arr id ver=>match H[id]? with
  | some (.arr v _ _ _ _ rows)=>if v=ver then some rows.length else none
  | _=>none
 | _=>none
def leB (a b:ByteArray):Bool:=Go.Op.bytesLess a.toList b.toList || a.toList == b.toList
def ztD:BinOp→PV→PV→Option PV
 | o,.int k a,.int k' b=>if k=k' then (match o with
  | .add=>some (.int k (k.wrap (a + b)))
  | .sub=>some (.int k (k.wrap (a - b)))
  | .mul=>some (.int k (k.wrap (a * b)))
  | .and=>some (.int k (k.wrap (BitVec.ofInt k.bits a &&& BitVec.ofInt k.bits b).toNat))
  | .shr=>if 0≤b then some (.int k (a.fdiv (2 ^ min b.toNat k.bits))) else none
  | .rem=>if b≠0 then some (.int k (a.tmod b)) else none
  | .quo=>if b≠0 then some (.int k (k.wrap (a.tdiv b))) else none
  | .eql=>some (.bool (decide (a=b)))
  | .neq=>some (.bool (!decide (a=b)))
  | .lss=>some (.bool (decide (a < b)))
  | .leq=>some (.bool (decide (a≤b)))
  | .gtr=>some (.bool (decide (b < a)))
  | .geq=>some (.bool (decide (b≤a)))
  | _=>none) else none
 | .add,.str a,.str b=>if a.size + b.size≤4611686018427387904 then some (.str (a ++ b)) else none
 | .eql,.str a,.str b=>some (.bool (decide (a=b)))
 | .neq,.str a,.str b=>some (.bool (!decide (a=b)))
 | .leq,.str a,.str b=>some (.bool (leB a b))
 | _,_,_=>none
def Z0:List FK→List PV→List PV→Option Bool
 | [],[],[]=>some true
 | .i :: ks,.int k a :: xs,.int k' b :: ys=>if k=k' then (Z0 ks xs ys).map fun r=>decide (a=b) && r else none
 | .s :: ks,.str a :: xs,.str b :: ys=>(Z0 ks xs ys).map fun r=>decide (a=b) && r
 | .b :: ks,.bool a :: xs,.bool b :: ys=>(Z0 ks xs ys).map fun r=>decide (a=b) && r
 | _,_,_=>none
def zgP (s:St):List (Nat × Nat × LOpd)→List PV→Option (List PV)
 | [],cells=>some cells
 | (off,n,x) :: rest,cells=>match (x.ev s).cells? with
  | some vs=>if vs.length=n∧off + n≤cells.length then zgP s rest (zfd cells off vs) else none
  | none=>none
def za0 (s:St) (sz:Nat):List (Nat × LOpd)→List (List PV)→Option (List (List PV))
 | [],rows=>some rows
 | (i,x) :: rest,rows=>match (x.ev s).cells? with
  | some vs=>if vs.length=sz∧i < rows.length then za0 s sz rest (rows.set i vs) else none
  | none=>none
def zmN:List PV→Option Int
 | [.int .u8 n]=>some n
 | _=>none
def bytesOf:List (List PV)→Option (List UInt8)
 | []=>some []
 | row :: rest=>match zmN row,bytesOf rest with
  | some n,some l=>some (n.toNat.toUInt8 :: l)
  | _,_=>none
def zdI (s:St) (x:LOpd):Option Int:=match x.ev s with | .int .i64 n=>some n | _=>none
def zf3 (s:St) (x:Option LOpd):Option Int:=match x with | none=>some 0 | some x=>zdI s x
def zc0 (s:St) (n:Nat) (x:Option LOpd):Option Int:=match x with | none=>some n | some x=>zdI s x
def zch (H:List AObj) (sz:Nat) (y:PV):Option (Bool × List (List PV)) :=
 match y with
 | .vlist rows=>some (false,rows)
 | .str s=>if sz=1 then some (true,s.data.toList.map fun b => [.int .u8 b.toNat]) else none
 | y=>(zcC H y).map fun r=>(true,r)
def zac (H:List AObj) (pu:Bool) (ys:List (List PV)):List (List PV):=if pu then ys else ys.map (·.map (frz H))
def zbZ (H:List AObj) (pu:Bool) (ys:List (List PV)):Bool:=pu || (ys.map (·.map (frz H))).all fun row=>row.all PV.isPure
def Z4 (H:List AObj) (T sz bytes:Nat) (x y:PV):Option (PV × List AObj) :=
  match zch H sz y with
  | none=>none
  | some (pu,ys)=>match x with
    | .nilsl => if (∀ row ∈ ys, row.length = sz) ∧ ys.length * bytes ≤ 140737488355328 ∧ zbZ H pu ys = true then
        some (.arr H.length 0,H ++ [.arr 0 true false T sz (zac H pu ys)]) else none
    | .arr id ver=>match H[id]? with
      | some (.arr v st ipu T' sz' rows) => if v = ver ∧ T' = T ∧ sz' = sz ∧ (∀ row ∈ ys, row.length = sz) ∧ (rows.length + ys.length) * bytes ≤ 140737488355328 ∧ (ipu = true ∨ zbZ H pu ys = true) then
          some (.arr id (ver + 1),H.set id (.arr (ver + 1) st ipu T sz (rows ++ if ipu then ys else zac H pu ys))) else none
      | _=>none
    | _=>none
def zo (s:St):LOp→Option (PV × List AObj)
  | .mv x=>some (x.ev s,s.heap)
  | .pick c a b=>match c.ev s with
    | .bool t=>some (if t then a.ev s else b.ev s,s.heap)
    | _=>none
  | .alloc zs=>some (.ptr s.heap.length 0,s.heap ++ [.box zs])
  | .box x=>match (x.ev s).cells? with
    | some cs=>some (.ptr s.heap.length 0,s.heap ++ [.box cs])
    | none=>none
  | .build zs parts=>(zgP s parts zs).map fun cs=>(.agg cs,s.heap)
  | .mks sz zs n parts => (za0 s sz parts (List.replicate n zs)).map fun rows =>
      (if rows.all (fun row=>row.all PV.isPure) then .list rows else .vlist rows,s.heap)
  | .mksA T sz zs n parts=>match za0 s sz parts (List.replicate n zs) with
    | some rows=>if rows.all (fun row=>row.all PV.isPure)=true then some (.arr s.heap.length 0,s.heap ++ [.arr 0 true false T sz rows]) else none
    | none=>none
  | .mk0 T sz=>some (.arr s.heap.length 0,s.heap ++ [.arr 0 true false T sz []])
  | .mk0i T sz id=>match s.heap[id]? with
    | some (.arr v true false T' sz' [])=>if T'=T∧sz'=sz then some (.arr id (v + 1),s.heap.set id (.arr (v + 1) true false T sz [])) else none
    | _=>none
  | .alloci T id zs=>match s.heap[id]? with
    | some (.arr v true true T' sz' [])=>if T'=T∧sz'=zs.length∧0 < zs.length then some (.aptr id (v + 1) zs.length 0 0,s.heap.set id (.arr (v + 1) true true T zs.length [zs])) else none
    | _=>none
  | .mkn T sz bytes zs n c=>match zdI s n,zdI s c with
    | some k,some k'=>if k=k'∧0≤k∧k * bytes≤140737488355328∧zs.length=sz∧zs.all PV.isPure=true then some (.arr s.heap.length 0,s.heap ++ [.arr 0 true false T sz (List.replicate k.toNat zs)]) else none
    | _,_=>none
  | .load n ag x=>((zbO s.heap (x.ev s) n).bind (zk6 ag)).map fun v=>(v,s.heap)
  | .store n x v=>match (v.ev s).cells? with
    | some vs=>if vs.length=n then (zxi s.heap (x.ev s) vs).map fun H=>(.undef,H) else none
    | none=>none
  | .nilchk x=>match x.ev s with
    | .ptr id off=>some (.ptr id off,s.heap)
    | .rptr cells=>some (.rptr cells,s.heap)
    | .aptr id ver sz idx off=>match s.heap[id]? with
      | some (.arr v _ _ _ _ _)=>if v=ver then some (.aptr id ver sz idx off,s.heap) else none
      | _=>none
    | _=>none
  | .bin o x y=>(ztD o (x.ev s) (y.ev s)).map fun v=>(v,s.heap)
  | .binb neg x y=>match x.ev s,y.ev s with
    | .bool a,.bool b=>some (.bool (if neg then !decide (a=b) else decide (a=b)),s.heap)
    | _,_=>none
  | .eqag neg ks x y=>match x.ev s,y.ev s with
    | .agg xs,.agg ys=>(Z0 ks xs ys).map fun r=>(.bool (if neg then !r else r),s.heap)
    | _,_=>none
  | .isnil .. => none
  | .not x=>match x.ev s with
    | .bool b=>some (.bool (!b),s.heap)
    | _=>none
  | .neg x=>match x.ev s with
    | .int k n=>some (.int k (k.wrap (0 - n)),s.heap)
    | _=>none
  | .conv k x=>match x.ev s with
    | .int _ n=>some (.int k (k.wrap n),s.heap)
    | _=>none
  | .b2s x=>((zcC s.heap (x.ev s)).bind bytesOf).map fun l=>(.str ⟨l.toArray⟩,s.heap)
  | .clo f caps=>some (.clo f (caps.map (LOpd.ev s)),s.heap)
  | .clob f caps=>some (.clob f (caps.map (LOpd.ev s)),s.heap)
  | .slc sz x lo hi=>match x.ev s with
    | .str b=>match zf3 s lo,zc0 s b.size hi with
      | some l,some h=>if sz=0∧0≤l∧l≤h∧h≤b.size then some (.str (b.extract l.toNat h.toNat),s.heap) else none
      | _,_=>none
    | .arr id ver=>match s.heap[id]? with
      | some (.arr v false false _ sz' rows)=>if v=ver∧sz'=sz then (match zf3 s lo,zc0 s rows.length hi with
        | some l,some h=>if 0≤l∧l≤h∧h≤rows.length then some (.list ((rows.drop l.toNat).take (h - l).toNat),s.heap) else none
        | _,_=>none) else none
      | _=>none
    | .list rows=>match zf3 s lo,zc0 s rows.length hi with
      | some l,some h=>if 0 < sz∧0≤l∧l≤h∧h≤rows.length∧(∀ row ∈ rows,row.length=sz) then some (.list ((rows.drop l.toNat).take (h - l).toNat),s.heap) else none
      | _,_=>none
    | _=>none
  | .addr off x=>match x.ev s with
    | .ptr id o=>some (.ptr id (o + off),s.heap)
    | .rptr cells=>some (.rptr (cells.drop off),s.heap)
    | .aptr id ver sz idx o=>match s.heap[id]? with
      | some (.arr v _ _ _ _ _)=>if v=ver then some (.aptr id ver sz idx (o + off),s.heap) else none
      | _=>none
    | _=>none
  | .iaddrA sz n x i=>match x.ev s,zdI s i with
    | .ptr id o,some k=>if 0≤k∧k < n then some (.ptr id (o + k.toNat * sz),s.heap) else none
    | _,_=>none
  | .iaddrS sz x i=>match x.ev s,zdI s i with
    | .list rows,some k=>if 0≤k∧k < rows.length then (match rows[k.toNat]? with
      | some row=>if row.length=sz then some (.rptr row,s.heap) else none
      | none=>none) else none
    | .oll rows,some k=>if 0≤k∧k < rows.length then (match rows[k.toNat]? with
      | some row=>if row.length=sz then some (.olp row,s.heap) else none
      | none=>none) else none
    | .arr id ver,some k=>match s.heap[id]? with
      | some (.arr v _ _ _ sz' rows)=>if v=ver∧sz'=sz∧0≤k∧k < rows.length then some (.aptr id ver sz k.toNat 0,s.heap) else none
      | _=>none
    | _,_=>none
  | .field off n ag x=>match x.ev s with
    | .agg cs=>(zhi cs off n ag).map fun v=>(v,s.heap)
    | _=>none
  | .idxS x i=>match x.ev s,zdI s i with
    | .str b,some k=>if 0≤k then (match b[k.toNat]? with
      | some c=>some (.int .u8 c.toNat,s.heap)
      | none=>none) else none
    | _,_=>none
  | .idxA sz n ag x i=>match x.ev s,zdI s i with
    | .agg cs,some k=>if 0≤k∧k < n then (zhi cs (k.toNat * sz) sz ag).map fun v=>(v,s.heap) else none
    | _,_=>none
  | .ext i x=>match x.ev s with
    | .tup vs=>match vs[i]? with
      | some v=>some (v,s.heap)
      | none=>none
    | _=>none
  | .len true x=>match x.ev s with
    | .str b=>some (.int .i64 b.size,s.heap)
    | _=>none
  | .len false x=>(zcQ s.heap (x.ev s)).map fun (n:Nat)=>(.int .i64 (n:Int),s.heap)
  | .mm mx x y=>match x.ev s,y.ev s with
    | .int k a,.int k' b=>if k=k' then some (.int k (if mx then (if a < b then b else a) else (if b < a then b else a)),s.heap) else none
    | _,_=>none
  | .append T sz bytes x y=>Z4 s.heap T sz bytes (x.ev s) (y.ev s)
  | .call .. => none
  | .callv .. => none
def zzr:Value→Option PV
 | .bool b=>some (.bool b)
 | .int k n=>some (.int k n)
 | .string s=>some (.str s)
 | .pointer none=>some .nilp
 | .slice none 0 0=>some .nilsl
 | _=>none
def zqU:List Value→Option (List PV)
 | []=>some []
 | v :: vs=>match zzr v,zqU vs with
  | some p,some ps=>some (p :: ps)
  | _,_=>none
def zaK:Operand→Option LOpd
 | .tmp t=>some (.tmp t)
 | .const v=>(zzr v).map .val
 | .func f=>some (.val (.clo f []))
 | .global _=>none
def zf4:List Operand→Option (List LOpd)
 | []=>some []
 | x :: xs=>match zaK x,zf4 xs with
  | some p,some ps=>some (p :: ps)
  | _,_=>none
def ziE:Option Operand→Option (Option LOpd)
 | none=>some none
 | some x=>(zaK x).map some
def zaO (P:Program) (t:TypeId):Option Nat:=(P.info? t).map (·.size)
def zeD (P:Program) (t:TypeId):Option Bool:=(P.underlying t).map (·.isRow)
def zev (P:Program) (t:TypeId):Option (List PV):=match P.info? t with
 | some i=>match i.zero with
  | some z=>if z.cells.size=i.size then zqU z.cells.toList else none
  | none=>none
 | none=>none
def zCv:List Nat := [146,177,180,182,187,200,201,218]
def zEi:List Nat := [102,106,196,197,212]
def zzs:List Nat := [211]
def ZU (P:Program) (f:Nat):Bool:=match P.funcs[f]? with
 | some fn => fn.body.isSome && !(fn.name == "runtime.NumGoroutine")
 | none=>false
def zi8 (place:Nat→Option (Nat × Nat)):List (Nat × Operand)→Option (List (Nat × Nat × LOpd))
 | []=>some []
 | (i,x) :: rest=>match place i,zaK x,zi8 place rest with
  | some (off,n),some lx,some r=>some ((off,n,lx) :: r)
  | _,_,_=>none
def zmO:List (Nat × Operand)→Option (List (Nat × LOpd))
 | []=>some []
 | (i,x) :: rest=>match zaK x,zmO rest with
  | some lx,some r=>some ((i,lx) :: r)
  | _,_=>none
def zmP (P:Program) (t:TypeId):Option (Nat→Option (Nat × Nat)):=match P.underlying t with
 | some (.array _ e)=>match P.info? e with
  | some ie=>some fun i=>some (i * ie.size,ie.size)
  | none=>none
 | some (.struct fields)=>match fields.toList.mapM (fun f=>(P.info? f.type).map fun i=>(f.offset,i.size)) with
  | some places=>some (places.toArray[·]?)
  | none=>none
 | _=>none
def zmQ (P:Program) (t:TypeId):Option FK:=match P.underlying t with
 | some .bool=>some .b
 | some (.int _)=>some .i
 | some .string=>some .s
 | _=>none
def zk7 (P:Program):List Field→Nat→Option (List FK)
 | [],_=>some []
 | f :: fs,o=>match zmQ P f.type,zk7 P fs (o + 1) with
  | some k, some ks => if f.name ≠ "_" ∧ f.offset = o then some (k :: ks) else none
  | _,_=>none
def ztI (P:Program) (t:TypeId):Option (List FK) :=
 if P.eqGuardType P.depth t then none else
 match P.underlying t with
 | some (.struct fs)=>if P.stoodInHeld t then none else zk7 P fs.toList 0
 | some (.array n e)=>match zmQ P e,zaO P e with
  | some k,some 1=>some (List.replicate n k)
  | _,_=>none
 | _=>none
def zvF (P:Program) (t:TypeId):Bool:=match P.underlying t with | some .string=>true | _=>false
def zCw (P:Program) (t:TypeId):Bool:=match P.underlying t with | some (.int .u8)=>true | _=>false
def zCx:List Nat := [9]
def Z1 (P:Program):Op→Option LOp
 | .move x | .assign x=>(zaK x).map .mv
 | .pick c a b=>match zaK c,zaK a,zaK b with
  | some c,some a,some b=>some (.pick c a b)
  | _,_,_=>none
 | .alloc e=>(zev P e).map .alloc
 | .box _ x=>(zaK x).map .box
 | .build t parts=>match zev P t,zmP P t with
  | some zs,some pl=>(zi8 pl parts.toList).map (.build zs)
  | _,_=>none
 | .buildSlice t len parts=>match P.underlying t with
  | some (.slice e)=>match zev P e,zaO P e,zmO parts.toList with
   | some zs,some sz,some r=>if 0 < sz∧len * sz≤2 ^ 24 then (if len=0 then (if parts.size=0 then some (.mk0 e sz) else none) else some (if zCx.contains e=true then .mksA e sz zs len r else .mks sz zs len r)) else none
   | _,_,_=>none
  | _=>none
 | .makeSlice t n c=>match P.underlying t with
  | some (.slice e)=>match P.info? e,zev P e,zaK n,zaK c with
   | some i,some zs,some ln,some lc=>if 0 < i.size∧0 < i.bytes then some (.mkn e i.size i.bytes zs ln lc) else none
   | _,_,_,_=>none
  | _=>none
 | .load t x=>match zaO P t,zeD P t,zaK x with
  | some n,some ag,some x=>if ag=true∨n=1 then some (.load n ag x) else none
  | _,_,_=>none
 | .store t x v=>match zaO P t,zaK x,zaK v with
  | some n,some x,some v=>some (.store n x v)
  | _,_,_=>none
 | .nilCheck x=>(zaK x).map .nilchk
 | .binOp op t x y _=>match P.underlying t,zaK x,zaK y with
  | some (.int _),some x,some y | some .string,some x,some y=>some (.bin op x y)
  | some .bool,some x,some y=>if op = .eql then some (.binb false x y) else if op = .neq then some (.binb true x y) else none
  | some (.slice _),some x,some (.val .nilsl)=>if op = .eql then some (.isnil false x) else if op = .neq then some (.isnil true x) else none
  | _,some x,some y=>match ztI P t with
   | some ks=>if op = .eql then some (.eqag false ks x y) else if op = .neq then some (.eqag true ks x y) else none
   | none=>none
  | _,_,_=>none
 | .unOp .not _ x=>(zaK x).map .not
 | .unOp .neg _ x=>(zaK x).map .neg
 | .convert s d x=>match P.underlying s,P.underlying d,zaK x with
  | some (.int _),some (.int k),some x=>some (.conv k x)
  | some (.slice e),some .string,some x=>match P.underlying e with
   | some (.int .u8)=>some (.b2s x)
   | _=>none
  | _,_,_=>none
 | .makeFunc (.func f) first caps=>if first.size=0 then (zf4 caps.toList).map (.clo f) else if caps.size=0 then (zf4 first.toList).map (.clob f) else none
 | .slice t x lo hi none=>match P.underlying t,zaK x,ziE lo,ziE hi with
  | some .string,some x,some lo,some hi=>some (.slc 0 x lo hi)
  | some (.slice e),some x,some lo,some hi=>match zaO P e with
   | some sz=>if 0 < sz then some (.slc sz x lo hi) else none
   | none=>none
  | _,_,_,_=>none
 | .fieldAddr s x i=>match P.underlying s,zaK x with
  | some (.struct fs),some x=>match fs[i]? with
   | some f=>match zaO P f.type with
    | some n=>if 0 < n then some (.addr f.offset x) else none
    | none=>none
   | none=>none
  | _,_=>none
 | .indexAddr t x i=>match P.underlying t,zaK x,zaK i with
  | some (.array n e),some x,some i=>match zaO P e with
   | some sz=>some (.iaddrA sz n x i)
   | none=>none
  | some (.slice e),some x,some i=>match zaO P e with
   | some sz=>if 0 < sz then some (.iaddrS sz x i) else none
   | none=>none
  | _,_,_=>none
 | .field t x i=>match P.underlying t,zaK x with
  | some (.struct fs),some x=>match fs[i]? with
   | some f=>match zaO P f.type,zeD P f.type with
    | some n,some ag=>some (.field f.offset n ag x)
    | _,_=>none
   | none=>none
  | _,_=>none
 | .index t x i=>match P.underlying t,zaK x,zaK i with
  | some (.array n e),some x,some i=>match zaO P e,zeD P e with
   | some sz,some ag=>some (.idxA sz n ag x i)
   | _,_=>none
  | some .string,some x,some i=>some (.idxS x i)
  | _,_,_=>none
 | .extract x i=>(zaK x).map (.ext i)
 | .call c=>match c.callee,c.argTypes.toList,c.args.toList with
  | .builtin .len,[t],[x]=>match P.underlying t,zaK x with
   | some .string,some x=>some (.len true x)
   | some (.slice _),some x=>some (.len false x)
   | _,_=>none
  | .builtin .min,_,[x,y]=>match zaK x,zaK y with
   | some x,some y=>some (.mm false x y)
   | _,_=>none
  | .builtin .max,_,[x,y]=>match zaK x,zaK y with
   | some x,some y=>some (.mm true x y)
   | _,_=>none
  | .builtin .append,[t,u],[x,y]=>match P.underlying t,zaK x,zaK y with
   | some (.slice e),some x,some y=>match P.info? e with
    | some i=>match i.zero with
     | some z=>if 0 < i.size∧0 < i.bytes∧z.cells.size=i.size∧(u=t∨(zvF P u=true∧zCw P e=true)) then some (.append e i.size i.bytes x y) else none
     | none=>none
    | none=>none
   | _,_,_=>none
  | .value (.func f),_,args=>if ZU P f then (zf4 args).map (.call f · (if zCv.contains f then 1 else if zEi.contains f then 2 else if zzs.contains f then 3 else 0)) else none
  | .value x,_,args=>match zaK x,zf4 args with
   | some x,some args=>some (.callv x args)
   | _,_=>none
  | _,_,_=>none
 | _=>none
def zmR (nt:Nat):Option Nat→Bool
 | some d=>decide (d < nt)
 | none=>true
def Zc (P:Program) (nt:Nat) (ops:Array Oper) (o:Oper):Option LOper :=
 match Z1 P o.op with
 | none=>none
 | some lo =>
  if zmR nt o.dst=true then
   match o.guard with
   | none=>some ⟨o.dst,lo,none,true⟩
   | some (j,want)=>match (ops[j]?).bind (·.dst) with
    | some t=>if t < nt then some ⟨o.dst,lo,some (t,want),true⟩ else none
    | none=>none
  else none
section
variable {S:Nat→Nat→Prop} {w:World} {C:Conc}
theorem RepV.int_inv {k:IntKind} {n:Int} {v:Value} (h:RepV S w C (.int k n) v):v = .int k n:=by
 cases h with | pure h=>cases h; rfl
theorem RepV.bool_inv {b:Bool} {v:Value} (h:RepV S w C (.bool b) v):v = .bool b:=by
 cases h with | pure h=>cases h; rfl
theorem RepV.str_inv {s:ByteArray} {v:Value} (h:RepV S w C (.str s) v):v = .string s:=by
 cases h with | pure h=>cases h; rfl
theorem RepV.nilsl_inv {v:Value} (h:RepV S w C .nilsl v):v = .slice none 0 0:=by
 cases h with | pure h=>cases h; rfl
theorem RepV.undef_inv {v:Value} (h:RepV S w C .undef v):v=Go.undef:=by
 cases h with
 | pure h=>cases h
 | undef=>rfl
theorem RepV.agg_inv {cs : List PV} {v : Value} (h : RepV S w C (.agg cs) v) : ∃ vs : List Value, v = .agg vs.toArray ∧ vs.length = cs.length ∧ (∀ (j : Nat) (u : Value), vs[j]? = some u → u.oneCell' = true) ∧
    ∀ (j:Nat) p u,cs[j]? = some p→vs[j]? = some u→RepV S w C p u:=by
  cases h with
  | pure h=>cases h
  | agg cs vs hl h1 h=>exact ⟨vs,rfl,hl,h1,h⟩
theorem RepV.tup_inv {cs:List PV} {v:Value} (h:RepV S w C (.tup cs) v):∃ vs:List Value,v = .tuple vs.toArray∧vs.length=cs.length∧∀ (j:Nat) p u,cs[j]? = some p→vs[j]? = some u→RepV S w C p u:=by
 cases h with
 | pure h=>cases h
 | tup cs vs hl h=>exact ⟨vs,rfl,hl,h⟩
theorem RepV.clo_inv {f:Nat} {cs:List PV} {v:Value} (h:RepV S w C (.clo f cs) v):∃ vs:List Value,v = .func (.func f) #[] vs.toArray∧vs.length=cs.length∧∀ (j:Nat) p u,cs[j]? = some p→vs[j]? = some u→RepV S w C p u:=by
 cases h with
 | pure h=>cases h
 | clo f cs vs hl h=>exact ⟨vs,rfl,hl,h⟩
theorem RepV.clob_inv {f:Nat} {cs:List PV} {v:Value} (h:RepV S w C (.clob f cs) v):∃ vs:List Value,v = .func (.func f) vs.toArray #[]∧vs.length=cs.length∧∀ (j:Nat) p u,cs[j]? = some p→vs[j]? = some u→RepV S w C p u:=by
 cases h with
 | pure h=>cases h
 | clob f cs vs hl h=>exact ⟨vs,rfl,hl,h⟩
theorem RepV.ptr_inv {id off:Nat} {v:Value} (h:RepV S w C (.ptr id off) v):v = .pointer (some ⟨C.blk id,off,none⟩)∧id < C.n:=by
 cases h with
 | pure h=>cases h
 | ptr id off hi=>exact ⟨rfl,hi⟩
theorem RepV.rptr_inv {cells : List PV} {v : Value} (h : RepV S w C (.rptr cells) v) : ∃ (b o : Nat) (y : Nat → Value), v = .pointer (some ⟨b, o, none⟩) ∧
    (∀ (j:Nat) p,cells[j]? = some p→S b (o + j)∧w.cell? ⟨b,o + j,none⟩=some (y j))∧∀ (j:Nat) p,cells[j]? = some p→RepP S w p (y j):=by
  cases h with
  | pure h =>
    cases h with
    | rptr cells b o y hl h=>exact ⟨b,o,y,rfl,hl,h⟩
theorem RepV.arr_inv {id ver:Nat} {v:Value} (h:RepV S w C (.arr id ver) v) (hv:C.ver id=ver):v=C.sv id∧id < C.n:=by
 cases h with
 | pure h=>cases h
 | arr id hi=>exact ⟨rfl,hi⟩
 | arrOld id ver hi hlt=>omega
theorem RepV.aptr_inv {id ver sz idx off : Nat} {v : Value} (h : RepV S w C (.aptr id ver sz idx off) v) (hv : C.ver id = ver) :
    ∃ g n c,C.sv id = .slice (some ⟨g,0,none⟩) n c∧v = .pointer (some ⟨g,idx * sz + off,none⟩)∧id < C.n:=by
  cases h with
  | pure h=>cases h
  | aptr id sz idx off g n c hi hs=>exact ⟨g,n,c,hs,rfl,hi⟩
  | aptrOld id ver sz idx off hi hlt=>omega
theorem RepV.list_inv {rows:List (List PV)} {v:Value} (h:RepV S w C (.list rows) v):RepP S w (.list rows) v:=by
 cases h with | pure h=>exact h
theorem RepP.one {p:PV} {v:Value} (h:RepP S w p v):v.oneCell'=true:=by
 cases h <;> first | rfl | assumption
theorem RepV.pureOf {p:PV} {v:Value} (h:RepV S w C p v) (hp:p.isPure=true):RepP S w p v:=by
 cases h with
 | pure h=>exact h
 | _=>simp [PV.isPure] at hp
theorem RepV.cells {p : PV} {v : Value} {cs : List PV} (h : RepV S w C p v) (hc : p.cells? = some cs) :
    v.cells.toList.length=cs.length∧∀ (j:Nat) q u,cs[j]? = some q→v.cells.toList[j]? = some u→u.oneCell'=true∧RepV S w C q u:=by
  have one:∀ {p:PV} {v:Value},RepV S w C p v→v.oneCell'=true→v.cells.toList.length = [p].length∧∀ (j:Nat) q u,[p][j]? = some q→v.cells.toList[j]? = some u→u.oneCell'=true∧RepV S w C q u:=by
    intro p v h h1
    have hv:v.cells=#[v]:=by cases v <;> first | rfl | simp [Value.oneCell'] at h1
    rw [hv]
    refine ⟨rfl,fun j q u a b=>?_⟩
    cases j with
    | zero=>simp at a b; subst a; subst b; exact ⟨h1,h⟩
    | succ j=>simp at a
  cases h with
  | pure h =>
    have h1:=h.one
    cases h <;> first | (simp [PV.cells?] at hc; done) | (simp only [PV.cells?,yae] at hc; subst hc; exact one (.pure ‹_›) h1) | skip
    all_goals (simp only [PV.cells?,yae] at hc; subst hc)
    · exact one (.pure (.bool _)) rfl
    · exact one (.pure (.int _ _)) rfl
    · exact one (.pure (.str _)) rfl
    · exact one (.pure .nilp) rfl
    · exact one (.pure .nilsl) rfl
    · exact one (.pure (by constructor <;> assumption)) rfl
    · exact one (.pure (by constructor <;> assumption)) rfl
  | any=>simp [PV.cells?] at hc
  | undef=>simp [PV.cells?] at hc
  | tup=>simp [PV.cells?] at hc
  | agg cs vs hl h1 h =>
    simp only [PV.cells?,yae] at hc; subst hc
    exact ⟨hl,fun j q u a b=>⟨h1 j u b,h j q u a b⟩⟩
  | vlist rows a c sz x hc1 hm hsz hz hl h =>
    simp only [PV.cells?,yae] at hc; subst hc
    exact one (.vlist rows a c sz x hc1 hm hsz hz hl h) rfl
  | clo f cs vs hl h=>simp only [PV.cells?,yae] at hc; subst hc; exact one (.clo f cs vs hl h) rfl
  | clob f cs vs hl h=>simp only [PV.cells?,yae] at hc; subst hc; exact one (.clob f cs vs hl h) rfl
  | ptr id off hi=>simp only [PV.cells?,yae] at hc; subst hc; exact one (.ptr id off hi) rfl
  | aptr id sz idx off g n c hi hs=>simp only [PV.cells?,yae] at hc; subst hc; exact one (.aptr id sz idx off g n c hi hs) rfl
  | aptrOld id ver sz idx off hi hv h1=>simp only [PV.cells?,yae] at hc; subst hc; exact one (.aptrOld id ver sz idx off hi hv h1) h1
  | arr id hi h1=>simp only [PV.cells?,yae] at hc; subst hc; exact one (.arr id hi h1) h1
  | arrOld id ver hi hv h1=>simp only [PV.cells?,yae] at hc; subst hc; exact one (.arrOld id ver hi hv h1) h1
  | oll p h=>simp only [PV.cells?,yae] at hc; subst hc; exact one (.oll p h) h.one
  | olp p h=>simp only [PV.cells?,yae] at hc; subst hc; exact one (.olp p h) h.one
theorem zgy {v:Value} {p:PV} (h:zzr v=some p):RepP S w p v:=by
 unfold zzr at h
 split at h <;> first | (cases h; constructor) | cases h
theorem zfe:∀ {vs:List Value} {ps:List PV},zqU vs=some ps→vs.length=ps.length∧∀ (j:Nat) p v,ps[j]? = some p→vs[j]? = some v→RepP S w p v
 | [],ps,h=>by simp only [zqU,yae] at h; subst h; exact ⟨rfl,fun j p v a=>by simp at a⟩
 | v :: vs,ps,h=>by
  simp only [zqU] at h
  split at h
  ·
   rename_i p qs h1 h2
   cases h
   obtain ⟨e1,e2⟩:=zfe h2
   refine ⟨by simp [e1],fun j q u a b=>?_⟩
   cases j with
   | zero=>simp at a b; subst a; subst b; exact zgy h1
   | succ j=>exact e2 j q u (by simpa using a) (by simpa using b)
  ·
   cases h
end
section
variable {S:Nat→Nat→Prop} {w:World} {C:Conc} {st:St} {a:Act}
theorem zau (he:∀ t,RepV S w C (st.env t) (a.tmps.getD t Go.undef)) {X:Operand} {l:LOpd} (h:zaK X=some l):RepV S w C (l.ev st) (a.eval X):=by
 cases X with
 | tmp t=>simp only [zaK,yae] at h; subst h; exact he t
 | const v =>
  simp only [zaK] at h
  cases hp:zzr v with
  | none=>simp [hp] at h
  | some p=>simp [hp] at h; subst h; exact .pure (zgy hp)
 | func f=>simp only [zaK,yae] at h; subst h; exact .clo f [] [] rfl (fun j p x a=>by simp at a)
 | «global» g=>simp [zaK] at h
theorem zci (he : ∀ t, RepV S w C (st.env t) (a.tmps.getD t Go.undef)) : ∀ {Xs : List Operand} {ls : List LOpd}, zf4 Xs = some ls →
    zmK S w C (ls.map (LOpd.ev st)) (Xs.map a.eval)
  | [],ls,h=>by simp only [zf4,yae] at h; subst h; exact ⟨rfl,fun j p v a=>by simp at a⟩
  | X :: Xs,ls,h=>by
    simp only [zf4] at h
    split at h
    · rename_i l qs h1 h2
      cases h
      obtain ⟨e1,e2⟩:=zci he h2
      refine ⟨by simpa using e1,fun j q u a' b=>?_⟩
      cases j with
      | zero=>simp at a' b; subst a'; subst b; exact zau he h1
      | succ j=>exact e2 j q u (by simpa using a') (by simpa using b)
    · cases h
end
def Zr (x:Cx) (C:Conc) (H:List AObj) (w:World) (r:Result Next) (v:PV) (H':List AObj):Prop :=
 ∃ vv w' C',(r = .ok (.value vv) w'∨(r = .ok .skip w'∧vv=Go.undef))∧HR x C' H' w'∧(∀ p u,RepV (zu x C H w) w C p u→RepV (zu x C' H' w') w' C' p u)∧RepV (zu x C' H' w') w' C' v vv
section
variable {x:Cx} {C:Conc} {H:List AObj} {w:World}
theorem Zr.same (hr:HR x C H w) {r:Result Next} {v:PV} {vv:Value} (h:r = .ok (.value vv) w) (hv:RepV (zu x C H w) w C v vv):Zr x C H w r v H :=
 ⟨vv,w,C,.inl h,hr,fun _ _ h=>h,hv⟩
theorem zbq (w:World) (o:Obj) {may:Nat→Prop}:Step w (w.alloc o) may :=
 ⟨by simp,rfl,rfl,rfl,fun b hb _=>heap_alloc_old w o hb⟩
theorem Zr.box (hr : HR x C H w) {cs : Array Value} {cells : List PV} (T : TypeId) (hl : cs.toList.length = cells.length)
    (hc:∀ (j:Nat) q u,cells[j]? = some q→cs.toList[j]? = some u→u.oneCell'=true∧RepV (zu x C H w) w C q u) {r:Result Next}
    (h:r = .ok (.value (.pointer (some ⟨w.heap.size,0,none⟩))) (w.alloc (.cells cs T))):Zr x C H w r (.ptr H.length 0) (H ++ [.box cells]):=by
  let C':Conc:=⟨C.n + 1,fun i=>if i=C.n then w.heap.size else C.blk i,C.sv,C.ver,C.old⟩
  have hb:C'.blk H.length=w.heap.size:=by show (if H.length=C.n then _ else _)=_; rw [if_pos hr.n.symm]
  obtain ⟨h1,h2⟩:=hr.push (C':=C') (ob' := .box cells) (zbq w (.cells cs T)) rfl (fun i hi=>by show (if i=C.n then _ else _)=_; rw [if_neg (by omega)]) (fun _ _=>rfl) (fun _ _=>rfl)
    (fun b hb'=>by rw [show b=C'.blk H.length from hb',hb]; exact yag _)
    (fun hm _=>⟨cs,T,by rw [hb]; exact heap_alloc_new w _,by simpa using hl,fun j p v a b=>⟨(hc j p v a (by simpa using b)).1,hm _ _ (hc j p v a (by simpa using b)).2⟩⟩)
  refine ⟨_,_,C',.inl h,h1,h2,?_⟩
  rw [show (Value.pointer (some ⟨w.heap.size,0,none⟩)) = .pointer (some ⟨C'.blk H.length,0,none⟩) by rw [hb]]
  exact .ptr _ _ (by show H.length < C.n + 1; rw [hr.n]; omega)
theorem zjT (hr:HR x C H w) (cs:Array Value) (T:TypeId) (off:Nat):zu x C H (w.alloc (.cells cs T)) w.heap.size off:=by
 refine ⟨.inr ⟨.inl hr.size,.of (heap_alloc_new w _)⟩,by simp,fun id ob h=>AObj.free_of_not (fun hc=>?_) off⟩
 have:=hr.blk_lt h hc
 omega
end
theorem zef (b o n:Nat):(⟨b,o,none⟩:Addr).add n=⟨b,o + n,none⟩:=by unfold Addr.add; split <;> simp_all
theorem ZG {w:World} {b o:Nat} {cs:Array Value} {T:TypeId} {fr:Nat × Nat} (h:w.heap[b]? = some (.cells cs T fr)):w.cell? ⟨b,o,none⟩=cs[o]? := by
 simp [World.cell?,h]
theorem ziF {w:World} {b o:Nat} {cs:Array Value} {T:TypeId} (h:w.heap[b]? = some (.cells cs T (0,0))):w.frozen? ⟨b,o,none⟩=false:=by
 simp [World.frozen?,h]
section
variable {P:Program} {x:Cx} {C:Conc} {H:List AObj} {w:World}
theorem zCy (hr : HR x C H w) {p : PV} {v : Value} {n : Nat} {cs : List PV} (hp : RepV (zu x C H w) w C p v) (h : zbO H p n = some cs) :
    ∃ b o,v = .pointer (some ⟨b,o,none⟩)∧cs.length=n∧∃ y:Nat→Value,∀ (j:Nat) q,cs[j]? = some q→w.cell? ⟨b,o + j,none⟩=some (y j)∧(y j).oneCell'=true∧RepV (zu x C H w) w C q (y j):=by
  cases p <;> simp only [zbO] at h <;> try (cases h; done)
  case ptr id off =>
    split at h <;> try (cases h; done)
    rename_i cells hid
    split at h <;> try (cases h; done)
    rename_i hle
    cases h
    obtain ⟨rfl,hi⟩:=hp.ptr_inv
    obtain ⟨arr,T,h1,h2,h3⟩:=hr.obj id _ hid
    refine ⟨_,_,rfl,by simp; omega,fun j=>arr.getD (off + j) Go.undef,fun j q hq=>?_⟩
    have hj:j < n:=by
      have:=(yab.1 hq).1
      simp at this; omega
    have hq':cells[off + j]? = some q:=by
      rw [yaK,if_pos hj,ybg] at hq; exact hq
    have hlt:off + j < arr.size:=by omega
    have hget:arr[off + j]? = some (arr.getD (off + j) Go.undef):=by simp [hlt]
    obtain ⟨h4,h5⟩:=h3 (off + j) q _ hq' hget
    exact ⟨by rw [ZG h1,hget],h4,h5⟩
  case aptr id ver sz idx off =>
    split at h <;> try (cases h; done)
    rename_i v' st ipu T sz' rows hid
    split at h <;> try (cases h; done)
    rename_i hvs
    obtain ⟨rfl,rfl⟩:=hvs
    split at h <;> try (cases h; done)
    rename_i row hrow
    split at h <;> try (cases h; done)
    rename_i hle
    cases h
    obtain ⟨h1,h2,h3,xs,h4,h5⟩:=hr.obj id _ hid
    obtain ⟨g,m,c,hsv,rfl,hi⟩:=hp.aptr_inv h1
    have hl:=h3 row (yaf hrow)
    refine ⟨_,_,rfl,by simp; omega,fun j=>xs.getD (idx * sz' + off + j) Go.undef,fun j q hq=>?_⟩
    have hj:j < n:=by
      have:=(yab.1 hq).1
      simp at this; omega
    have hq':row[off + j]? = some q:=by
      rw [yaK,if_pos hj,ybg] at hq; exact hq
    have hidx:idx < rows.length:=(yab.1 hrow).1
    have hlt:idx * sz' + (off + j) < xs.length:=by
      rw [h4.1]
      have:(idx + 1) * sz'≤rows.length * sz':=yaj _ hidx
      rw [yaI] at this; omega
    have hget:xs[idx * sz' + (off + j)]? = some (xs.getD (idx * sz' + off + j) Go.undef):=by
      rw [ybc]; simp [List.getD,yac hlt]
    obtain ⟨h6,h7⟩:=h5 idx row (off + j) q _ hrow hq' hget
    refine ⟨?_,h6,?_⟩
    · rcases h4.2 with ⟨e1,-⟩ | ⟨g',cap,cur,e1,-,e2,-,-,-,e3⟩
      · rw [e1] at hsv; cases hsv
      · rw [e1] at hsv
        obtain rfl:g'=g:=by simpa using congrArg (fun v=>match v with | .slice (some a) _ _=>a.block | _=>0) hsv
        rw [ZG e2,← yaV,← hget,← e3,yaK,if_pos (by rw [← h4.1]; exact hlt),ybc]
    · cases ipu with
      | true=>simpa using h7
      | false=>exact .pure (by simpa using h7)
  case rptr cells =>
    split at h <;> try (cases h; done)
    rename_i hle
    cases h
    obtain ⟨b,o,y,rfl,h1,h2⟩:=hp.rptr_inv
    refine ⟨b,o,rfl,by simp; omega,y,fun j q hq=>?_⟩
    have hj:j < n:=by
      have:=(yab.1 hq).1
      simp at this; omega
    rw [yaK,if_pos hj] at hq
    exact ⟨(h1 j q hq).2,(h2 j q hq).one,.pure (h2 j q hq)⟩
  case olp cells =>
    split at h <;> try (cases h; done)
    rename_i hle
    cases h
    cases hp with
    | pure g=>cases g
    | olp cells g =>
      cases g with
      | rptr cells b o y h1 h2 =>
        refine ⟨b,o,rfl,by simp; omega,y,fun j q hq=>?_⟩
        rw [yav] at hq
        obtain ⟨q',hq',rfl⟩:=yad.1 hq
        have hj:j < n:=by
          have:=(yab.1 hq').1
          simp at this; omega
        rw [yaK,if_pos hj] at hq'
        exact ⟨(h1 j q' hq').2,(h2 j q' hq').one,zqT (h2 j q' hq')⟩
theorem zdK {t:TypeId} {ag:Bool} (h:zeD P t=some ag):(isAgg t).run P w = .ok ag w:=by
 unfold zeD at h
 cases hu:P.underlying t with
 | none=>simp [hu] at h
 | some d =>
  simp only [hu,yaM,yae] at h
  unfold isAgg
  rw [yal,run_underlying hu w]
  subst h
  cases d <;> simp [TypeDesc.isRow]
theorem Z5 {t:TypeId} {n:Nat} (h:zaO P t=some n):(sizeOf t).run P w = .ok n w:=by
 unfold zaO at h
 cases hq:P.info? t with
 | none=>simp [hq] at h
 | some i=>simp [hq] at h; subst h; simp [sizeOf,typeInfo,hq]
theorem zof (hr : HR x C H w) {p : PV} {v : Value} {n : Nat} {ag : Bool} {t : TypeId} (hp : RepV (zu x C H w) w C p v) (hn : zaO P t = some n) (hag : zeD P t = some ag)
    (hone:ag=true∨n=1) {r:PV} (h:((zbO H p n).bind (zk6 ag))=some r):∃ b o vv,v = .pointer (some ⟨b,o,none⟩)∧(loadVar t ⟨b,o,none⟩).run P w = .ok vv w∧RepV (zu x C H w) w C r vv:=by
  obtain ⟨cs,hcs,h2⟩:=ybo.1 h
  obtain ⟨b,o,rfl,hl,y,hy⟩:=zCy hr hp hcs
  cases ag with
  | true =>
    simp only [zk6,if_true,yae] at h2
    subst h2
    have hlc:(loadCells ⟨b,o,none⟩ n).run P w = .ok (((List.range n).map y).toArray) w:=by
      have:=run_loadCells_list (P:=P) w ⟨b,o,none⟩ ((List.range n).map y) (fun j u hu=>by
        rw [zef]
        have hj:j < n:=by have:=(yab.1 hu).1; simpa using this
        obtain ⟨q,hq⟩:∃ q,cs[j]? = some q:=⟨cs[j],by simp [hl,hj]⟩
        rw [(hy j q hq).1]
        simpa [hj] using hu)
      simpa using this
    refine ⟨b,o,.agg ((List.range n).map y).toArray,rfl,?_,.agg cs _ (by simp [hl]) (fun j u hu=>?_) (fun j q u hq hu=>?_)⟩
    · simp only [loadVar,yal,yay,Result.andThen_ok,zdK hag,if_true,Z5 hn,hlc]
    · have hj:j < n:=by have:=(yab.1 hu).1; simpa using this
      obtain ⟨q,hq⟩:∃ q,cs[j]? = some q:=⟨cs[j],by simp [hl,hj]⟩
      obtain rfl:y j=u:=by simpa [hj] using hu
      exact (hy j q hq).2.1
    · have hj:j < n:=by have:=(yab.1 hu).1; simpa using this
      obtain rfl:y j=u:=by simpa [hj] using hu
      exact (hy j q hq).2.2
  | false =>
    obtain rfl:n=1:=by rcases hone with h | h <;> simp_all
    simp only [zk6,yap,if_false] at h2
    split at h2 <;> try (cases h2; done)
    rename_i c
    cases h2
    have h0:=hy 0 _ rfl
    refine ⟨b,o,y 0,rfl,?_,h0.2.2⟩
    have hc:(load ⟨b,o,none⟩).run P w = .ok (y 0) w:=by
      have:=h0.1
      simp only [ybh] at this
      simp [load,Sem.run,this]
    simp only [loadVar,yal,Result.andThen_ok,zdK hag,yap,if_false,hc]
theorem ztJ (hr : HR x C H w) {p : PV} {v : Value} {n : Nat} {ag : Bool} {t : TypeId} (hp : RepV (zu x C H w) w C p v) (hn : zaO P t = some n) (hag : zeD P t = some ag)
    (hone:ag=true∨n=1) {r:PV} (h:((zbO H p n).bind (zk6 ag))=some r):Zr x C H w (((do let v ← Instr.loadAt t v; pure (.value v)):Sem Next).run P w) r H:=by
  obtain ⟨b,o,vv,rfl,h1,h2⟩:=zof (P:=P) hr hp hn hag hone h
  refine Zr.same hr (vv:=vv) ?_ h2
  simp only [Instr.loadAt,Instr.sureAddr,yal,yay,Result.andThen_ok,h1]
theorem zb0 (b : Nat) {T : TypeId} {fr : Nat × Nat} : ∀ (vs : List Value) (o : Nat) (w : World) (cs : Array Value), w.heap[b]? = some (.cells cs T fr) → o + vs.length ≤ cs.size →
    ∃ cs':Array Value,(w.setCells b o vs).heap[b]? = some (.cells cs' T fr)∧cs'.size=cs.size∧∀ j:Nat,cs'[j]? = if o≤j∧j < o + vs.length then vs[j - o]? else cs[j]?
  | [],o,w,cs,h,_=>⟨cs,h,rfl,fun j=>by rw [if_neg (by simp)]⟩
  | v :: vs,o,w,cs,h,hl=>by
    have hl':o + 1 + vs.length≤cs.size:=by simp at hl; omega
    have h1:(w.setCell ⟨b,o,none⟩ v).heap[b]? = some (.cells (cs.setIfInBounds o v) T fr):=by
      simp [World.setCell,ybi,h]
    obtain ⟨cs',h2,h3,h4⟩:=zb0 b vs (o + 1) (w.setCell ⟨b,o,none⟩ v) _ h1 (by simpa using hl')
    refine ⟨cs',h2,by simpa using h3,fun j=>?_⟩
    rw [h4 j]
    by_cases e:j=o
    · subst e
      rw [if_neg (by omega),if_pos (by simp)]
      simp [show j < cs.size by omega]
    · by_cases e2:o + 1≤j∧j < o + 1 + vs.length
      · rw [if_pos e2,if_pos (by simp; omega)]
        obtain ⟨k,hk⟩:∃ k,j - o=k + 1:=⟨j - o - 1,by omega⟩
        rw [hk,show j - (o + 1)=k by omega]; rfl
      · rw [if_neg e2,if_neg (by simp; omega),Array.getElem?_setIfInBounds_ne (Ne.symm e)]
theorem zeE (b:Nat):∀ (vs:List Value) (o:Nat) (w:World) (k:Nat),k≠b→(w.setCells b o vs).heap[k]? = w.heap[k]?
 | [],_,_,_,_=>rfl
 | v :: vs,o,w,k,h=>by
  rw [World.setCells,zeE b vs _ _ k h]
  simp only [World.setCell,ybi]
  rw [if_neg (by omega)]
theorem zdk (b:Nat) (vs:List Value) (o:Nat) (w:World) {may:Nat→Prop} (h:may b):Step w (w.setCells b o vs) may:=by
 have key:∀ (vs:List Value) (o:Nat) (w:World),(w.setCells b o vs).heap.size=w.heap.size∧(w.setCells b o vs).os=w.os∧(w.setCells b o vs).tape=w.tape∧(w.setCells b o vs).output=w.output:=by
  intro vs
  induction vs with
  | nil=>intro o w; exact ⟨rfl,rfl,rfl,rfl⟩
  | cons v vs ih =>
   intro o w
   obtain ⟨h1,h2,h3,h4⟩:=ih (o + 1) (w.setCell ⟨b,o,none⟩ v)
   exact ⟨by rw [World.setCells,h1]; simp [World.setCell],h2,h3,h4⟩
 obtain ⟨h1,h2,h3,h4⟩:=key vs o w
 exact ⟨by omega,h2,h3,h4,fun k _ hk=>zeE b vs o w k (fun e=>hk (e ▸ h))⟩
theorem zhj {cells vs:List PV} {off:Nat} (h:off + vs.length≤cells.length) (j:Nat):(zfd cells off vs)[j]? = if off≤j∧j < off + vs.length then vs[j - off]? else cells[j]? := by
 unfold zfd
 by_cases e:j < off
 ·
  rw [if_neg (by omega),ybb,yaC (by simp; omega),yaK,if_pos e]
 ·
  by_cases e2:j < off + vs.length
  ·
   rw [if_pos ⟨by omega,e2⟩,yaC (by simp; omega),yaL (by simp; omega)]
   simp [show min off cells.length=off by omega]
  ·
   rw [if_neg (by omega),yaL (by simp; omega),ybg]
   simp only [yaR,yaz]
   congr 1; omega
theorem zdL {cells vs:List PV} {off:Nat} (h:off + vs.length≤cells.length):(zfd cells off vs).length=cells.length:=by
 simp [zfd]; omega
theorem zk8 (t : TypeId) (b o : Nat) (v : Value) {cs : Array Value} {T : TypeId} (hn : zaO P t = some v.cells.toList.length) (h : w.heap[b]? = some (.cells cs T (0, 0))) (hl : o + v.cells.toList.length ≤ cs.size)
    (h1:∀ (j:Nat) u,v.cells.toList[j]? = some u→u.oneCell'=true):((do Instr.storeAt t (.pointer (some ⟨b,o,none⟩)) v; pure Next.skip:Sem Next)).run P w = .ok .skip (w.setCells b o v.cells.toList):=by
  have hst := run_storeCells_cells (P := P) b o v.cells.toList 0 w (fun j hj => by
      rw [ZG h]; have:o + 0 + j < cs.size:=by omega
      simp only [ya4 this,Option.isSome_some]) (fun j hj=>ziF h)
    (fun u hu=>by obtain ⟨j,hj,e⟩:=yaq hu; exact h1 j u (by rw [yac hj,e]))
  simp only [ybh] at hst
  have hs:v.cells.size=v.cells.toList.length:=by simp
  simp only [Instr.storeAt,Instr.sureAddr,storeVar,yal,yay,Result.andThen_ok,Z5 hn,hs,ne_eq,not_true_eq_false,if_false,hst]
theorem zjU (hr:HR x C H w) {p:PV} {v:Value} (hp:RepV (zu x C H w) w C p v):RepV (zu x C H w) w C (frz H p) v:=by
 cases p <;> try exact hp
 rename_i id ver
 simp only [frz]
 split <;> try exact hp
 rename_i v' T sz rows hid
 split <;> try exact hp
 rename_i hv
 subst hv
 obtain ⟨h1,h2,h3,xs,h4,h5⟩:=hr.obj id _ hid
 obtain ⟨rfl,hi⟩:=hp.arr_inv h1
 have hid':id < H.length:=(yab.1 hid).1
 rcases h4.2 with ⟨e1,e2⟩ | ⟨g,cap,cur,e1,-,e2,e3,e4,e5,e6⟩
 ·
  have:rows = []:=yaH e2
  subst this
  rw [e1]
  exact .pure (.list [] none 0 1 (fun _ _=>Go.undef) (by simp) (by unfold maxLen; omega) (by omega) (by simp) (fun k row j p h=>by simp at h) (fun k row j p h=>by simp at h))
 ·
  rw [e1]
  have key:∀ (k:Nat) row (j:Nat) p,rows[k]? = some row→row[j]? = some p→k * sz + j < rows.length * sz∧xs[k * sz + j]? = some (xs.getD (k * sz + j) Go.undef):=by
   intro k row j p a b
   have hk:k < rows.length:=(yab.1 a).1
   have hj:j < sz:=by rw [← h3 row (yaf a)]; exact (yab.1 b).1
   have hlt:k * sz + j < rows.length * sz:=by
    have:(k + 1) * sz≤rows.length * sz:=yaj _ hk
    rw [yaI] at this; omega
   exact ⟨hlt,by simp [List.getD,yac (show k * sz + j < xs.length by rw [h4.1]; exact hlt)]⟩
  refine .pure (.list rows _ cap sz (fun k j=>xs.getD (k * sz + j) Go.undef) e3 e4 h2 h3 (fun k row j p a b=>⟨g,0,rfl,⟨?_,?_,?_⟩,?_⟩) (fun k row j p a b=>?_))
  ·
   rcases hr.mine id _ g hid (by show (C.sv id).ownBlock=some g; rw [e1]; rfl) with hm | ⟨i,ob0,hm1,hm2⟩
   ·
    exact .inr ⟨.inl hm,.of e2⟩
   ·
    exact .inr ⟨.inr ⟨i,ob0,hm1,hm2⟩,.of e2⟩
  ·
   exact hr.blk_lt hid (by show (C.sv id).ownBlock=some g; rw [e1]; rfl)
  ·
   intro id' ob' hid2
   by_cases he:id'=id
   ·
    subst he
    rw [hid] at hid2; cases hid2
    exact fun _=>⟨rfl,rfl,by have:=(key k row j p a b).1; omega⟩
   ·
    refine AObj.free_of_not (fun hc=>he ?_) _
    exact hr.apart id' id ob' _ g hid2 hid hc (by show (C.sv id).ownBlock=some g; rw [e1]; rfl)
  ·
   rw [ZG e2,← yaV,yaF,← (key k row j p a b).2,← e6,yaK,if_pos (key k row j p a b).1]
  ·
   have:=(h5 k row j p _ a b (key k row j p a b).2).2
   simpa using this
theorem zk9 (hr : HR x C H w) {vs : List PV} {us : List Value} (h : ∀ (j : Nat) q u, vs[j]? = some q → us[j]? = some u → u.oneCell' = true ∧ RepV (zu x C H w) w C q u)
    (hp:(vs.map (frz H)).all PV.isPure=true) (j:Nat) (q:PV) (u:Value) (hq:(vs.map (frz H))[j]? = some q) (hu:us[j]? = some u):u.oneCell'=true∧RepP (zu x C H w) w q u:=by
  rw [yav] at hq
  obtain ⟨q0,h1,rfl⟩:=yad.1 hq
  obtain ⟨h2,h3⟩:=h j q0 u h1 hu
  refine ⟨h2,(zjU hr h3).pureOf ?_⟩
  exact yar.1 hp _ (yaG.2 ⟨q0,yaf h1,rfl⟩)
theorem zla {k idx sz j off n:Nat} (hk:k≠idx) (hj:j < sz) (ho:off + n≤sz):¬ (idx * sz + off≤k * sz + j∧k * sz + j < idx * sz + off + n):=by
 rcases Nat.lt_or_gt_of_ne hk with h | h
 ·
  have:(k + 1) * sz≤idx * sz:=yaj _ h
  rw [yaI] at this; omega
 ·
  have:(idx + 1) * sz≤k * sz:=yaj _ h
  rw [yaI] at this; omega
theorem zqV (hr : HR x C H w) {p q : PV} {v u : Value} {n : Nat} {t : TypeId} {vs : List PV} {H' : List AObj} (hp : RepV (zu x C H w) w C p v) (hq : RepV (zu x C H w) w C q u) (hn : zaO P t = some n)
    (hvs:q.cells? = some vs) (hl:vs.length=n) (h:zxi H p vs=some H'):Zr x C H w (((do Instr.storeAt t v u; pure .skip):Sem Next).run P w) .undef H':=by
  obtain ⟨hul,huc⟩:=hq.cells hvs
  subst hl
  cases p <;> simp only [zxi] at h <;> try (cases h; done)
  case ptr id off =>
    split at h <;> try (cases h; done)
    rename_i cells hid
    split at h <;> try (cases h; done)
    rename_i hle
    cases h
    obtain ⟨rfl,hi⟩:=hp.ptr_inv
    obtain ⟨arr,T,h1,h2,h3⟩:=hr.obj id _ hid
    have hrun:=zk8 (P:=P) t (C.blk id) off u (by rw [hul]; exact hn) h1 (by rw [hul,h2]; exact hle) (fun j y hy=>by
      have hj:j < vs.length:=by rw [← hul]; exact (yab.1 hy).1
      exact (huc j vs[j] y (by simp [hj]) hy).1)
    obtain ⟨cs',g1,g2,g3⟩:=zb0 (C.blk id) u.cells.toList off w arr h1 (by rw [hul,h2]; exact hle)
    obtain ⟨k1,k2⟩:=hr.change (C':=C) hid (ob' := .box (zfd cells off vs)) (zdk (C.blk id) u.cells.toList off w (by rfl)) rfl (fun _=>rfl) (fun _ _=>⟨rfl,rfl⟩) (.inl ⟨rfl,rfl⟩)
      (fun b o _ hf=>hf) (fun b o hb hf=>(hf hb).elim) (fun b hb => .inl hb)
      (fun hm _=>⟨cs',T,g1,by rw [g2,h2,zdL hle],fun j q y a b=>by
        rw [zhj hle] at a
        rw [g3 j,hul] at b
        split at a
        · rename_i hc
          rw [if_pos hc] at b
          exact ⟨(huc _ _ _ a b).1,hm _ _ (huc _ _ _ a b).2⟩
        · rename_i hc
          rw [if_neg hc] at b
          exact ⟨(h3 _ _ _ a b).1,hm _ _ (h3 _ _ _ a b).2⟩⟩) (hfz:=fun b hb _=>by rw [show b=C.blk id from hb]; exact .of g1)
    exact ⟨Go.undef,_,C,.inr ⟨hrun,rfl⟩,k1,k2,.undef⟩
  case aptr id ver sz idx off =>
    split at h <;> try (cases h; done)
    rename_i v' ipu T sz' rows hid
    split at h <;> try (cases h; done)
    rename_i hvs'
    obtain ⟨rfl,rfl⟩:=hvs'
    split at h <;> try (cases h; done)
    rename_i row hrow
    split at h <;> try (cases h; done)
    rename_i hle
    obtain ⟨hle,hpu⟩:=hle
    cases h
    obtain ⟨h1,h2,h3,xs,h4,h5⟩:=hr.obj id _ hid
    obtain ⟨g,m,c,hsv,rfl,hi⟩:=hp.aptr_inv h1
    have hlr:=h3 row (yaf hrow)
    have hidx:idx < rows.length:=(yab.1 hrow).1
    rcases h4.2 with ⟨e1,-⟩ | ⟨g',cap,cur,e1,-,e2,e3,e4,e5,e6⟩
    · rw [e1] at hsv; cases hsv
    rw [e1] at hsv
    obtain rfl:g'=g:=by simpa using congrArg (fun v=>match v with | .slice (some a) _ _=>a.block | _=>0) hsv
    have hxl:=h4.1
    have hrl:(idx + 1) * sz'≤rows.length * sz':=yaj _ hidx
    have hcl:rows.length * sz'≤cap * sz':=yaj _ e3
    rw [yaI] at hrl
    have hfit:idx * sz' + off + u.cells.toList.length≤cur.size:=by rw [hul,e5]; omega
    have hrun:=zk8 (P:=P) t g' (idx * sz' + off) u (by rw [hul]; exact hn) e2 hfit (fun j y hy=>by
      have hj:j < vs.length:=by rw [← hul]; exact (yab.1 hy).1
      exact (huc j vs[j] y (by simp [hj]) hy).1)
    obtain ⟨cs',g1,g2,g3⟩:=zb0 g' u.cells.toList (idx * sz' + off) w cur e2 hfit
    have hown:(C.sv id).ownBlock=some g':=by rw [e1]; rfl
    have hnl:(if ipu=true then vs else vs.map (frz H)).length=vs.length:=by split <;> simp
    have hlen':∀ r:List PV,r.length=vs.length→(zfd row off r).length=sz':=fun r hr'=>by rw [zdL (by omega),hlr]
    have hxs':(cs'.toList.take (rows.length * sz')).length=rows.length * sz':=by
      have hcs:cs'.toList.length=cs'.size:=yb2
      rw [yaz,hcs,g2,e5]; omega
    obtain ⟨k1,k2⟩:=hr.change (C':=C) hid (ob' := .arr v' true ipu T sz' (rows.set idx (zfd row off (if ipu then vs else vs.map (frz H))))) (zdk g' u.cells.toList _ w hown) rfl (fun _=>rfl) (fun _ _=>⟨rfl,rfl⟩) (.inl ⟨rfl,rfl⟩)
      (fun b o _ hf hb=>by have:=hf hb; simp at this) (fun b o hb hf=>by have:=hf hb; simp at this) (fun b hb => .inl hb)
      (fun hm hmp => ⟨h1, h2, fun r hr' => by
          rcases List.mem_or_eq_of_mem_set hr' with h | h
          · exact h3 r h
          · rw [h]; exact hlen' _ hnl,(cs'.toList.take (rows.length * sz')),⟨hxs'.trans (by rw [ybD]),.inr ⟨g',cap,cs',by rw [e1,ybD],by omega,g1,by rw [ybD]; exact e3,e4,by rw [g2,e5],by rw [ybD]⟩⟩,
          fun k r j q y a b c=>by
            have hk:k < rows.length:=by have:=(yab.1 a).1; simpa using this
            have hr3:r.length=sz':=by
              rcases List.mem_or_eq_of_mem_set (yaf a) with h | h
              · exact h3 r h
              · rw [h]; exact hlen' _ hnl
            have hj:j < sz':=by rw [← hr3]; exact (yab.1 b).1
            have hkl:k * sz' + j < rows.length * sz':=by
              have:(k + 1) * sz'≤rows.length * sz':=yaj _ hk
              rw [yaI] at this; omega
            rw [yaK,if_pos hkl,yaV,g3,hul] at c
            by_cases e:k=idx
            · subst e
              rw [ya9 hidx] at a
              cases a
              rw [zhj (by rw [hnl]; exact hle)] at b
              by_cases hin:off≤j∧j < off + vs.length
              · rw [if_pos (by omega),show k * sz' + j - (k * sz' + off)=j - off by omega] at c
                rw [if_pos (by rw [hnl]; exact hin)] at b
                cases ipu with
                | true =>
                  simp only [if_true] at b ⊢
                  exact ⟨(huc _ _ _ b c).1,hm _ _ (huc _ _ _ b c).2⟩
                | false =>
                  simp only [yap,if_false] at b ⊢
                  have:=zk9 hr huc (by simpa using hpu) _ _ _ b c
                  exact ⟨this.1,hmp _ _ this.2⟩
              · rw [if_neg (by omega)] at c
                rw [if_neg (by rw [hnl]; exact hin)] at b
                have hx:xs[k * sz' + j]? = some y:=by rw [← e6,yaK,if_pos hkl,yaV]; exact c
                have:=h5 k row j q y hrow b hx
                exact ⟨this.1,by cases ipu <;> simp at this ⊢ <;> first | exact hm _ _ this.2 | exact hmp _ _ this.2⟩
            · rw [ybl (Ne.symm e)] at a
              rw [if_neg (zla e hj (by omega))] at c
              have hx:xs[k * sz' + j]? = some y:=by rw [← e6,yaK,if_pos hkl,yaV]; exact c
              have:=h5 k r j q y a b hx
              exact ⟨this.1,by cases ipu <;> simp at this ⊢ <;> first | exact hm _ _ this.2 | exact hmp _ _ this.2⟩⟩) (hfz:=fun b hb _=>by have e:=ybe (hown.symm.trans hb); subst e; exact .of g1)
    exact ⟨Go.undef,_,C,.inr ⟨hrun,rfl⟩,k1,k2,.undef⟩
end
section
variable {P:Program} (w:World)
theorem zi9 (t u ty e : TypeId) (i : TypeInfo) (z : Value) (size bytes : Nat) (ht : P.underlying t = some (.slice e)) (hu : P.underlying u = some .string ∨ ∃ e', P.underlying u = some (.slice e'))
    (hi:P.info? e=some i) (hz:i.zero=some z) (hsize:i.size=size) (hby:i.bytes=bytes) (hzs:z.cells.size=size) (hsz:0 < size)
    (v:Value) (n:Nat) (xs:List Value) (hown:w.ownsRow 0 e size v n xs)
    (X:Value) (m:Nat) (news:List Value) (hl:news.length=m * size) (hX:∀ w1,(Builtin.lenOf X).run P w1 = .ok m w1)
    (hfc:∀ w1:World,w1.heap=w.heap→(Builtin.firstCells size m X).run P w1 = .ok news.toArray w1) (h1:∀ u ∈ news,u.oneCell'=true)
    (h63:n + m≤maxLen) (hbytes:(n + m) * bytes≤140737488355328) :
    ∃ v' w',(Builtin.append_ #[t,u] ty #[v,X]).run P w = .ok v' w'∧w'.ownsRow 0 e size v' (n + m) (xs ++ news)∧w.grownBy w' v.ownBlock ∧
      (∀ b,v'.ownBlock=some b→v.ownBlock=some b∨w.heap.size≤b)∧(∀ g o,v.ownBlock=some g→o < n * size→w'.cell? ⟨g,o,none⟩=w.cell? ⟨g,o,none⟩)∧∀ g,v.ownBlock=some g→Unf w' g:=by
  subst hsize
  subst hby
  have hsmall:n + m≤9223372036854775807:=by simp only [maxLen] at h63; omega
  have h63':¬ (9223372036854775807 < ((n:Int) + (m:Int))):=by omega
  have hlen:(xs ++ news).length=(n + m) * i.size:=by rw [yaR,hown.1,hl,yaI]
  have hfd:=hfc w.drew rfl
  have hf0:=hfc w rfl
  have grown : ∀ (old : Nat), old < n + m → ∀ (row : Option Nat),
      (w.drew.alloc (.cells (xs.toArray ++ news.toArray ++ Builtin.zeroCells z.cells (grownCap w (n + m) old e - (n + m))) e)).ownsRow 0 e i.size
        (.slice (some ⟨w.heap.size,0,none⟩) (n + m) (grownCap w (n + m) old e)) (n + m) (xs ++ news) ∧
      w.grownBy (w.drew.alloc (.cells (xs.toArray ++ news.toArray ++ Builtin.zeroCells z.cells (grownCap w (n + m) old e - (n + m))) e)) row:=by
    intro old ho row
    have hge:=grownCap_ge w (n + m) old e
    have hcm:grownCap w (n + m) old e≤maxLen:=grownCap_le_maxLen w (n + m) old e h63
    refine ⟨⟨hlen,.inr ⟨w.heap.size,_,_,rfl,ybv _,heap_alloc_new w.drew _,hge,hcm,?_,?_⟩⟩,⟨rfl,rfl,rfl,by simp,fun k hk _=>heap_alloc_old w.drew _ hk⟩⟩
    · simp only [Array.size_append,yb9,size_zeroCells,hzs,hown.1,hl,← yaI]
      congr 1
      omega
    · simp only [Array.toList_append,ybb]
      rw [← ybb,← hlen]
      exact List.take_left
  rcases hown.2 with ⟨rfl,rfl⟩ | ⟨g,cap,cur,rfl,hbg,hg,hnc,hcm,hcs,htake⟩
  · have hx:xs = []:=yaH (by simpa using hown.1)
    subst hx
    by_cases hm:m=0
    · subst hm
      have hn:news = []:=yaH (by simpa using hl)
      subst hn
      refine ⟨.slice none 0 0,w,?_,ybL w 0 e i.size,⟨rfl,rfl,rfl,yag _,fun _ _ _=>rfl⟩,fun b hb=>(by cases hb),fun g o hg=>(by cases hg),fun g hg=>(by cases hg)⟩
      rcases hu with hu | ⟨e',hu⟩ <;> simp [Builtin.append_,run_underlying ht,run_underlying hu,sizeOf,typeInfo,hi,hX,hf0]
    · have hgr:=grown 0 (by omega) (Value.ownBlock (.slice none 0 0))
      simp only [yaF,yas,Array.empty_append] at hgr ⊢
      refine ⟨_,_,?_,hgr.1,hgr.2,fun b hb => .inr (by simp [Value.ownBlock] at hb; omega),fun g o hg=>(by cases hg),fun g hg=>(by cases hg)⟩
      have h48':¬ (281474976710656 < Builtin.nextslicecap m 0 * i.bytes):=by
        rw [nextslicecap_zero (by omega)]; have hb:=hbytes; simp only [yaF] at hb; omega
      have h63':¬ (9223372036854775807 < (m:Int)):=by omega
      rcases hu with hu | ⟨e',hu⟩ <;> simp [Builtin.append_,run_underlying ht,run_underlying hu,sizeOf,typeInfo,zeroValue,hi,hz,hX,hm,h63',h48',Question.forced,run_firstCells_none,hfd,newRow,grownCap]
  · by_cases hroom:n + m≤cap
    · have hfit:n * i.size + news.length≤cur.size:=by rw [hl,hcs,← yaI]; exact yaj _ hroom
      have hst:=run_storeCells_at P g (n * i.size) e news 0 cur w hg (by simpa using hfit) h1
      simp only [ybh] at hst
      refine ⟨_,_,?_,⟨hlen,.inr ⟨g,cap,_,rfl,hbg,setRow_heap w g cur (cur.toList.take (n * i.size) ++ news ++ cur.toList.drop (n * i.size + news.length)).toArray e _ hg,hroom,hcm,?_,?_⟩⟩,⟨rfl,rfl,rfl,by simp,fun k hk hk'=>setRow_other w g k _ (fun e=>hk' (by simp [Value.ownBlock,e]))⟩,fun b hb => .inl hb,fun g' o hg' ho=>?_,fun g' hg'=>?_⟩
      rotate_right
      · obtain rfl:g=g':=by simpa [Value.ownBlock] using hg'
        exact .of (setRow_heap w g cur (cur.toList.take (n * i.size) ++ news ++ cur.toList.drop (n * i.size + news.length)).toArray e _ hg)
      · rcases hu with hu | ⟨e',hu⟩ <;> simp [Builtin.append_,run_underlying ht,run_underlying hu,sizeOf,typeInfo,hi,hX,hroom,hf0,Addr.add_lit,hst]
      · simp only [yb9,yaR,yaz,ybQ,yb2]
        omega
      · rw [htake,← hlen]
        exact List.take_left
      · obtain rfl:g=g':=by simpa [Value.ownBlock] using hg'
        have hcap:n * i.size≤cap * i.size:=yaj _ hnc
        rw [ZG hg,ZG (setRow_heap w g cur (cur.toList.take (n * i.size) ++ news ++ cur.toList.drop (n * i.size + news.length)).toArray e _ hg)]
        simp only [ybb,List.getElem?_toArray]
        rw [yaC (by simp; omega),yaK,if_pos ho,yaV]
    · have holds:∀ j u,xs[j]? = some u→w.cell? ((⟨g,0,none⟩:Addr).add j)=some u:=hown.cells (g:=g) rfl
      have hgr:=grown cap (by omega) (Value.ownBlock (.slice (some ⟨g,0,none⟩) n cap))
      have hfo:=run_firstCells_some (P:=P) w.drew i.size n ⟨g,0,none⟩ n cap xs hown.1 (by simpa using holds)
      have h48':¬ (281474976710656 < Builtin.nextslicecap (n + m) cap * i.bytes):=by have:=growslice_fits (bytes:=i.bytes) (need:=n + m) (old:=cap) (by omega) hbytes; omega
      refine ⟨_,_,?_,hgr.1,hgr.2,fun b hb => .inr (by simp [Value.ownBlock] at hb; omega),fun g' o hg' _=>?_,fun g' hg'=>?_⟩
      rotate_left
      · obtain rfl:g=g':=by simpa [Value.ownBlock] using hg'
        have hlt:g < w.heap.size:=by
          rcases Nat.lt_or_ge g w.heap.size with h | h
          · exact h
          · rw [ybV h] at hg; cases hg
        exact zbb (heap_alloc_old w.drew _ hlt)
      · obtain rfl:g=g':=by simpa [Value.ownBlock] using hg'
        have hlt:g < w.heap.size:=by
          rcases Nat.lt_or_ge g w.heap.size with h | h
          · exact h
          · rw [ybV h] at hg; cases hg
        exact .of ((heap_alloc_old w.drew _ hlt).trans hg)
      have e3:∀ (a b:List Value) (c:Array Value),a.toArray ++ (b.toArray ++ c)=(a ++ b).toArray ++ c:=fun a b c=>by rw [← Array.append_assoc]; exact congrArg (· ++ c) (List.append_toArray a b)
      rcases hu with hu | ⟨e',hu⟩ <;> simp [Builtin.append_,run_underlying ht,run_underlying hu,sizeOf,typeInfo,zeroValue,hi,hz,hX,hroom,h63',h48',Question.forced,hfd,hfo,newRow,grownCap] <;> rw [e3]
end
section
variable {P:Program} {x:Cx} {C:Conc} {H:List AObj} {w:World}
theorem zmS (s:ByteArray):s.extract 0 s.data.size=s:=by
 exact ByteArray.extract_zero_size
theorem zjV {sz k j:Nat} (hj:j < sz):(k * sz + j) / sz=k∧(k * sz + j) % sz=j:=by
 rw [ybW]
 exact ⟨by rw [Nat.mul_add_div (by omega),Nat.div_eq_of_lt hj]; omega,by rw [Nat.mul_add_mod,Nat.mod_eq_of_lt hj]⟩
theorem zqW (hr : HR x C H w) {y : PV} {v : Value} {sz : Nat} {pu : Bool} {ys : List (List PV)} (hp : RepV (zu x C H w) w C y v) (hy : zch H sz y = some (pu, ys)) (hsz : 0 < sz) (hrows : ∀ row ∈ ys, row.length = sz) :
    ∃ news:List Value,news.length=ys.length * sz∧(∀ w1,(Builtin.lenOf v).run P w1 = .ok ys.length w1)∧(∀ w1:World,w1.heap=w.heap→(Builtin.firstCells sz ys.length v).run P w1 = .ok news.toArray w1) ∧
      ∀ (k:Nat) row (j:Nat) p u,ys[k]? = some row→row[j]? = some p→news[k * sz + j]? = some u→u.oneCell'=true∧RepV (zu x C H w) w C p u∧(pu=true→RepP (zu x C H w) w p u):=by
  have cellw:∀ w1:World,w1.heap=w.heap→∀ a,w1.cell? a=w.cell? a:=fun w1 h a=>by unfold World.cell?; rw [h]
  have look : ∀ (a : Option Addr) (c sz' : Nat) (f : Nat → Nat → Value), (∀ row ∈ ys, row.length = sz') →
      (∀ k row j p,ys[k]? = some row→row[j]? = some p→∃ b o,a=some ⟨b,o,none⟩∧w.cell? ⟨b,o + k * sz' + j,none⟩=some (f k j)) →
      ∀ w1:World,w1.heap=w.heap→(Builtin.firstCells sz ys.length (.slice a ys.length c)).run P w1 = .ok ((List.range (ys.length * sz)).map fun i=>f (i / sz) (i % sz)).toArray w1:=by
    intro a c sz' f hz hl w1 hw1
    cases ys with
    | nil=>cases a <;> simp [Builtin.firstCells,loadCells,loadCellsFrom]
    | cons row0 rest =>
      obtain rfl:sz'=sz:=(hz row0 (by simp)).symm.trans (hrows row0 (by simp))
      have h0:=hz row0 (by simp)
      obtain ⟨b,o,rfl,-⟩:=hl 0 row0 0 (row0[0]'(by omega)) (by simp) (yac (by omega))
      have:=run_firstCells_some (P:=P) w1 sz' (row0 :: rest).length ⟨b,o,none⟩ (row0 :: rest).length c ((List.range ((row0 :: rest).length * sz')).map fun i=>f (i / sz') (i % sz')) (by simp) (fun i u hu=>by
        have hi:i < (row0 :: rest).length * sz':=by have:=(yab.1 hu).1; simpa using this
        have hk:i / sz' < (row0 :: rest).length:=(Nat.div_lt_iff_lt_mul hsz).2 hi
        have hj:i % sz' < sz':=Nat.mod_lt _ hsz
        have hlr:=hz _ (yaw hk)
        obtain ⟨b',o',e1,e2⟩:=hl (i / sz') _ (i % sz') ((row0 :: rest)[i / sz'][i % sz']'(by omega)) (yac hk) (yac (by omega))
        obtain ⟨rfl,rfl⟩:b=b'∧o=o':=by simpa using e1
        rw [yav,ya0 hi] at hu
        obtain rfl:f (i / sz') (i % sz')=u:=by simpa using hu
        rw [zef,cellw w1 hw1,← e2,ybc,Nat.div_add_mod'])
      exact this
  have flat:∀ (f:Nat→Nat→Value) (k:Nat) row (j:Nat) p u,ys[k]? = some row→row[j]? = some p→((List.range (ys.length * sz)).map fun i=>f (i / sz) (i % sz))[k * sz + j]? = some u→u=f k j:=by
    intro f k row j p u a b c
    have hj:j < sz:=by rw [← hrows row (yaf a)]; exact (yab.1 b).1
    have hlt:=(yab.1 c).1
    simp only [yah,List.length_range] at hlt
    obtain ⟨e1,e2⟩:=zjV (k:=k) hj
    rw [yav,ya0 hlt] at c
    simp only [yaM,yae,e1,e2] at c
    exact c.symm
  have ofList : ∀ rows : List (List PV), RepP (zu x C H w) w (.list rows) v → ys = rows → ∃ news : List Value, news.length = ys.length * sz ∧ (∀ w1, (Builtin.lenOf v).run P w1 = .ok ys.length w1) ∧ (∀ w1 : World, w1.heap = w.heap → (Builtin.firstCells sz ys.length v).run P w1 = .ok news.toArray w1) ∧
      ∀ (k:Nat) row (j:Nat) p u,ys[k]? = some row→row[j]? = some p→news[k * sz + j]? = some u→u.oneCell'=true∧RepV (zu x C H w) w C p u∧(pu=true→RepP (zu x C H w) w p u):=by
    intro rows h e
    subst e
    cases h with
    | list rows a c sz' f hc hm hsz' hz hl h =>
      refine ⟨(List.range (ys.length * sz)).map fun i=>f (i / sz) (i % sz),by simp,fun w1=>rfl,look a c sz' f hz (fun k row j p e1 e2=>?_),fun k row j p u e1 e2 e3=>?_⟩
      · obtain ⟨b,o,g1,-,g2⟩:=hl k row j p e1 e2
        exact ⟨b,o,g1,g2⟩
      · obtain rfl:=flat f k row j p u e1 e2 e3
        exact ⟨(h k row j p e1 e2).one,.pure (h k row j p e1 e2),fun _=>h k row j p e1 e2⟩
  cases y <;> simp only [zch,zcC,Option.map_none,yaM,yae,ybd,reduceCtorEq] at hy <;> try (exact hy.elim)
  case str s =>
    split at hy <;> try (cases hy; done)
    rename_i h1
    subst h1
    simp only [yae,ybd] at hy
    obtain ⟨rfl,rfl⟩:=hy
    obtain rfl:=hp.str_inv
    refine ⟨s.data.toList.map fun b => .int .u8 b.toNat,by simp,fun w1=>?_,fun w1 _=>?_,fun k row j p u e1 e2 e3=>?_⟩
    · simp [Builtin.lenOf]
    · simp only [Builtin.firstCells]
      rw [yay]
      have e:s.extract 0 (s.data.toList.map fun b:UInt8 => [PV.int .u8 b.toNat]).length=s:=by
        rw [yah,yb2]; exact zmS s
      rw [e]
      congr 1
      apply Array.ext'
      simp
    · rw [yav] at e1
      obtain ⟨c,g1,rfl⟩:=yad.1 e1
      have hj:j=0:=by have:=(yab.1 e2).1; simpa using this
      subst hj
      simp only [ya8,yae] at e2
      subst e2
      simp only [Nat.mul_one,ybh,yav,g1,yaM,yae] at e3
      subst e3
      exact ⟨rfl,.pure (.int _ _),fun _ => .int _ _⟩
  case nilsl =>
    obtain ⟨rfl,rfl⟩:=hy
    obtain rfl:=hp.nilsl_inv
    exact ⟨[],by simp,fun w1=>rfl,fun w1 _=>by simp [Builtin.firstCells],fun k row j p u e1=>by simp at e1⟩
  case list rows =>
    obtain ⟨rfl,rfl⟩:=hy
    exact ofList _ hp.list_inv rfl
  case vlist rows =>
    obtain ⟨rfl,rfl⟩:=hy
    cases hp with
    | pure h=>cases h
    | vlist rows a c sz' f hc hm hsz' hz hl h =>
      refine ⟨(List.range (rows.length * sz)).map fun i=>f (i / sz) (i % sz),by simp,fun w1=>rfl,look a c sz' f hz (fun k row j p e1 e2=>?_),fun k row j p u e1 e2 e3=>?_⟩
      · obtain ⟨-,b,o,g1,-,g2⟩:=hl k row j p e1 e2
        exact ⟨b,o,g1,g2⟩
      · obtain rfl:=flat f k row j p u e1 e2 e3
        exact ⟨(hl k row j p e1 e2).1,h k row j p e1 e2,fun h=>by cases h⟩
  case arr id ver =>
    split at hy <;> try (simp at hy; done)
    rename_i v' st T sz' rows hid
    split at hy <;> try (simp at hy; done)
    rename_i hv
    subst hv
    simp only [yaM,yae,ybd] at hy
    obtain ⟨rfl,rfl⟩:=hy
    obtain ⟨h1,h2,h3,xs,h4,h5⟩:=hr.obj id _ hid
    obtain ⟨rfl,hi⟩:=hp.arr_inv h1
    rcases h4.2 with ⟨e1,e2⟩ | ⟨g,cap,cur,e1,-,e2,e3,e4,e5,e6⟩
    · have:rows = []:=yaH e2
      subst this
      rw [e1]
      exact ⟨[],by simp,fun w1=>rfl,fun w1 _=>by simp [Builtin.firstCells],fun k row j p u e1=>by simp at e1⟩
    · rw [e1]
      have key:∀ (k:Nat) row (j:Nat) p,rows[k]? = some row→row[j]? = some p→k * sz' + j < rows.length * sz'∧xs[k * sz' + j]? = some (xs.getD (k * sz' + j) Go.undef):=by
        intro k row j p a b
        have hk:k < rows.length:=(yab.1 a).1
        have hj:j < sz':=by rw [← h3 row (yaf a)]; exact (yab.1 b).1
        have hlt:k * sz' + j < rows.length * sz':=by
          have:(k + 1) * sz'≤rows.length * sz':=yaj _ hk
          rw [yaI] at this; omega
        exact ⟨hlt,by simp [List.getD,yac (show k * sz' + j < xs.length by rw [h4.1]; exact hlt)]⟩
      refine ⟨(List.range (rows.length * sz)).map fun i=>xs.getD ((i / sz) * sz' + (i % sz)) Go.undef,by simp,fun w1=>rfl,look _ cap sz' (fun k j=>xs.getD (k * sz' + j) Go.undef) h3 (fun k row j p a b=>⟨g,0,rfl,?_⟩),fun k row j p u a b c=>?_⟩
      · rw [ZG e2,← yaV,yaF,← (key k row j p a b).2,← e6,yaK,if_pos (key k row j p a b).1]
      · obtain rfl:=flat (fun k j=>xs.getD (k * sz' + j) Go.undef) k row j p u a b c
        have:=h5 k row j p _ a b (key k row j p a b).2
        simp only [yap,if_false] at this
        exact ⟨this.1,.pure this.2,fun _=>this.2⟩
end
section
variable {P:Program} {x:Cx} {C:Conc} {H:List AObj} {w:World}
theorem zeF {pu:Bool} {ys:List (List PV)}:(zac H pu ys).length=ys.length:=by unfold zac; split <;> simp
theorem zeP {pu:Bool} {ys:List (List PV)} {sz:Nat} (h:∀ row ∈ ys,row.length=sz):∀ row ∈ zac H pu ys,row.length=sz:=by
 unfold zac
 split
 ·
  exact h
 ·
  intro row hr
  obtain ⟨r,h1,rfl⟩:=yaG.1 hr
  rw [yah]; exact h r h1
theorem zhk (hr : HR x C H w) {pu : Bool} {ys : List (List PV)} (hp : zbZ H pu ys = true) {k j : Nat} {row : List PV} {p : PV} {u : Value} (hk : (zac H pu ys)[k]? = some row) (hj : row[j]? = some p)
    (h:∀ row0 p0,ys[k]? = some row0→row0[j]? = some p0→u.oneCell'=true∧RepV (zu x C H w) w C p0 u∧(pu=true→RepP (zu x C H w) w p0 u)):u.oneCell'=true∧RepP (zu x C H w) w p u:=by
  cases pu with
  | true =>
    simp only [zac,if_true] at hk
    exact ⟨(h row p hk hj).1,(h row p hk hj).2.2 rfl⟩
  | false =>
    simp only [zac,yap,if_false,yav] at hk
    obtain ⟨r0,h1,rfl⟩:=yad.1 hk
    rw [yav] at hj
    obtain ⟨p0,h2,rfl⟩:=yad.1 hj
    obtain ⟨h3,h4,-⟩:=h r0 p0 h1 h2
    refine ⟨h3,(zjU hr h4).pureOf ?_⟩
    simp only [zbZ,Bool.false_or] at hp
    have h5:=yar.1 hp _ (yaG.2 ⟨r0,yaf h1,rfl⟩)
    exact yar.1 h5 _ (yaG.2 ⟨p0,yaf h2,rfl⟩)
theorem zpr (hr : HR x C H w) {px py : PV} {v u : Value} (hp : RepV (zu x C H w) w C px v) (hq : RepV (zu x C H w) w C py u) {t t2 ty e : TypeId} {i : TypeInfo} {z : Value}
    (ht:P.underlying t=some (.slice e)) (hu:P.underlying t2=some .string∨∃ e',P.underlying t2=some (.slice e')) (hi:P.info? e=some i) (hz:i.zero=some z)
    (hzs:z.cells.size=i.size) (hsz:0 < i.size) (hby:0 < i.bytes) {r:PV} {H':List AObj} (h:Z4 H e i.size i.bytes px py=some (r,H')) :
    Zr x C H w (((do let v ← Builtin.append_ #[t,t2] ty #[v,u]; pure (.value v)):Sem Next).run P w) r H':=by
  have lim:∀ n:Nat,n * i.bytes≤140737488355328→n≤maxLen:=by
    intro n hn
    have:n * 1≤n * i.bytes:=Nat.mul_le_mul_left _ hby
    unfold maxLen; omega
  unfold Z4 at h
  split at h <;> try (cases h; done)
  rename_i pu ys hy
  split at h <;> try (cases h; done)
  · -- a new array
    split at h <;> try (cases h; done)
    rename_i hc
    obtain ⟨hc1,hc2,hc3⟩:=hc
    cases h
    obtain rfl:=hp.nilsl_inv
    obtain ⟨news,hn1,hn2,hn3,hn4⟩:=zqW (P:=P) hr hq hy hsz hc1
    have h1:∀ q ∈ news,q.oneCell'=true:=by
      intro q hq
      obtain ⟨m,hm,e1⟩:=yaq hq
      have hk:m / i.size < ys.length:=(Nat.div_lt_iff_lt_mul hsz).2 (by omega)
      have hj:m % i.size < i.size:=Nat.mod_lt _ hsz
      exact (hn4 (m / i.size) ys[m / i.size] (m % i.size) (ys[m / i.size][m % i.size]'(by rw [hc1 _ (yaw hk)]; exact hj)) q (yac hk) (yac _)
        (by rw [Nat.div_add_mod',yac hm,e1])).1
    obtain ⟨v',w',hrun,hown,hg,hnew,-⟩:=zi9 (P:=P) w t t2 ty e i z i.size i.bytes ht hu hi hz rfl rfl hzs hsz (.slice none 0 0) 0 [] (ybL w 0 e i.size) u ys.length news hn1 hn2 hn3 h1
      (by rw [yaF]; exact lim _ hc2) (by rw [yaF]; exact hc2)
    simp only [yaF,yas] at hown
    have hst:Step w w' fun _=>False:=⟨hg.size,hg.os,hg.tape,hg.output,fun b hb _=>hg.block b hb (by simp [Value.ownBlock])⟩
    let C':Conc:=⟨C.n + 1,C.blk,fun k=>if k=C.n then v' else C.sv k,fun k=>if k=C.n then 0 else C.ver k,C.old⟩
    have e1:C'.sv H.length=v':=by show (if H.length=C.n then _ else _)=_; rw [if_pos hr.n.symm]
    have e2:C'.ver H.length=0:=by show (if H.length=C.n then _ else _)=_; rw [if_pos hr.n.symm]
    obtain ⟨k1,k2⟩:=hr.push (C':=C') (ob' := .arr 0 true false e i.size (zac H pu ys)) hst rfl (fun _ _=>rfl) (fun k hk=>by show (if k=C.n then _ else _)=_; rw [if_neg (by omega)])
      (fun k hk=>by show (if k=C.n then _ else _)=_; rw [if_neg (by omega)])
      (fun b hb=>by
        have hb':v'.ownBlock=some b:=by rw [← e1]; exact hb
        rcases hnew b hb' with h | h
        · cases h
        · exact h)
      (fun hm hmp=>⟨e2,hsz,zeP hc1,news,by rw [e1,zeF]; exact hown,fun k row j p q a b c=>by
        have:=zhk hr hc3 a b (fun row0 p0 a0 b0=>hn4 k row0 j p0 q a0 b0 c)
        exact ⟨this.1,by simpa using hmp _ _ this.2⟩⟩)
    refine ⟨v',w',C',.inl (by rw [yal,hrun]; simp),k1,k2,?_⟩
    have:=RepV.arr (S:=zu x C' (H ++ [.arr 0 true false e i.size (zac H pu ys)]) w') (w:=w') (C:=C') H.length (by show H.length < C.n + 1; rw [hr.n]; omega) (by
      rw [e1]
      rcases hown.2 with ⟨g,-⟩ | ⟨g,cap,cur,g1,-⟩
      · rw [g]; rfl
      · rw [g1]; rfl)
    rw [e1,e2] at this
    exact this
  · -- zf1 of an array
    rename_i id ver
    split at h <;> try (cases h; done)
    rename_i v0 st ipu T' sz' rows hid
    split at h <;> try (cases h; done)
    rename_i hc
    obtain ⟨rfl,rfl,rfl,hc1,hc2,hc3⟩:=hc
    cases h
    obtain ⟨o1,o2,o3,xs,o4,o5⟩:=hr.obj id _ hid
    obtain ⟨rfl,hin⟩:=hp.arr_inv o1
    obtain ⟨news,hn1,hn2,hn3,hn4⟩:=zqW (P:=P) hr hq hy hsz hc1
    have h1:∀ q ∈ news,q.oneCell'=true:=by
      intro q hq
      obtain ⟨m,hm,e1⟩:=yaq hq
      have hk:m / i.size < ys.length:=(Nat.div_lt_iff_lt_mul hsz).2 (by omega)
      have hj:m % i.size < i.size:=Nat.mod_lt _ hsz
      exact (hn4 (m / i.size) ys[m / i.size] (m % i.size) (ys[m / i.size][m % i.size]'(by rw [hc1 _ (yaw hk)]; exact hj)) q (yac hk) (yac _)
        (by rw [Nat.div_add_mod',yac hm,e1])).1
    obtain ⟨v',w',hrun,hown,hg,hnew,hkeep,hunf⟩:=zi9 (P:=P) w t t2 ty T' i z i.size i.bytes ht hu hi hz rfl rfl hzs hsz (C.sv id) rows.length xs o4 u ys.length news hn1 hn2 hn3 h1 (lim _ hc2) hc2
    have hst:Step w w' ((AObj.arr v0 st ipu T' i.size rows).holds C id):=⟨hg.size,hg.os,hg.tape,hg.output,fun b hb hnb=>hg.block b hb (fun e=>hnb e.symm)⟩
    let C':Conc:=⟨C.n,C.blk,fun k=>if k=id then v' else C.sv k,fun k=>if k=id then v0 + 1 else C.ver k,C.old⟩
    have e1:C'.sv id=v':=by show (if id=id then _ else _)=_; rw [if_pos rfl]
    have e2:C'.ver id=v0 + 1:=by show (if id=id then _ else _)=_; rw [if_pos rfl]
    have hlen:(rows ++ if ipu=true then ys else zac H pu ys).length=rows.length + ys.length:=by
      rw [yaR]; congr 1; split
      · rfl
      · exact zeF
    have hle:rows.length * i.size≤(rows.length + ys.length) * i.size:=yaj _ (by omega)
    obtain ⟨k1,k2⟩:=hr.change (C':=C') hid (ob' := .arr (v0 + 1) st ipu T' i.size (rows ++ if ipu=true then ys else zac H pu ys)) hst rfl (fun _=>rfl)
      (fun k hk=>⟨by show (if k=id then _ else _)=_; rw [if_neg hk],by show (if k=id then _ else _)=_; rw [if_neg hk]⟩) (.inr (by rw [e2,o1]; omega))
      (fun b o hb hf hb'=>by
        rw [e1] at hb'
        rcases hnew b hb' with g | g
        · obtain ⟨f1,f2,f3⟩:=hf g
          exact ⟨f1,f2,by rw [hlen]; omega⟩
        · omega)
      (fun b o hb hf=>hkeep b o hb (hf hb).2.2)
      (fun b hb=>hnew b (by rw [← e1]; exact hb))
      (fun hm hmp => ⟨e2, o2, fun row hrow => by
          rcases yai.1 hrow with g | g
          · exact o3 row g
          · cases ipu with
            | true=>exact hc1 row g
            | false=>exact zeP hc1 row g,
        xs ++ news,by rw [e1,hlen]; exact hown,fun k row j p q a b c=>by
          have hxl:=o4.1
          have hj:j < i.size:=by
            have hrl:row.length=i.size:=by
              rcases yai.1 (yaf a) with g | g
              · exact o3 row g
              · cases ipu with
                | true=>exact hc1 row g
                | false=>exact zeP hc1 row g
            rw [← hrl]; exact (yab.1 b).1
          by_cases hk:k < rows.length
          · rw [yaC hk] at a
            have hlt:k * i.size + j < xs.length:=by
              rw [hxl]
              have:(k + 1) * i.size≤rows.length * i.size:=yaj _ hk
              rw [yaI] at this; omega
            rw [yaC hlt] at c
            have:=o5 k row j p q a b c
            exact ⟨this.1,by cases ipu <;> simp at this ⊢ <;> first | exact hm _ _ this.2 | exact hmp _ _ this.2⟩
          · rw [yaL (by omega)] at a
            have hge:xs.length≤k * i.size + j:=by
              rw [hxl]
              have:rows.length * i.size≤k * i.size:=yaj _ (by omega)
              omega
            rw [yaL hge] at c
            have hidx:k * i.size + j - xs.length=(k - rows.length) * i.size + j:=by
              rw [hxl,Nat.sub_mul]
              have:rows.length * i.size≤k * i.size:=yaj _ (by omega)
              omega
            rw [hidx] at c
            cases ipu with
            | true =>
              simp only [if_true] at a ⊢
              have:=hn4 _ row j p q a b c
              exact ⟨this.1,hm _ _ this.2.1⟩
            | false =>
              simp only [yap,if_false] at a ⊢
              have:=zhk hr (by simpa using hc3) a b (fun row0 p0 a0 b0=>hn4 _ row0 j p0 q a0 b0 c)
              exact ⟨this.1,hmp _ _ this.2⟩⟩) (hfz:=fun b hb _=>hunf b hb)
    refine ⟨v',w',C',.inl (by rw [yal,hrun]; simp),k1,k2,?_⟩
    have:=RepV.arr (S:=zu x C' (H.set id (.arr (v0 + 1) st ipu T' i.size (rows ++ if ipu=true then ys else zac H pu ys))) w') (w:=w') (C:=C') id hin (by
      rw [e1]
      rcases hown.2 with ⟨g,-⟩ | ⟨g,cap,cur,g1,-⟩
      · rw [g]; rfl
      · rw [g1]; rfl)
    rw [e1,e2] at this
    exact this
end
theorem ZH {P:Program} {w w':World} {s:Sem Value} {v:Value} (h:s.run P w = .ok v w'):((do let a ← s; pure (.value a)):Sem Next).run P w = .ok (.value v) w':=by
 rw [yal,h]; simp
section
variable {P:Program} (w:World)
theorem zjW (op:BinOp) (t:TypeId) (X Y:Operand) (a b:Value) (h:a.oneCell'=true) (h2:(match a with | .nilIface=>false | _=>true)=true):(eqGuard op t X Y a b).run P w = .ok () w:=by
 cases a <;> first | (cases op <;> simp [eqGuard]; done) | (simp [Value.oneCell'] at h; done) | (simp at h2; done)
theorem ifk {α:Type} {k:IntKind} {a b:Sem α}:(if k≠k then a else b)=b:=by simp
theorem zxj (t : TypeId) (k : IntKind) (a b : Int) :
    binOp .add t (.int k a) (.int k b)=pure (.int k (k.wrap (a + b)))∧binOp .sub t (.int k a) (.int k b)=pure (.int k (k.wrap (a - b)))∧binOp .mul t (.int k a) (.int k b)=pure (.int k (k.wrap (a * b))) ∧
    binOp .and t (.int k a) (.int k b)=pure (.int k (k.wrap (BitVec.ofInt k.bits a &&& BitVec.ofInt k.bits b).toNat)) ∧
    binOp .eql t (.int k a) (.int k b)=pure (.bool (a == b))∧binOp .neq t (.int k a) (.int k b)=pure (.bool (a != b))∧binOp .lss t (.int k a) (.int k b)=pure (.bool (a < b)) ∧
    binOp .leq t (.int k a) (.int k b)=pure (.bool (a≤b))∧binOp .gtr t (.int k a) (.int k b)=pure (.bool (a > b))∧binOp .geq t (.int k a) (.int k b)=pure (.bool (a ≥ b)):=by
  refine ⟨?_,?_,?_,?_,?_,?_,?_,?_,?_,?_⟩ <;> exact ifk
theorem zqX (t : TypeId) (k : IntKind) (a b : Int) (hb : b ≠ 0) :
    binOp .quo t (.int k a) (.int k b)=pure (.int k (k.wrap (a.tdiv b)))∧binOp .rem t (.int k a) (.int k b)=pure (.int k (a.tmod b)):=by
  refine ⟨?_,?_⟩ <;> exact ifk.trans (if_neg hb)
theorem zxk (t:TypeId) (k k':IntKind) (a b:Int) (hb:0≤b):binOp .shr t (.int k a) (.int k' b)=pure (.int k (a.fdiv (2 ^ min b.toNat k.bits))) :=
 if_neg (by omega)
theorem zaV {op : BinOp} {t : TypeId} {X Y : Operand} {u v vv : Value} (h1 : u.oneCell' = true) (h2 : (match u with | .nilIface => false | _ => true) = true) {r : Sem Value} (h : r.run P w = .ok vv w) :
    ((do eqGuard op t X Y u v; r):Sem Value).run P w = .ok vv w:=by
  rw [yal,zjW w op t X Y u v h1 h2]; exact h
theorem zmT (op : BinOp) (t : TypeId) {k k' : IntKind} {a b : Int} {r : PV} (h : ztD op (.int k a) (.int k' b) = some r) {S : Nat → Nat → Prop} {C : Conc} :
    ∃ vv,(binOp op t (.int k a) (.int k' b)).run P w = .ok vv w∧RepV S w C r vv:=by
  have key:k=k':=by
    cases op <;> simp only [ztD] at h <;> split at h <;> first | assumption | cases h
  subst key
  obtain ⟨e1,e2,e3,e4,e5,e6,e7,e8,e9,e10⟩:=zxj t k a b
  cases op <;> simp only [ztD,if_true] at h
  case add=>cases h; exact ⟨_,by rw [e1]; rfl,.pure (.int _ _)⟩
  case sub=>cases h; exact ⟨_,by rw [e2]; rfl,.pure (.int _ _)⟩
  case mul=>cases h; exact ⟨_,by rw [e3]; rfl,.pure (.int _ _)⟩
  case and=>cases h; exact ⟨_,by rw [e4]; rfl,.pure (.int _ _)⟩
  case eql=>cases h; exact ⟨_,by rw [e5]; rfl,by rw [show decide (a=b)=(a == b) from rfl]; exact .pure (.bool _)⟩
  case neq=>cases h; exact ⟨_,by rw [e6]; rfl,by rw [show (!decide (a=b))=(a != b) from rfl]; exact .pure (.bool _)⟩
  case lss=>cases h; exact ⟨_,by rw [e7]; rfl,.pure (.bool _)⟩
  case leq=>cases h; exact ⟨_,by rw [e8]; rfl,.pure (.bool _)⟩
  case gtr=>cases h; exact ⟨_,by rw [e9]; rfl,.pure (.bool _)⟩
  case geq=>cases h; exact ⟨_,by rw [e10]; rfl,.pure (.bool _)⟩
  case quo =>
    split at h <;> try (cases h; done)
    rename_i hb
    cases h; exact ⟨_,by rw [(zqX t k a b hb).1]; rfl,.pure (.int _ _)⟩
  case rem =>
    split at h <;> try (cases h; done)
    rename_i hb
    cases h; exact ⟨_,by rw [(zqX t k a b hb).2]; rfl,.pure (.int _ _)⟩
  case shr =>
    split at h <;> try (cases h; done)
    rename_i hb
    cases h; exact ⟨_,by rw [zxk t k k a b hb]; rfl,.pure (.int _ _)⟩
  all_goals cases h
theorem zjX (a b:ByteArray):(a.toList == b.toList)=decide (a=b):=by
 rw [ByteArray.toList_eq,ByteArray.toList_eq]
 by_cases h:a=b
 ·
  subst h; simp
 ·
  rw [decide_eq_false h]
  simp only [beq_eq_false_iff_ne,ne_eq]
  intro e
  apply h
  obtain ⟨⟨x⟩⟩:=a
  obtain ⟨⟨y⟩⟩:=b
  simp at e
  rw [e]
theorem zmU (op : BinOp) (t : TypeId) {a b : ByteArray} {r : PV} (h : ztD op (.str a) (.str b) = some r) {S : Nat → Nat → Prop} {C : Conc} :
    ∃ vv,(binOp op t (.string a) (.string b)).run P w = .ok vv w∧RepV S w C r vv:=by
  cases op <;> simp only [ztD,reduceCtorEq] at h
  case add =>
    split at h <;> try (cases h; done)
    rename_i hl
    cases h
    refine ⟨.string (a ++ b),?_,.pure (.str _)⟩
    show (Op.stringOp .add a b).run P w=_
    have:¬ (((a.size + b.size:Nat):Int) > IntKind.i64.max):=by simp [IntKind.max,IntKind.signed,IntKind.bits]; omega
    unfold Op.stringOp
    simp only [this,if_false]
    rfl
  case eql=>cases h; exact ⟨.bool (a.toList == b.toList),rfl,by rw [zjX]; exact .pure (.bool _)⟩
  case neq=>cases h; exact ⟨.bool (!(a.toList == b.toList)),rfl,by rw [zjX]; exact .pure (.bool _)⟩
  case leq=>cases h; exact ⟨.bool (leB a b),rfl,.pure (.bool _)⟩
theorem zlb (t : TypeId) {a b : Bool} (ht : P.underlying t = some .bool) (neg : Bool) (X Y : Operand) :
    ((do eqGuard (if neg then .neq else .eql) t X Y (.bool a) (.bool b); binOp (if neg then .neq else .eql) t (.bool a) (.bool b)):Sem Value).run P w = .ok (.bool (if neg then !decide (a=b) else decide (a=b))) w:=by
  have he:(Op.equal t (.bool a) (.bool b)).run P w = .ok (a == b) w:=run_equalIn_bool' w 9999 t a b ht
  have hd:(a == b)=decide (a=b):=by cases a <;> cases b <;> rfl
  rw [← hd]
  refine zaV w rfl rfl ?_
  cases neg
  · show ((do pure (.bool (← Op.equal t (.bool a) (.bool b))):Sem Value)).run P w=_
    rw [yal,he]; rfl
  · show ((do pure (.bool (!(← Op.equal t (.bool a) (.bool b)))):Sem Value)).run P w=_
    rw [yal,he]; rfl
theorem zxl (op : BinOp) (t : TypeId) {p q r : PV} (h : ztD op p q = some r) {S : Nat → Nat → Prop} {C : Conc} {u v : Value} (hp : RepV S w C p u) (hq : RepV S w C q v) (X Y : Operand) :
    ∃ vv,((do eqGuard op t X Y u v; binOp op t u v):Sem Value).run P w = .ok vv w∧RepV S w C r vv:=by
  have h0:=h
  cases p <;> cases q <;> simp only [ztD,reduceCtorEq] at h
  case int.int k a k' b =>
    obtain rfl:=hp.int_inv
    obtain rfl:=hq.int_inv
    obtain ⟨vv,h1,h2⟩:=zmT w op t h0 (P:=P) (S:=S) (C:=C)
    exact ⟨vv,zaV w rfl rfl h1,h2⟩
  case str.str a b =>
    obtain rfl:=hp.str_inv
    obtain rfl:=hq.str_inv
    obtain ⟨vv,h1,h2⟩:=zmU w op t h0 (P:=P) (S:=S) (C:=C)
    exact ⟨vv,zaV w rfl rfl h1,h2⟩
end
section
variable {P:Program} {x:Cx} {C:Conc} {H:List AObj} {w:World}
theorem zeg {t:TypeId} {k:FK} (h:zmQ P t=some k):(k = .b∧P.underlying t=some .bool)∨(k = .i∧∃ i,P.underlying t=some (.int i))∨(k = .s∧P.underlying t=some .string):=by
 unfold zmQ at h
 split at h <;> simp_all
 all_goals (subst h; simp)
theorem zja {t:TypeId} {k:FK} (h:zmQ P t=some k):(isAgg t).run P w = .ok false w:=zdK (by
 unfold zeD
 rcases zeg h with ⟨-,ht⟩ | ⟨-,i,ht⟩ | ⟨-,ht⟩ <;> rw [ht] <;> rfl)
theorem zzt {d : Nat} {t : TypeId} {k : FK} (hk : zmQ P t = some k) {p q : PV} {ks : List FK} {xs ys : List PV} {r : Bool} {S : Nat → Nat → Prop} {u v : Value} (h : Z0 (k :: ks) (p :: xs) (q :: ys) = some r)
    (hp:RepV S w C p u) (hq:RepV S w C q v):∃ b r',(Op.equalIn (d + 1) t u v).run P w = .ok b w∧Z0 ks xs ys=some r'∧r=(b && r'):=by
  cases k <;> cases p <;> cases q <;> simp only [Z0,reduceCtorEq] at h
  case b.bool.bool a b =>
    obtain rfl:=hp.bool_inv
    obtain rfl:=hq.bool_inv
    obtain ⟨r',h1,rfl⟩:=yad.1 h
    rcases zeg hk with ⟨-,ht⟩ | ⟨e,-⟩ | ⟨e,-⟩
    · exact ⟨_,_,run_equalIn_bool' w d t a b ht,h1,by cases a <;> cases b <;> rfl⟩
    · cases e
    · cases e
  case i.int.int k a k' b =>
    obtain rfl:=hp.int_inv
    obtain rfl:=hq.int_inv
    split at h <;> try (cases h; done)
    rename_i hkk
    subst hkk
    obtain ⟨r',h1,rfl⟩:=yad.1 h
    rcases zeg hk with ⟨e,-⟩ | ⟨-,i,ht⟩ | ⟨e,-⟩
    · cases e
    · exact ⟨_,_,run_equalIn_int w d t k i a b ht,h1,rfl⟩
    · cases e
  case s.str.str a b =>
    obtain rfl:=hp.str_inv
    obtain rfl:=hq.str_inv
    obtain ⟨r',h1,rfl⟩:=yad.1 h
    rcases zeg hk with ⟨e,-⟩ | ⟨e,-⟩ | ⟨-,ht⟩
    · cases e
    · cases e
    · exact ⟨_,_,run_equalIn_string w d t a b ht,h1,by rw [zjX]⟩
theorem zcj:∀ {ks:List FK} {xs ys:List PV} {r:Bool},Z0 ks xs ys=some r→xs.length=ks.length∧ys.length=ks.length
 | [],xs,ys,r,h=>by cases xs <;> cases ys <;> simp [Z0] at h ⊢
 | k :: ks,xs,ys,r,h=>by
  cases xs with
  | nil=>cases ys <;> cases k <;> simp [Z0] at h
  | cons p xs =>
   cases ys with
   | nil=>cases k <;> cases p <;> simp [Z0] at h
   | cons q ys =>
    have:∃ r',Z0 ks xs ys=some r':=by
     cases k <;> cases p <;> cases q <;> simp only [Z0,reduceCtorEq] at h
     ·
      obtain ⟨r',h1,-⟩:=yad.1 h; exact ⟨r',h1⟩
     ·
      split at h <;> try (cases h; done)
      obtain ⟨r',h1,-⟩:=yad.1 h; exact ⟨r',h1⟩
     ·
      obtain ⟨r',h1,-⟩:=yad.1 h; exact ⟨r',h1⟩
    obtain ⟨r',h1⟩:=this
    have:=zcj h1
    simp [this.1,this.2]
theorem zgz {d : Nat} {S : Nat → Nat → Prop} : ∀ (fs : List Field) (ks : List FK) (o : Nat) (xs ys : List PV) (us vs : List Value) {r : Bool}, zk7 P fs o = some ks → Z0 ks xs ys = some r →
    (∀ (j:Nat) p,xs[j]? = some p→∃ u,us[o + j]? = some u∧RepV S w C p u)→(∀ (j:Nat) p,ys[j]? = some p→∃ u,vs[o + j]? = some u∧RepV S w C p u) →
    (Op.eqFields (d + 1) us.toArray vs.toArray fs).run P w = .ok r w
  | [],ks,o,xs,ys,us,vs,r,hks,h,_,_=>by
    simp only [zk7,yae] at hks; subst hks
    have hl:=zcj h
    obtain rfl:xs = []:=yaH hl.1
    obtain rfl:ys = []:=yaH hl.2
    simp only [Z0,yae] at h; subst h; rfl
  | f :: fs,ks,o,xs,ys,us,vs,r,hks,h,hx,hy=>by
    simp only [zk7] at hks
    split at hks <;> try (cases hks; done)
    rename_i k ks' hk hks'
    split at hks <;> try (cases hks; done)
    rename_i hn
    cases hks
    have hl:=zcj h
    obtain ⟨p,xs,rfl⟩:∃ p l,xs=p :: l:=by cases xs with | nil=>simp at hl | cons p l=>exact ⟨p,l,rfl⟩
    obtain ⟨q,ys,rfl⟩:∃ p l,ys=p :: l:=by cases ys with | nil=>simp at hl | cons p l=>exact ⟨p,l,rfl⟩
    obtain ⟨u,hu,hpu⟩:=hx 0 p (by simp)
    obtain ⟨v,hv,hqv⟩:=hy 0 q (by simp)
    simp only [ybh] at hu hv
    obtain ⟨b,r',h1,h2,rfl⟩:=zzt (P:=P) (d:=d) hk h hpu hqv
    have hpart:∀ (l:List Value) (y:Value),l[o]? = some y→(part f.type l.toArray f.offset).run P w = .ok y w:=by
      intro l y hy
      unfold part
      rw [yal,zja hk,hn.2]
      simp [hy]
    have rest:=zgz (d:=d) fs ks' (o + 1) xs ys us vs hks' h2 (fun j p hp=>by have:=hx (j + 1) p (by simpa using hp); rwa [show o + (j + 1)=o + 1 + j by omega] at this)
      (fun j p hp=>by have:=hy (j + 1) p (by simpa using hp); rwa [show o + (j + 1)=o + 1 + j by omega] at this)
    simp only [Op.eqFields,if_pos hn.1,yal,hpart us u hu,hpart vs v hv,h1,Result.andThen_ok]
    cases b
    · simp
    · simp [rest]
theorem zqY {d n : Nat} {S : Nat → Nat → Prop} {t e : TypeId} {k : FK} (ht : P.underlying t = some (.array n e)) (hk : zmQ P e = some k) (hs : zaO P e = some 1) {xs ys : List PV} {us vs : List Value} {r : Bool}
    (h:Z0 (List.replicate n k) xs ys=some r)
    (hx:∀ (j:Nat) p,xs[j]? = some p→∃ u,us[j]? = some u∧RepV S w C p u) (hy:∀ (j:Nat) p,ys[j]? = some p→∃ u,vs[j]? = some u∧RepV S w C p u) :
    (Op.equalIn (d + 2) t (.agg us.toArray) (.agg vs.toArray)).run P w = .ok r w:=by
  have key : ∀ (m o : Nat) (xs ys : List PV) (r : Bool), Z0 (List.replicate m k) xs ys = some r →
      (∀ (j:Nat) p,xs[j]? = some p→∃ u,us[o + j]? = some u∧RepV S w C p u)→(∀ (j:Nat) p,ys[j]? = some p→∃ u,vs[o + j]? = some u∧RepV S w C p u) →
      ∃ z, (forIn (m := Sem) (List.range' o m) ((none, ()) : Option Bool × PUnit) fun i _ => do
          let a ← part e us.toArray (i * 1)
          let b ← part e vs.toArray (i * 1)
          let r ← Op.equalIn (d + 1) e a b
          if (!r)=true then pure (.done (some false,())) else pure (.yield (none,()))).run P w = .ok z w∧(z.fst.getD true=r):=by
    intro m
    induction m with
    | zero =>
      intro o xs ys r h _ _
      have hl:=zcj h
      obtain rfl:xs = []:=yaH hl.1
      obtain rfl:ys = []:=yaH hl.2
      simp only [List.replicate_zero,Z0,yae] at h; subst h
      exact ⟨(none,()),by simp,rfl⟩
    | succ m ih =>
      intro o xs ys r h hx hy
      rw [List.replicate_succ] at h
      have hl:=zcj h
      obtain ⟨p,xs,rfl⟩:∃ p l,xs=p :: l:=by cases xs with | nil=>simp at hl | cons p l=>exact ⟨p,l,rfl⟩
      obtain ⟨q,ys,rfl⟩:∃ p l,ys=p :: l:=by cases ys with | nil=>simp at hl | cons p l=>exact ⟨p,l,rfl⟩
      obtain ⟨u,hu,hpu⟩:=hx 0 p (by simp)
      obtain ⟨v,hv,hqv⟩:=hy 0 q (by simp)
      simp only [ybh] at hu hv
      obtain ⟨b,r',h1,h2,rfl⟩:=zzt (P:=P) (d:=d) hk h hpu hqv
      have hpart:∀ (l:List Value) (y:Value),l[o]? = some y→(part e l.toArray (o * 1)).run P w = .ok y w:=by
        intro l y hy
        unfold part
        rw [yal,zja hk,Nat.mul_one]
        simp [hy]
      obtain ⟨z,hz1,hz2⟩:=ih (o + 1) xs ys r' h2 (fun j p hp=>by have:=hx (j + 1) p (by simpa using hp); rwa [show o + (j + 1)=o + 1 + j by omega] at this)
        (fun j p hp=>by have:=hy (j + 1) p (by simpa using hp); rwa [show o + (j + 1)=o + 1 + j by omega] at this)
      rw [List.range'_succ,List.forIn_cons]
      simp only [yal,hpart us u hu,hpart vs v hv,h1,Result.andThen_ok]
      cases b
      · exact ⟨(some false,()),by simp,rfl⟩
      · refine ⟨z,?_,by simpa using hz2⟩
        simp only [Bool.not_true,yap,if_false,yay,Result.andThen_ok]
        exact hz1
  obtain ⟨z,hz1,hz2⟩:=key n 0 xs ys r h (fun j p hp=>by simpa using hx j p hp) (fun j p hp=>by simpa using hy j p hp)
  rw [Op.equalIn]
  simp only [yal,run_underlying ht,Result.andThen_ok,Z5 hs]
  simp only [Std.Legacy.Range.forIn_eq_forIn_range',Std.Legacy.Range.size,Nat.sub_zero,ybX,Nat.div_one]
  rw [hz1,Result.andThen_ok]
  obtain ⟨z1,z2⟩:=z
  cases z1 with
  | none=>simp only [Option.getD_none] at hz2; subst hz2; rfl
  | some b=>simp only [ybA] at hz2; subst hz2; rfl
end
section
variable {P:Program} {x:Cx} {C:Conc} {H:List AObj} {w:World}
theorem ztK (hr : HR x C H w) {xs ys : List PV} {u v : Value} {neg : Bool} {ks : List FK} {r : Bool} {t : TypeId} (hp : RepV (zu x C H w) w C (.agg xs) u) (hq : RepV (zu x C H w) w C (.agg ys) v)
    (hf:ztI P t=some ks) (h:Z0 ks xs ys=some r) (X Y:Operand) :
    Zr x C H w (((do let a ← (do eqGuard (if neg then .neq else .eql) t X Y u v; binOp (if neg then .neq else .eql) t u v:Sem Value); pure (.value a)):Sem Next).run P w) (.bool (if neg then !r else r)) H:=by
  obtain ⟨us,rfl,ul,u1,u2⟩:=hp.agg_inv
  obtain ⟨vs,rfl,vl,v1,v2⟩:=hq.agg_inv
  have hx:∀ (j:Nat) p,xs[j]? = some p→∃ u,us[j]? = some u∧RepV (zu x C H w) w C p u:=fun j p hj=>by
    have:j < us.length:=by rw [ul]; exact (yab.1 hj).1
    exact ⟨us[j],by simp [this],u2 j p _ hj (by simp [this])⟩
  have hy:∀ (j:Nat) p,ys[j]? = some p→∃ u,vs[j]? = some u∧RepV (zu x C H w) w C p u:=fun j p hj=>by
    have:j < vs.length:=by rw [vl]; exact (yab.1 hj).1
    exact ⟨vs[j],by simp [this],v2 j p _ hj (by simp [this])⟩
  unfold ztI at hf
  split at hf <;> try (cases hf; done)
  rename_i hg
  have hg:P.eqGuardType P.depth t=false:=by simpa using hg
  have he:(Op.equalIn 10000 t (.agg us.toArray) (.agg vs.toArray)).run P w = .ok r w:=by
    split at hf
    · rename_i fs hu
      split at hf <;> try (cases hf; done)
      rename_i hs
      have hfo:P.fieldsOf t=fs:=by simp [Program.fieldsOf,hu]
      rw [run_equalIn_struct w 9999 t _ _ (by rw [hu,hfo]) (by simpa using hs),hfo]
      exact zgz (d:=9998) fs.toList ks 0 xs ys us vs hf h (fun j p hj=>by simpa using hx j p hj) (fun j p hj=>by simpa using hy j p hj)
    · rename_i n e hu
      split at hf <;> try (cases hf; done)
      rename_i k hk hs
      cases hf
      exact zqY (d:=9998) hu hk hs h hx hy
    · cases hf
  refine Zr.same hr (ZH (v := .bool (if neg=true then !r else r)) ?_) (.pure (.bool _))
  rw [yal,run_eqGuard_agg w _ t X Y _ _ hg,Result.andThen_ok]
  cases neg
  · simp only [yap,if_false]
    rw [run_eql_struct,he]; rfl
  · simp only [if_true]
    rw [run_neq_struct,he]; rfl
theorem zog {cs : List PV} {us : List Value} {off n : Nat} {ag : Bool} {t : TypeId} {r : PV} (hl : us.length = cs.length) (h1 : ∀ (j : Nat) u, us[j]? = some u → u.oneCell' = true)
    (h2:∀ (j:Nat) p u,cs[j]? = some p→us[j]? = some u→RepV (zu x C H w) w C p u) (hn:zaO P t=some n) (hag:zeD P t=some ag) (h:zhi cs off n ag=some r) :
    ∃ v,(part t us.toArray off).run P w = .ok v w∧RepV (zu x C H w) w C r v:=by
  unfold zhi at h
  split at h <;> try (cases h; done)
  rename_i hle
  cases ag with
  | true =>
    simp only [if_true,yae] at h
    subst h
    refine ⟨.agg ((us.drop off).take n).toArray,?_,.agg _ _ (by simp [hl]) (fun j u hj=>?_) (fun j p u hj hu=>?_)⟩
    · unfold part
      rw [yal,zdK hag]
      simp only [Result.andThen_ok,if_true,yal,Z5 hn,yay]
      congr 2
      apply Array.ext'
      simp [List.extract_eq_take_drop]
    · rw [yaK] at hj
      split at hj <;> try (cases hj; done)
      rw [ybg] at hj
      exact h1 _ _ hj
    · rw [yaK] at hj hu
      split at hj <;> try (cases hj; done)
      rename_i hlt
      rw [if_pos hlt] at hu
      rw [ybg] at hj hu
      exact h2 _ _ _ hj hu
  | false =>
    simp only [yap,if_false] at h
    split at h <;> try (cases h; done)
    rename_i hone
    have hlt:off < us.length:=by omega
    refine ⟨us[off],?_,h2 off r _ h (by simp [hlt])⟩
    unfold part
    rw [yal,zdK hag]
    simp [hlt]
theorem ziG {S : Nat → Nat → Prop} {rows : List (List PV)} {a : Option Addr} {n c sz l h : Nat} (hp : RepP S w (.list rows) (.slice a n c)) (hsz : 0 < sz) (hz : ∀ row ∈ rows, row.length = sz) (hl : l ≤ h) (hh : h ≤ rows.length) :
    RepP S w (.list ((rows.drop l).take (h - l))) (.slice (if c=l then a else a.map (·.add (l * sz))) (h - l) (c - l)):=by
  have hlen:((rows.drop l).take (h - l)).length=h - l:=by simp; omega
  cases hp with
  | list rows a c sz' f hc hm hsz' hz' hl' hf =>
    have key:∀ k row,((rows.drop l).take (h - l))[k]? = some row→k < h - l∧rows[l + k]? = some row:=by
      intro k row hk
      rw [yaK] at hk
      split at hk <;> try (cases hk; done)
      rename_i hlt
      exact ⟨hlt,by rw [ybg] at hk; exact hk⟩
    have:=RepP.list (S:=S) (w:=w) ((rows.drop l).take (h - l)) (if c=l then a else a.map (·.add (l * sz))) (c - l) sz (fun k j=>f (l + k) j) (by rw [hlen]; omega) (by omega) hsz
      (fun row hr=>hz row (List.mem_of_mem_drop (List.mem_of_mem_take hr))) (fun k row j p a1 a2=>by
        obtain ⟨h3,h4⟩:=key k row a1
        have e:sz'=sz:=(hz' row (yaf h4)).symm.trans (hz row (yaf h4))
        subst e
        obtain ⟨b,o,rfl,h6,h7⟩:=hl' (l + k) row j p h4 a2
        refine ⟨b,o + l * sz',?_,?_,?_⟩
        · rw [if_neg (by omega)]; simp [zef]
        · rw [show o + l * sz' + k * sz' + j=o + (l + k) * sz' + j by rw [yaI]; omega]; exact h6
        · rw [show o + l * sz' + k * sz' + j=o + (l + k) * sz' + j by rw [yaI]; omega]; exact h7)
      (fun k row j p a1 a2=>hf (l + k) row j p (key k row a1).2 a2)
    rw [hlen] at this
    exact this
end
section
variable {P:Program} {x:Cx} {C:Conc} {w:World} {st:St} {a:Act}
theorem zcD {S : Nat → Nat → Prop} {e : TypeId} {zs : List PV} (h : zev P e = some zs) : ∃ z, (∀ w1, (zeroValue e).run P w1 = .ok z w1) ∧ zaO P e = some z.cells.size ∧ z.cells.toList.length = zs.length ∧
    (∃ i,P.info? e=some i∧i.zero=some z∧i.size=z.cells.size)∧∀ (j:Nat) p u,zs[j]? = some p→z.cells.toList[j]? = some u→RepP S w p u:=by
  unfold zev at h
  split at h <;> try (cases h; done)
  rename_i i hi
  split at h <;> try (cases h; done)
  rename_i z hz
  split at h <;> try (cases h; done)
  rename_i hs
  obtain ⟨h1,h2⟩:=zfe (S:=S) (w:=w) h
  exact ⟨z,fun w1=>by simp [zeroValue,typeInfo,hi,hz],by simp [zaO,hi,hs],h1,⟨i,hi,hz,hs.symm⟩,h2⟩
theorem zqZ (hr : HR x C st.heap w) {e : TypeId} {zs : List PV} (h : zev P e = some zs) :
    Zr x C st.heap w (((do let a ← Instr.alloc e true (.tuple #[]); pure (.value a)):Sem Next).run P w) (.ptr st.heap.length 0) (st.heap ++ [.box zs]):=by
  obtain ⟨z,hz,-,hl,-,hc⟩:=zcD (P:=P) (w:=w) (S:=zu x C st.heap w) h
  refine Zr.box hr (cs:=z.cells) e hl (fun j q u a b=>⟨(hc j q u a b).one,.pure (hc j q u a b)⟩) (ZH ?_)
  simp [Instr.alloc,hz,newVar,newRow,yal]
theorem zxm (hr : HR x C st.heap w) {e : TypeId} {p : PV} {v : Value} {cs : List PV} (hp : RepV (zu x C st.heap w) w C p v) (h : p.cells? = some cs) :
    Zr x C st.heap w (((do let a ← Instr.box e v; pure (.value a)):Sem Next).run P w) (.ptr st.heap.length 0) (st.heap ++ [.box cs]):=by
  obtain ⟨h1,h2⟩:=hp.cells h
  refine Zr.box hr (cs:=v.cells) e h1 h2 (ZH ?_)
  simp [Instr.box,newVar,newRow,yal]
theorem zoh (vs : List Value) : ∀ (off : Nat) (cs : Array Value) (k : Nat), off + k + vs.length ≤ cs.size →
    ((vs.zipIdx k).foldl (fun cs (c,j)=>cs.setIfInBounds (off + j) c) cs).size=cs.size ∧
    ∀ i:Nat,((vs.zipIdx k).foldl (fun cs (c,j)=>cs.setIfInBounds (off + j) c) cs)[i]? = if off + k≤i∧i < off + k + vs.length then vs[i - (off + k)]? else cs[i]? := by
  induction vs with
  | nil=>intro off cs k _; exact ⟨rfl,fun i=>by rw [if_neg (by simp)]; rfl⟩
  | cons v vs ih =>
    intro off cs k hl
    simp only [yax] at hl
    simp only [List.zipIdx_cons,List.foldl_cons]
    obtain ⟨h1,h2⟩:=ih off (cs.setIfInBounds (off + k) v) (k + 1) (by simp; omega)
    refine ⟨by rw [h1]; simp,fun i=>?_⟩
    rw [h2 i]
    by_cases e:i=off + k
    · subst e
      rw [if_neg (by omega),if_pos (by simp)]
      simp [show off + k < cs.size by omega]
    · by_cases e2:off + (k + 1)≤i∧i < off + (k + 1) + vs.length
      · rw [if_pos e2,if_pos (by simp; omega)]
        obtain ⟨m,hm⟩:∃ m,i - (off + k)=m + 1:=⟨i - (off + k) - 1,by omega⟩
        rw [hm,show i - (off + (k + 1))=m by omega]; rfl
      · rw [if_neg e2,if_neg (by simp; omega),Array.getElem?_setIfInBounds_ne (Ne.symm e)]
theorem zoi {S : Nat → Nat → Prop} (he : ∀ t, RepV S w C (st.env t) (a.tmps.getD t Go.undef)) {place : Nat → Option (Nat × Nat)} : ∀ (parts : List (Nat × Operand)) (lp : List (Nat × Nat × LOpd)) (cs : Array Value) (zs cells : List PV),
    zi8 place parts=some lp→zgP st lp zs=some cells→cs.size=zs.length→(∀ (j:Nat) p u,zs[j]? = some p→cs[j]? = some u→u.oneCell'=true∧RepV S w C p u) →
    ∃ cs':Array Value,Instr.fill place cs (parts.map fun (i,x)=>(i,a.eval x))=some cs'∧cs'.size=cells.length∧cells.length=zs.length∧∀ (j:Nat) p u,cells[j]? = some p→cs'[j]? = some u→u.oneCell'=true∧RepV S w C p u
  | [],lp,cs,zs,cells,hlp,hlay,hs,hc=>by
    simp only [zi8,yae] at hlp; subst hlp
    simp only [zgP,yae] at hlay; subst hlay
    exact ⟨cs,rfl,hs,rfl,hc⟩
  | (i,X) :: parts,lp,cs,zs,cells,hlp,hlay,hs,hc=>by
    simp only [zi8] at hlp
    split at hlp <;> try (cases hlp; done)
    rename_i off n lx r hpl hlx hr
    cases hlp
    simp only [zgP] at hlay
    split at hlay <;> try (cases hlay; done)
    rename_i vs hvs
    split at hlay <;> try (cases hlay; done)
    rename_i hn
    obtain ⟨rfl,hle⟩:=hn
    obtain ⟨h1,h2⟩:=(zau he hlx).cells hvs
    have hvl:(a.eval X).cells.size=vs.length:=by simpa using h1
    obtain ⟨f1,f2⟩:=zoh (a.eval X).cells.toList off cs 0 (by simp; omega)
    have hsz:(zfd zs off vs).length=zs.length:=zdL hle
    obtain ⟨cs',g1,g2,g3,g4⟩:=zoi he parts r _ (zfd zs off vs) cells hr hlay (f1.trans (hs.trans hsz.symm)) (fun j p u a1 a2=>by
      rw [zhj hle] at a1
      rw [f2 j,ybh,h1] at a2
      split at a1
      · rename_i hin
        rw [if_pos hin] at a2
        exact h2 _ _ _ a1 a2
      · rename_i hin
        rw [if_neg hin] at a2
        exact hc _ _ _ a1 a2)
    refine ⟨cs',?_,g2,g3.trans hsz,g4⟩
    simp only [yaA,Instr.fill,hpl,hvl]
    rw [if_neg (by simp; omega)]
    rw [← g1]
    congr 1
    rw [← Array.foldl_toList]
    simp
theorem zq0 (hr : HR x C st.heap w) (he : ∀ t, RepV (zu x C st.heap w) w C (st.env t) (a.tmps.getD t Go.undef)) {t : TypeId} {parts : Array (Nat × Operand)} {zs cs : List PV} {pl : Nat → Option (Nat × Nat)} {lp : List (Nat × Nat × LOpd)}
    (hz:zev P t=some zs) (hpl:zmP P t=some pl) (hlp:zi8 pl parts.toList=some lp) (h:zgP st lp zs=some cs) :
    Zr x C st.heap w (((do let a ← Instr.build t (parts.map fun (i,x)=>(i,a.eval x)); pure (.value a)):Sem Next).run P w) (.agg cs) st.heap:=by
  obtain ⟨z,-,-,hl,⟨it,hit,hzz,his⟩,hc⟩:=zcD (P:=P) (w:=w) (S:=zu x C st.heap w) hz
  obtain ⟨cs',g1,g2,g3,g4⟩:=zoi he parts.toList lp z.cells zs cs hlp h (by simpa using hl) (fun j p u a1 a2=>⟨(hc j p u a1 (by simpa using a2)).one,.pure (hc j p u a1 (by simpa using a2))⟩)
  have hb:P.built t (parts.map fun (i,x)=>(i,a.eval x)).toList=some cs':=by
    rw [ybE]
    unfold zmP at hpl
    unfold Program.built
    split at hpl
    · rename_i n e hu
      split at hpl <;> try (cases hpl; done)
      rename_i ie hie
      simp only [yae] at hpl
      subst hpl
      simp only [hit,hu,hzz,hie]
      exact g1
    · rename_i fields hu
      split at hpl <;> try (cases hpl; done)
      rename_i places hplaces
      simp only [yae] at hpl
      subst hpl
      simp only [hit,hu,hzz,hplaces]
      exact g1
    · cases hpl
  have hcs:cs'=cs'.toList.toArray:=by simp
  refine Zr.same hr (ZH (run_build w t _ cs' hb)) ?_
  rw [hcs]
  exact .agg cs cs'.toList (by simpa using g2) (fun j u hu=>by
    have hj:j < cs.length:=by rw [← g2]; have:=(yab.1 hu).1; simpa using this
    exact (g4 j cs[j] u (by simp [hj]) (by simpa using hu)).1) (fun j p u hj hu=>(g4 j p u hj (by simpa using hu)).2)
end
section
variable {P:Program} {x:Cx} {C:Conc} {w:World} {st:St} {a:Act}
theorem zhl {S : Nat → Nat → Prop} (he : ∀ t, RepV S w C (st.env t) (a.tmps.getD t Go.undef)) {sz n : Nat} (hsz : 0 < sz) : ∀ (parts : List (Nat × Operand)) (lp : List (Nat × LOpd)) (cs : Array Value) (zs rows : List (List PV)),
    zmO parts=some lp→za0 st sz lp zs=some rows→zs.length=n→cs.size=n * sz→(∀ row ∈ zs,row.length=sz)→(∀ (k:Nat) row (j:Nat) p u,zs[k]? = some row→row[j]? = some p→cs[k * sz + j]? = some u→u.oneCell'=true∧RepV S w C p u) →
    ∃ cs':Array Value,Instr.fill (fun i=>some (i * sz,sz)) cs (parts.map fun (i,x)=>(i,a.eval x))=some cs'∧rows.length=n∧cs'.size=n * sz∧(∀ row ∈ rows,row.length=sz) ∧
      ∀ (k:Nat) row (j:Nat) p u,rows[k]? = some row→row[j]? = some p→cs'[k * sz + j]? = some u→u.oneCell'=true∧RepV S w C p u
  | [],lp,cs,zs,rows,hlp,hlay,hn,hs,hl,hc=>by
    simp only [zmO,yae] at hlp; subst hlp
    simp only [za0,yae] at hlay; subst hlay
    exact ⟨cs,rfl,hn,hs,hl,hc⟩
  | (i,X) :: parts,lp,cs,zs,rows,hlp,hlay,hn,hs,hl,hc=>by
    simp only [zmO] at hlp
    split at hlp <;> try (cases hlp; done)
    rename_i lx r hlx hr
    cases hlp
    simp only [za0] at hlay
    split at hlay <;> try (cases hlay; done)
    rename_i vs hvs
    split at hlay <;> try (cases hlay; done)
    rename_i hn'
    obtain ⟨hvn,hi⟩:=hn'
    obtain ⟨h1,h2⟩:=(zau he hlx).cells hvs
    have hvl:(a.eval X).cells.size=sz:=by rw [← hvn,← h1]; simp
    have hle:i * sz + sz≤cs.size:=by
      have:(i + 1) * sz≤n * sz:=yaj _ (by omega)
      rw [yaI] at this; omega
    obtain ⟨f1,f2⟩:=zoh (a.eval X).cells.toList (i * sz) cs 0 (by simp; omega)
    obtain ⟨cs', g1, g2⟩ := zhl he hsz parts r _ (zs.set i vs) rows hr hlay (by simpa using hn) (f1.trans hs) (fun row hrow => by
        rcases List.mem_or_eq_of_mem_set hrow with h | h
        · exact hl row h
        · rw [h]; exact hvn) (fun k row j p u a1 a2 a3=>by
      rw [f2,ybh,h1,hvn] at a3
      by_cases e:k=i
      · subst e
        rw [ya9 hi] at a1
        cases a1
        have hj:j < sz:=by rw [← hvn]; exact (yab.1 a2).1
        rw [if_pos (by omega),show k * sz + j - k * sz=j by omega] at a3
        exact h2 _ _ _ a2 a3
      · rw [ybl (Ne.symm e)] at a1
        have hj:j < sz:=by rw [← hl row (yaf a1)]; exact (yab.1 a2).1
        have:=zla (off:=0) (n:=sz) e hj (by omega)
        rw [if_neg (by simpa using this)] at a3
        exact hc k row j p u a1 a2 a3)
    refine ⟨cs',?_,g2⟩
    simp only [yaA,Instr.fill,hvl]
    rw [if_neg (by simp; omega)]
    rw [← g1]
    congr 1
    rw [← Array.foldl_toList]
    simp
theorem zxn (hr : HR x C st.heap w) (he : ∀ t, RepV (zu x C st.heap w) w C (st.env t) (a.tmps.getD t Go.undef)) {t e : TypeId} {len sz : Nat} {parts : Array (Nat × Operand)} {zs : List PV} {lp : List (Nat × LOpd)} {rows : List (List PV)}
    (hu:P.underlying t=some (.slice e)) (hz:zev P e=some zs) (hs:zaO P e=some sz) (hlp:zmO parts.toList=some lp) (hsz:0 < sz) (hlim:len * sz≤2 ^ 24) (h:za0 st sz lp (List.replicate len zs)=some rows) :
    Zr x C st.heap w (((do let a ← Instr.buildSlice t len (parts.map fun (i,x)=>(i,a.eval x)); pure (.value a)):Sem Next).run P w) (if rows.all (fun row=>row.all PV.isPure) then .list rows else .vlist rows) st.heap:=by
  obtain ⟨z,hzr,hzs,hl,⟨it,hit,hzz,his⟩,hc⟩:=zcD (P:=P) (w:=w) (S:=zu x C st.heap w) hz
  obtain rfl:z.cells.size=sz:=by rw [hs] at hzs; cases hzs; rfl
  have hit2:it.size=z.cells.size:=his
  have hzl:zs.length=z.cells.size:=by rw [← hl]; simp
  let c0:Array Value:=(Array.range (len * z.cells.size)).map (z.cells[· % z.cells.size]!)
  have hc0:c0.size=len * z.cells.size:=by simp [c0]
  obtain ⟨cs',g1,g2,g3,g4,g5⟩:=zhl he (n:=len) hsz parts.toList lp c0 (List.replicate len zs) rows hlp h (by simp) hc0 (fun row hrow=>by rw [(ybY.1 hrow).2,hzl]) (fun k row j p u a1 a2 a3=>by
    have hrow:row=zs:=(ybY.1 (yaf a1)).2
    subst hrow
    have hj:j < z.cells.size:=by rw [← hzl]; exact (yab.1 a2).1
    have hlt:=(yak.1 a3).1
    rw [hc0] at hlt
    have hzj:z.cells.toList[j]? = some u:=by
      simp only [c0,Array.getElem?_map] at a3
      obtain ⟨m,hm1,hm2⟩:=yad.1 a3
      have:m=k * z.cells.size + j:=by
        rw [Array.getElem?_range] at hm1
        split at hm1 <;> simp_all
      subst this
      rw [(zjV hj).2] at hm2
      simp [hj] at hm2 ⊢
      exact hm2
    exact ⟨(hc j p u a2 hzj).one,.pure (hc j p u a2 hzj)⟩)
  have hrun:(Instr.buildSlice t len (parts.map fun (i,x)=>(i,a.eval x))).run P w = .ok (.slice (some ⟨w.heap.size,0,none⟩) len len) (w.alloc (.cells cs' e)):=by
    by_cases hpos:len * z.cells.size=0
    · have hc0e:c0=#[]:=by apply ybp; rw [hc0,hpos]
      rw [hc0e] at g1
      have er:(Array.range 0:Array Nat)=#[]:=rfl
      simp [Instr.buildSlice,run_underlying hu,sizeOf,typeInfo,hit,hit2,hpos,newRow,er,g1]
    · exact run_buildSlice w t e len _ cs' it z hu hit hzz (by rw [hit2]; omega) (by rw [hit2]; exact hpos) (by rw [hit2,ybE]; exact g1)
  have hlen:len≤maxLen:=by
    have:len * 1≤len * z.cells.size:=Nat.mul_le_mul_left _ hsz
    unfold maxLen; omega
  obtain ⟨k1,k2,k3⟩:=hr.grow (zbq w (.cells cs' e) (may:=fun _=>False))
  have hcell : ∀ (k : Nat) row (j : Nat) p, rows[k]? = some row → row[j]? = some p → k * z.cells.size + j < cs'.size ∧ (w.alloc (.cells cs' e)).cell? ⟨w.heap.size, 0 + k * z.cells.size + j, none⟩ = some (cs'.getD (k * z.cells.size + j) Go.undef) ∧
      cs'[k * z.cells.size + j]? = some (cs'.getD (k * z.cells.size + j) Go.undef):=by
    intro k row j p a1 a2
    have hk:k < rows.length:=(yab.1 a1).1
    have hj:j < z.cells.size:=by rw [← g4 row (yaf a1)]; exact (yab.1 a2).1
    have hlt:k * z.cells.size + j < cs'.size:=by
      rw [g3]
      have:(k + 1) * z.cells.size≤len * z.cells.size:=yaj _ (by omega)
      rw [yaI] at this; omega
    exact ⟨hlt,by rw [yaF,ZG (heap_alloc_new w _)]; simp [hlt],by simp [hlt]⟩
  refine ⟨_,_,C,.inl (ZH hrun),k1,k2,?_⟩
  subst g2
  split
  · rename_i hpure
    refine .pure (.list rows _ _ z.cells.size (fun k j=>cs'.getD (k * z.cells.size + j) Go.undef) (yag _) hlen hsz g4 (fun k row j p a1 a2=>⟨w.heap.size,0,rfl,zjT hr _ _ _,(hcell k row j p a1 a2).2.1⟩) (fun k row j p a1 a2=>?_))
    obtain ⟨-,h6⟩:=g5 k row j p _ a1 a2 (hcell k row j p a1 a2).2.2
    refine (k2 _ _ h6).pureOf ?_
    exact yar.1 (yar.1 hpure _ (yaf a1)) _ (yaf a2)
  · refine .vlist rows _ _ z.cells.size (fun k j=>cs'.getD (k * z.cells.size + j) Go.undef) (yag _) hlen hsz g4 (fun k row j p a1 a2=>⟨(g5 k row j p _ a1 a2 (hcell k row j p a1 a2).2.2).1,w.heap.size,0,rfl,zjT hr _ _ _,(hcell k row j p a1 a2).2.1⟩) (fun k row j p a1 a2=>?_)
    exact k2 _ _ (g5 k row j p _ a1 a2 (hcell k row j p a1 a2).2.2).2
theorem zbA {S:Nat→Nat→Prop} (he:∀ t,RepV S w C (st.env t) (a.tmps.getD t Go.undef)) {X:Operand} {l:LOpd} {k:Int} (hl:zaK X=some l) (h:zdI st l=some k):a.eval X = .int .i64 k:=by
 have:=zau he hl
 unfold zdI at h
 split at h <;> try (cases h; done)
 rename_i n hn
 cases h
 rw [hn] at this
 exact this.int_inv
theorem Zr.newArr {H : List AObj} (hr : HR x C H w) {w' : World} {v' : Value} {T sz : Nat} {rows : List (List PV)} {xs : List Value} (st : Bool) (hst : Step w w' fun _ => False) (hown : w'.ownsRow 0 T sz v' rows.length xs)
    (hnew:∀ b,v'.ownBlock=some b→w.heap.size≤b) (hsz:0 < sz) (hlen:∀ row ∈ rows,row.length=sz)
    (hrep:∀ (k:Nat) row (j:Nat) p u,rows[k]? = some row→row[j]? = some p→xs[k * sz + j]? = some u→u.oneCell'=true∧RepP (zu x C H w) w p u) {r:Result Next} (hrun:r = .ok (.value v') w') :
    Zr x C H w r (.arr H.length 0) (H ++ [.arr 0 st false T sz rows]):=by
  let C':Conc:=⟨C.n + 1,C.blk,fun k=>if k=C.n then v' else C.sv k,fun k=>if k=C.n then 0 else C.ver k,C.old⟩
  have e1:C'.sv H.length=v':=by show (if H.length=C.n then _ else _)=_; rw [if_pos hr.n.symm]
  have e2:C'.ver H.length=0:=by show (if H.length=C.n then _ else _)=_; rw [if_pos hr.n.symm]
  obtain ⟨k1,k2⟩:=hr.push (C':=C') (ob' := .arr 0 st false T sz rows) hst rfl (fun _ _=>rfl) (fun k hk=>by show (if k=C.n then _ else _)=_; rw [if_neg (by omega)])
    (fun k hk=>by show (if k=C.n then _ else _)=_; rw [if_neg (by omega)])
    (fun b hb=>by
      have hb':v'.ownBlock=some b:=by rw [← e1]; exact hb
      exact hnew b hb')
    (fun hm hmp=>⟨e2,hsz,hlen,xs,by rw [e1]; exact hown,fun k row j p q a b c=>by
      have:=hrep k row j p q a b c
      exact ⟨this.1,by simpa using hmp _ _ this.2⟩⟩)
  refine ⟨v',w',C',.inl hrun,k1,k2,?_⟩
  have:=RepV.arr (S:=zu x C' (H ++ [.arr 0 st false T sz rows]) w') (w:=w') (C:=C') H.length (by show H.length < C.n + 1; rw [hr.n]; omega) (by
    rw [e1]
    rcases hown.2 with ⟨g,-⟩ | ⟨g,cap,cur,g1,-⟩
    · rw [g]; rfl
    · rw [g1]; rfl)
  rw [e1,e2] at this
  exact this
theorem zxo {H : List AObj} (hr : HR x C H w) {t e : TypeId} {sz : Nat} {zs : List PV} (hu : P.underlying t = some (.slice e)) (hz : zev P e = some zs) (hs : zaO P e = some sz) (hsz : 0 < sz) :
    Zr x C H w (((do let a ← Instr.buildSlice t 0 #[]; pure (.value a)):Sem Next).run P w) (.arr H.length 0) (H ++ [.arr 0 true false e sz []]):=by
  obtain ⟨z,hzr,hzs,hl,⟨it,hit,hzz,his⟩,hc⟩:=zcD (P:=P) (w:=w) (S:=zu x C H w) hz
  obtain rfl:z.cells.size=sz:=by rw [hs] at hzs; cases hzs; rfl
  have hit2:it.size=z.cells.size:=his
  have hrun:(Instr.buildSlice t 0 #[]).run P w = .ok (.slice (some ⟨w.heap.size,0,none⟩) 0 0) (w.alloc (.cells #[] e)):=by
    have er:(Array.range 0:Array Nat)=#[]:=rfl
    have ef:Instr.fill (fun i=>some (i * z.cells.size,z.cells.size)) #[] []=some #[]:=rfl
    simp [Instr.buildSlice,run_underlying hu,sizeOf,typeInfo,hit,hit2,newRow,er,ef]
  refine Zr.newArr hr (v' := .slice (some ⟨w.heap.size,0,none⟩) 0 0) (xs := []) true (zbq w (.cells #[] e)) ⟨by simp,.inr ⟨w.heap.size,0,#[],rfl,ybv _,heap_alloc_new w _,yag _,by unfold maxLen; omega,by simp,by simp⟩⟩
    (fun b hb=>by simp [Value.ownBlock] at hb; omega) hsz (by simp) (fun k row j p u h=>by simp at h) (ZH hrun)
theorem ztL (hr : HR x C st.heap w) (he : ∀ t, RepV (zu x C st.heap w) w C (st.env t) (a.tmps.getD t Go.undef)) {t e : TypeId} {len sz : Nat} {parts : Array (Nat × Operand)} {zs : List PV} {lp : List (Nat × LOpd)} {rows : List (List PV)}
    (hu:P.underlying t=some (.slice e)) (hz:zev P e=some zs) (hs:zaO P e=some sz) (hlp:zmO parts.toList=some lp) (hsz:0 < sz) (hlim:len * sz≤2 ^ 24) (h:za0 st sz lp (List.replicate len zs)=some rows) (hpure:rows.all (fun row=>row.all PV.isPure)=true) :
    Zr x C st.heap w (((do let a ← Instr.buildSlice t len (parts.map fun (i,x)=>(i,a.eval x)); pure (.value a)):Sem Next).run P w) (.arr st.heap.length 0) (st.heap ++ [.arr 0 true false e sz rows]):=by
  obtain ⟨z,hzr,hzs,hl,⟨it,hit,hzz,his⟩,hc⟩:=zcD (P:=P) (w:=w) (S:=zu x C st.heap w) hz
  obtain rfl:z.cells.size=sz:=by rw [hs] at hzs; cases hzs; rfl
  have hit2:it.size=z.cells.size:=his
  have hzl:zs.length=z.cells.size:=by rw [← hl]; simp
  let c0:Array Value:=(Array.range (len * z.cells.size)).map (z.cells[· % z.cells.size]!)
  have hc0:c0.size=len * z.cells.size:=by simp [c0]
  obtain ⟨cs',g1,g2,g3,g4,g5⟩:=zhl he (n:=len) hsz parts.toList lp c0 (List.replicate len zs) rows hlp h (by simp) hc0 (fun row hrow=>by rw [(ybY.1 hrow).2,hzl]) (fun k row j p u a1 a2 a3=>by
    have hrow:row=zs:=(ybY.1 (yaf a1)).2
    subst hrow
    have hj:j < z.cells.size:=by rw [← hzl]; exact (yab.1 a2).1
    have hlt:=(yak.1 a3).1
    rw [hc0] at hlt
    have hzj:z.cells.toList[j]? = some u:=by
      simp only [c0,Array.getElem?_map] at a3
      obtain ⟨m,hm1,hm2⟩:=yad.1 a3
      have:m=k * z.cells.size + j:=by
        rw [Array.getElem?_range] at hm1
        split at hm1 <;> simp_all
      subst this
      rw [(zjV hj).2] at hm2
      simp [hj] at hm2 ⊢
      exact hm2
    exact ⟨(hc j p u a2 hzj).one,.pure (hc j p u a2 hzj)⟩)
  have hrun:(Instr.buildSlice t len (parts.map fun (i,x)=>(i,a.eval x))).run P w = .ok (.slice (some ⟨w.heap.size,0,none⟩) len len) (w.alloc (.cells cs' e)):=by
    by_cases hpos:len * z.cells.size=0
    · have hc0e:c0=#[]:=by apply ybp; rw [hc0,hpos]
      rw [hc0e] at g1
      have er:(Array.range 0:Array Nat)=#[]:=rfl
      simp [Instr.buildSlice,run_underlying hu,sizeOf,typeInfo,hit,hit2,hpos,newRow,er,g1]
    · exact run_buildSlice w t e len _ cs' it z hu hit hzz (by rw [hit2]; omega) (by rw [hit2]; exact hpos) (by rw [hit2,ybE]; exact g1)
  have hlen:len≤maxLen:=by
    have:len * 1≤len * z.cells.size:=Nat.mul_le_mul_left _ hsz
    unfold maxLen; omega
  subst g2
  refine Zr.newArr hr (v' := .slice (some ⟨w.heap.size,0,none⟩) rows.length rows.length) (xs:=cs'.toList) true (zbq w (.cells cs' e)) ⟨by simp [g3],.inr ⟨w.heap.size,rows.length,cs',rfl,ybv _,heap_alloc_new w _,yag _,hlen,g3,yan (by simp [g3])⟩⟩
    (fun b hb=>by simp [Value.ownBlock] at hb; omega) hsz g4 (fun k row j p u a1 a2 a3=>?_) (ZH hrun)
  obtain ⟨h5,h6⟩:=g5 k row j p u a1 a2 (by simpa using a3)
  exact ⟨h5,h6.pureOf (yar.1 (yar.1 hpure _ (yaf a1)) _ (yaf a2))⟩
theorem zxp {H : List AObj} (hr : HR x C H w) {t e : TypeId} {i : TypeInfo} {zs : List PV} (hu : P.underlying t = some (.slice e)) (hi : P.info? e = some i) (hz : zev P e = some zs) (hsz : 0 < i.size) (hby : 0 < i.bytes) {n : Int} (h0 : 0 ≤ n) (hb : n * i.bytes ≤ 140737488355328)
    (hzl:zs.length=i.size) :
    Zr x C H w (((do let a ← Instr.makeSlice t (.int .i64 n) (.int .i64 n); pure (.value a)):Sem Next).run P w) (.arr H.length 0) (H ++ [.arr 0 true false e i.size (List.replicate n.toNat zs)]):=by
  obtain ⟨z,hzr,hzs,hl,⟨it,hit,hzz,his⟩,hc⟩:=zcD (P:=P) (w:=w) (S:=zu x C H w) hz
  obtain rfl:it=i:=by rw [hi] at hit; cases hit; rfl
  obtain ⟨m,rfl⟩:=yb4 h0
  have hb':m * it.bytes≤140737488355328:=by
    have:((m * it.bytes:Nat):Int)≤140737488355328:=by rw [Int.natCast_mul]; exact hb
    omega
  have hm:m≤maxLen:=by
    have:m * 1≤m * it.bytes:=Nat.mul_le_mul_left _ hby
    unfold maxLen; omega
  rw [yaB]
  obtain ⟨w',hrun,hown,hg⟩:=Go.run_make_full (P:=P) w 0 t e it z it.size hu hi hzz rfl .i64 .i64 m (by rw [ybW]; omega) hm (ybv _)
  refine Zr.newArr hr (v' := .slice (some ⟨w.heap.size,0,none⟩) m m) (xs:=(madeCells z.cells (m * it.size)).toList) true ⟨hg.size,hg.os,hg.tape,hg.output,fun b hb _=>hg.block b hb (by simp)⟩ (by rw [List.length_replicate]; exact hown)
    (fun b hb=>by simp [Value.ownBlock] at hb; omega) hsz (fun row hrow=>by rw [(ybY.1 hrow).2,hzl]) (fun k row j p u a1 a2 a3=>?_) (ZH hrun)
  have hrow:row=zs:=(ybY.1 (yaf a1)).2
  subst hrow
  have hj:j < z.cells.size:=by rw [← his,← hzl]; exact (yab.1 a2).1
  rw [his] at a3
  have hzj:z.cells.toList[j]? = some u:=by
    simp only [madeCells,yaV,Array.getElem?_map] at a3
    obtain ⟨m',hm1,hm2⟩:=yad.1 a3
    have:m'=k * z.cells.size + j:=by
      rw [Array.getElem?_range] at hm1
      split at hm1 <;> simp_all
    subst this
    rw [(zjV hj).2] at hm2
    simp [hj] at hm2 ⊢
    exact hm2
  exact ⟨(hc j p u a2 hzj).one,hc j p u a2 hzj⟩
theorem zff {X:Value} {k:Int} {y:Nat} {code:BoundsCode} (h:X = .int .i64 k) (h0:0≤k) (h1:k≤y):(Instr.sliceBound X y code).run P w = .ok k.toNat w:=by
 subst h
 simp [Instr.sliceBound,asIntOf,h0,h1]
theorem zjb {S : Nat → Nat → Prop} (he : ∀ t, RepV S w C (st.env t) (a.tmps.getD t Go.undef)) {lo hi : Option Operand} {llo lhi : Option LOpd} (hlo : ziE lo = some llo) (hhi : ziE hi = some lhi) {n cap : Nat} {l h : Int}
    (hl:zf3 st llo=some l) (hh:zc0 st n lhi=some h) (h0:0≤l) (h1:l≤h) (h2:h≤n) (hc:n≤cap) (isS:Bool) :
    (Instr.sliceBounds isS n cap (lo.map a.eval) (hi.map a.eval) none).run P w = .ok (l.toNat,h.toNat,cap) w:=by
  have hi':(hi=none∧h=n)∨∃ X,hi=some X∧a.eval X = .int .i64 h:=by
    cases hi with
    | none =>
      simp only [ziE,yae] at hhi; subst hhi
      simp only [zc0,yae] at hh; exact .inl ⟨rfl,hh.symm⟩
    | some X =>
      simp only [ziE] at hhi
      obtain ⟨lx,e1,rfl⟩:=yad.1 hhi
      exact .inr ⟨X,rfl,zbA he e1 hh⟩
  have lo':(lo=none∧l=0)∨∃ X,lo=some X∧a.eval X = .int .i64 l:=by
    cases lo with
    | none =>
      simp only [ziE,yae] at hlo; subst hlo
      simp only [zf3,yae] at hl; exact .inl ⟨rfl,hl.symm⟩
    | some X =>
      simp only [ziE] at hlo
      obtain ⟨lx,e1,rfl⟩:=yad.1 hlo
      exact .inr ⟨X,rfl,zbA he e1 hl⟩
  unfold Instr.sliceBounds
  rcases hi' with ⟨rfl,rfl⟩ | ⟨X,rfl,hX⟩ <;> rcases lo' with ⟨rfl,rfl⟩ | ⟨Y,rfl,hY⟩
  · simp
  · have b1:=zff (P:=P) (w:=w) (y:=n) (code := .sliceB) hY h0 (by omega)
    simp [yal,b1]
  · have b2:=zff (P:=P) (w:=w) (y:=cap) (code:=if isS then .sliceAcap else .sliceAlen) hX (by omega) (by omega)
    simp [yal,b2]
  · have b2:=zff (P:=P) (w:=w) (y:=cap) (code:=if isS then .sliceAcap else .sliceAlen) hX (by omega) (by omega)
    have b1:=zff (P:=P) (w:=w) (y:=h.toNat) (code := .sliceB) hY h0 (by omega)
    simp [yal,b2,b1]
theorem ztM {T sz ver : Nat} {rows : List (List PV)} {id : Nat} {v : Value} (hr : HR x C st.heap w) (hid : st.heap[id]? = some (.arr ver false false T sz rows)) (hp : RepV (zu x C st.heap w) w C (.arr id ver) v) :
    RepP (zu x C st.heap w) w (.list rows) v∧0 < sz∧∀ row ∈ rows,row.length=sz:=by
  have:=zjU hr hp
  simp only [frz,hid,if_true] at this
  obtain ⟨-,h2,h3,-⟩:=hr.obj id _ hid
  exact ⟨this.list_inv,h2,h3⟩
end
section
variable {P:Program} {x:Cx} {C:Conc} {w:World} {st:St} {a:Act}
theorem zps (hr : HR x C st.heap w) {p : PV} {v : Value} (hp : RepV (zu x C st.heap w) w C p v) {r : PV} {H' : List AObj} {l : LOpd} (hl : l.ev st = p) (h : zo st (.nilchk l) = some (r, H')) :
    ∃ b o,v = .pointer (some ⟨b,o,none⟩)∧r=p∧H'=st.heap:=by
  simp only [zo,hl] at h
  split at h <;> try (cases h; done)
  · cases h; obtain ⟨rfl,-⟩:=hp.ptr_inv; exact ⟨_,_,rfl,rfl,rfl⟩
  · cases h; obtain ⟨b,o,y,rfl,-⟩:=hp.rptr_inv; exact ⟨_,_,rfl,rfl,rfl⟩
  · split at h <;> try (cases h; done)
    rename_i hid
    split at h <;> try (cases h; done)
    rename_i hv
    cases h
    subst hv
    obtain ⟨h1,-⟩:=hr.obj _ _ hid
    obtain ⟨g,n,c,-,rfl,-⟩:=hp.aptr_inv h1
    exact ⟨_,_,rfl,rfl,rfl⟩
theorem zq1 {S:Nat→Nat→Prop} {cells:List PV} {b o k:Nat} {v:Value} (h:RepV S w C (.rptr cells) v) (hv:v = .pointer (some ⟨b,o,none⟩)):RepV S w C (.rptr (cells.drop k)) (.pointer (some ⟨b,o + k,none⟩)):=by
 obtain ⟨b',o',y,e,h1,h2⟩:=h.rptr_inv
 rw [hv] at e
 obtain ⟨rfl,rfl⟩:b=b'∧o=o':=by simpa using e
 exact .rptr _ b (o + k) (fun j=>y (k + j)) (fun j p hp=>by rw [ybg] at hp; have:=h1 _ _ hp; rwa [show o + (k + j)=o + k + j by omega] at this) (fun j p hp=>by rw [ybg] at hp; exact h2 _ _ hp)
theorem ztN (hr : HR x C st.heap w) {p : PV} {v : Value} (hp : RepV (zu x C st.heap w) w C p v) {off : Nat} {r : PV} {H' : List AObj} {l : LOpd} (hl : l.ev st = p) (h : zo st (.addr off l) = some (r, H')) :
    H'=st.heap∧∃ b o,v = .pointer (some ⟨b,o,none⟩)∧RepV (zu x C st.heap w) w C r (.pointer (some ⟨b,o + off,none⟩)):=by
  simp only [zo,hl] at h
  split at h <;> try (cases h; done)
  · cases h; obtain ⟨rfl,hi⟩:=hp.ptr_inv; exact ⟨rfl,_,_,rfl,.ptr _ _ hi⟩
  · cases h; obtain ⟨b,o,y,e,-⟩:=hp.rptr_inv; exact ⟨rfl,_,_,e,zq1 hp e⟩
  · split at h <;> try (cases h; done)
    rename_i hid
    split at h <;> try (cases h; done)
    rename_i hv
    cases h
    subst hv
    obtain ⟨h1,-⟩:=hr.obj _ _ hid
    obtain ⟨g,n,c,e,rfl,hi⟩:=hp.aptr_inv h1
    refine ⟨rfl,_,_,rfl,?_⟩
    rw [← h1,ybc]
    exact .aptr _ _ _ _ g n c hi e
theorem zmV {s : TypeId} {fs : Array Field} {f : Field} {i n : Nat} {b o : Nat} (hu : P.underlying s = some (.struct fs)) (hf : fs[i]? = some f) (hn : zaO P f.type = some n) (hp : 0 < n) :
    (Instr.fieldAt s (.pointer (some ⟨b,o,none⟩)) i).run P w = .ok (.pointer (some ⟨b,o + f.offset,none⟩)) w:=by
  have:¬ (n=0):=by omega
  simp only [Instr.fieldAt,yal,run_underlying hu,Result.andThen_ok,hf,Instr.sureAddr,yay,fieldPlace,Z5 hn,this,if_false,zef]
theorem zhm {p : PV} {v : Value} (hr : HR x C st.heap w) (hp : RepV (zu x C st.heap w) w C p v) {n : Nat} (h : zcQ st.heap p = some n) :
    ∃ ad c,v = .slice ad n c:=by
  cases p <;> simp only [zcQ,reduceCtorEq,yae] at h
  case nilsl=>subst h; exact ⟨_,_,hp.nilsl_inv⟩
  case list rows =>
    subst h
    have:=hp.list_inv
    cases this with
    | list rows ad c=>exact ⟨_,_,rfl⟩
  case vlist rows =>
    subst h
    cases hp with
    | pure h=>cases h
    | vlist rows ad c=>exact ⟨_,_,rfl⟩
  case oll rows =>
    subst h
    cases hp with
    | pure h=>cases h
    | oll rows h =>
      cases h with
      | list rows ad c=>exact ⟨_,_,rfl⟩
  case arr id ver =>
    split at h <;> try (cases h; done)
    rename_i hid
    split at h <;> try (cases h; done)
    rename_i hv
    subst hv
    simp only [yae] at h
    subst h
    obtain ⟨h1,h2,h3,xs,h4,h5⟩:=hr.obj id _ hid
    obtain ⟨rfl,hi⟩:=hp.arr_inv h1
    rcases h4.2 with ⟨e1,e2⟩ | ⟨g,cap,cur,e1,-⟩
    · rw [e1,e2]; exact ⟨_,_,rfl⟩
    · rw [e1]; exact ⟨_,_,rfl⟩
theorem zpt (hr : HR x C st.heap w) {p : PV} {v : Value} (hp : RepV (zu x C st.heap w) w C p v) {sz : Nat} {k : Int} {r : PV} {H' : List AObj} {lx li : LOpd} (hl : lx.ev st = p) (hk : zdI st li = some k) (hsz : 0 < sz) {t e : TypeId}
    (hu:P.underlying t=some (.slice e)) (hs:zaO P e=some sz) (h:zo st (.iaddrS sz lx li)=some (r,H')) :
    H'=st.heap∧∃ vv,(Instr.indexAt t v (.int .i64 k)).run P w = .ok vv w∧RepV (zu x C st.heap w) w C r vv:=by
  have run:∀ (b o n c:Nat),0≤k→k < n→(Instr.indexAt t (.slice (some ⟨b,o,none⟩) n c) (.int .i64 k)).run P w = .ok (.pointer (some ⟨b,o + k.toNat * sz,none⟩)) w:=by
    intro b o n c h0 h1
    simp [Instr.indexAt,yal,asIntOf,run_underlying hu,h0,h1,Z5 hs,zef]
  simp only [zo,hl,hk] at h
  split at h <;> try (cases h; done)
  · rename_i rows k' e1
    cases e1
    split at h <;> try (cases h; done)
    rename_i hb
    split at h <;> try (cases h; done)
    rename_i row hrow
    split at h <;> try (cases h; done)
    rename_i hrl
    cases h
    refine ⟨rfl,?_⟩
    have:=hp.list_inv
    cases this with
    | list rows ad c sz' f hc hm hsz' hz hl' hf =>
      have e2:sz'=row.length:=(hz row (yaf hrow)).symm
      subst e2
      obtain ⟨b,o,rfl,-⟩:=hl' _ row 0 (row[0]'(by omega)) hrow (yac (by omega))
      refine ⟨_,run b o rows.length c hb.1 hb.2,?_⟩
      rw [← hrl]
      refine .rptr row b (o + k.toNat * row.length) (fun j=>f k.toNat j) (fun j p hp=>?_) (fun j p hp=>hf _ row j p hrow hp)
      obtain ⟨b',o',e3,e4,e5⟩:=hl' _ row j p hrow hp
      obtain ⟨rfl,rfl⟩:b=b'∧o=o':=by simpa using e3
      exact ⟨e4,e5⟩
  · rename_i rows k' e1
    cases e1
    split at h <;> try (cases h; done)
    rename_i hb
    split at h <;> try (cases h; done)
    rename_i row hrow
    split at h <;> try (cases h; done)
    rename_i hrl
    cases h
    refine ⟨rfl,?_⟩
    cases hp with
    | pure g=>cases g
    | oll rows g =>
      cases g with
      | list rows ad c sz' f hc hm hsz' hz hl' hf =>
        have e2:sz'=row.length:=(hz row (yaf hrow)).symm
        subst e2
        obtain ⟨b,o,rfl,-⟩:=hl' _ row 0 (row[0]'(by omega)) hrow (yac (by omega))
        refine ⟨_,run b o rows.length c hb.1 hb.2,?_⟩
        rw [← hrl]
        refine .olp row (.rptr row b (o + k.toNat * row.length) (fun j=>f k.toNat j) (fun j p hp=>?_) (fun j p hp=>hf _ row j p hrow hp))
        obtain ⟨b',o',e3,e4,e5⟩:=hl' _ row j p hrow hp
        obtain ⟨rfl,rfl⟩:b=b'∧o=o':=by simpa using e3
        exact ⟨e4,e5⟩
  · rename_i id ver k' e1
    cases e1
    split at h <;> try (cases h; done)
    rename_i v' st' ipu T sz' rows hid
    split at h <;> try (cases h; done)
    rename_i hb
    obtain ⟨rfl,rfl,hb0,hb1⟩:=hb
    cases h
    refine ⟨rfl,?_⟩
    obtain ⟨h1,h2,h3,xs,h4,h5⟩:=hr.obj id _ hid
    obtain ⟨rfl,hi⟩:=hp.arr_inv h1
    rcases h4.2 with ⟨e1,e2⟩ | ⟨g,cap,cur,e1,-⟩
    · omega
    · rw [e1]
      refine ⟨_,run g 0 rows.length cap hb0 hb1,?_⟩
      rw [← h1,yaF]
      have:=RepV.aptr (S:=zu x C st.heap w) (w:=w) (C:=C) id sz' k.toNat 0 g rows.length cap hi e1
      simpa using this
theorem zq2 (hr : HR x C st.heap w) (he : ∀ t, RepV (zu x C st.heap w) w C (st.env t) (a.tmps.getD t Go.undef)) {X : Operand} {lx : LOpd} (hlx : zaK X = some lx) {lo hi : Option Operand} {llo lhi : Option LOpd} (hlo : ziE lo = some llo) (hhi : ziE hi = some lhi)
    {sz:Nat} {t:TypeId} (ht:(sz=0∧P.underlying t=some .string)∨∃ e,P.underlying t=some (.slice e)∧zaO P e=some sz∧0 < sz) {r:PV} {H':List AObj} (h:zo st (.slc sz lx llo lhi)=some (r,H')) :
    H'=st.heap∧∃ vv,(Instr.sliceAt t (a.eval X) (lo.map a.eval) (hi.map a.eval) none).run P w = .ok vv w∧RepV (zu x C st.heap w) w C r vv:=by
  have hp:=zau (st:=st) he hlx
  have fin : ∀ (rows : List (List PV)) (l h : Int) (v : Value), v = a.eval X → RepP (zu x C st.heap w) w (.list rows) v → 0 < sz → (∀ row ∈ rows, row.length = sz) → zf3 st llo = some l → zc0 st rows.length lhi = some h → 0 ≤ l → l ≤ h → h ≤ rows.length →
      ∃ vv,(Instr.sliceAt t v (lo.map a.eval) (hi.map a.eval) none).run P w = .ok vv w∧RepP (zu x C st.heap w) w (.list ((rows.drop l.toNat).take (h - l).toNat)) vv:=by
    intro rows l h v hv hrep hsz hz h1 h2 h3 h4 h5
    rcases ht with ⟨e,-⟩ | ⟨e,hu,hs,-⟩
    · omega
    · cases hrep with
      | list rows ad c sz' f hc hm hsz' hz' hl' hf =>
        have hb:=zjb (P:=P) (w:=w) he hlo hhi h1 h2 h3 h4 h5 hc true
        have hrep':RepP (zu x C st.heap w) w (.list rows) (.slice ad rows.length c) := .list rows ad c sz' f hc hm hsz' hz' hl' hf
        have:=ziG hrep' hsz hz (l:=l.toNat) (h:=h.toNat) (by omega) (by omega)
        rw [show h.toNat - l.toNat=(h - l).toNat by omega] at this
        refine ⟨_,?_,this⟩
        simp only [Instr.sliceAt,Instr.slice,yal,run_underlying hu,Result.andThen_ok,hb,Z5 hs,yay]
        congr 2
        omega
  simp only [zo] at h
  split at h <;> try (cases h; done)
  · rename_i b hb
    split at h <;> try (cases h; done)
    rename_i l hh e1 e2
    split at h <;> try (cases h; done)
    rename_i hc
    cases h
    rw [hb] at hp
    have hv:=hp.str_inv
    obtain ⟨hsz,hc⟩:=hc
    rcases ht with ⟨-,hu⟩ | ⟨e,-,-,h0⟩
    · have hbr:=zjb (P:=P) (w:=w) he hlo hhi e1 e2 hc.1 hc.2.1 hc.2.2 (yag _) false
      refine ⟨rfl,.string (b.extract l.toNat hh.toNat),?_,.pure (.str _)⟩
      rw [hv]
      simp only [Instr.sliceAt,Instr.slice,yal,run_underlying hu,Result.andThen_ok,Option.isSome_none,yap,if_false,hbr,yay]
    · omega
  · rename_i id ver hb
    split at h <;> try (cases h; done)
    rename_i v' T sz' rows hid
    split at h <;> try (cases h; done)
    rename_i hvs
    obtain ⟨rfl,rfl⟩:=hvs
    split at h <;> try (cases h; done)
    rename_i l hh e1 e2
    split at h <;> try (cases h; done)
    rename_i hc
    cases h
    rw [hb] at hp
    obtain ⟨q1,q2,q3⟩:=ztM hr hid hp
    obtain ⟨vv,g1,g2⟩:=fin rows l hh _ rfl q1 q2 q3 e1 e2 hc.1 hc.2.1 hc.2.2
    exact ⟨rfl,vv,g1,.pure g2⟩
  · rename_i rows hb
    split at h <;> try (cases h; done)
    rename_i l hh e1 e2
    split at h <;> try (cases h; done)
    rename_i hc
    cases h
    rw [hb] at hp
    obtain ⟨hsz,hc⟩:=hc
    obtain ⟨vv,g1,g2⟩:=fin rows l hh _ rfl hp.list_inv hsz hc.2.2.2 e1 e2 hc.1 hc.2.1 hc.2.2.1
    exact ⟨rfl,vv,g1,.pure g2⟩
end
section
variable {P:Program} {x:Cx} {C:Conc} {w:World} {st:St} {a:Act}
theorem zhn {row:List PV} {n:Int} (h:zmN row=some n):row = [.int .u8 n]:=by
 unfold zmN at h
 split at h <;> first | (cases h; rfl) | cases h
theorem zoj {S : Nat → Nat → Prop} : ∀ {rows : List (List PV)} {l : List UInt8} {us : List Value}, bytesOf rows = some l → us.length = rows.length → (∀ (k : Nat) row p u, rows[k]? = some row → row[0]? = some p → us[k]? = some u → RepV S w C p u) →
    ∃ ns:List Int,us=ns.map (Value.int .u8)∧l=ns.map fun n=>n.toNat.toUInt8
  | [],l,us,h,hl,_=>by
    simp only [bytesOf,yae] at h; subst h
    obtain rfl:us = []:=yaH hl
    exact ⟨[],rfl,rfl⟩
  | row :: rows,l,us,h,hl,hr=>by
    cases us with
    | nil=>simp at hl
    | cons u us =>
      simp only [bytesOf] at h
      split at h <;> try (cases h; done)
      rename_i n l' hb h1
      cases h
      obtain rfl:=zhn hb
      obtain ⟨ns,h2,h3⟩:=zoj h1 (by simpa using hl) (fun k row p u a b c=>hr (k + 1) row p u (by simpa using a) b (by simpa using c))
      have:=(hr 0 _ _ u rfl rfl rfl).int_inv
      exact ⟨n :: ns,by rw [this,h2]; rfl,by rw [h3]; rfl⟩
theorem zlc (ns:List Int):∀ (r:ByteArray),(ns.foldl (fun r n=>r.push (UInt8.ofNat n.toNat)) r).data.toList=r.data.toList ++ ns.map fun n=>n.toNat.toUInt8:=by
 induction ns with
 | nil=>intro r; simp
 | cons n ns ih=>intro r; rw [List.foldl_cons,ih]; simp [ByteArray.push]
theorem zxq (hr : HR x C st.heap w) {p : PV} {v : Value} (hp : RepV (zu x C st.heap w) w C p v) {rows : List (List PV)} {l : List UInt8} (hro : zcC st.heap p = some rows) (hl : bytesOf rows = some l) :
    (Conv.bytesToString v).run P w = .ok (.string ⟨l.toArray⟩) w:=by
  have happ:zch st.heap 1 p=some (true,rows):=by
    cases p <;> simp only [zcC,reduceCtorEq] at hro <;> simp only [zch,zcC,hro,yaM]
  have hrow1:∀ row ∈ rows,row.length=1:=by
    have:∀ (rows:List (List PV)) (l:List UInt8),bytesOf rows=some l→∀ row ∈ rows,row.length=1:=by
      intro rows
      induction rows with
      | nil=>intro l h row hr; cases hr
      | cons row rows ih =>
        intro l h r hr
        simp only [bytesOf] at h
        split at h <;> try (cases h; done)
        rename_i n l' hb h1
        cases h
        obtain rfl:=zhn hb
        rcases yaN.1 hr with rfl | hr
        · rfl
        · exact ih l' h1 r hr
    exact this rows l hl
  obtain ⟨news,n1,n2,n3,n4⟩:=zqW (P:=P) hr hp happ (by omega) hrow1
  obtain ⟨ns,m1,m2⟩:=zoj (S:=zu x C st.heap w) (w:=w) (C:=C) hl (us:=news) (by rw [n1]; omega) (fun k row p u a b c=>(n4 k row 0 p u a b (by simpa using c)).2.1)
  have hlen:ns.length=rows.length:=by have:=congrArg List.length m1; simp at this; omega
  have hform:(v = .slice none 0 0∧rows = [])∨(∃ ad c,v = .slice ad rows.length c):=by
    refine .inr (zhm (n:=rows.length) hr hp ?_)
    cases p <;> simp only [zcC,reduceCtorEq,yae] at hro <;> simp only [zcQ]
    case nilsl=>subst hro; rfl
    case list=>subst hro; rfl
    case arr id ver =>
      split at hro <;> try (cases hro; done)
      rename_i hid
      split at hro <;> try (cases hro; done)
      rename_i hv
      cases hro
      simp [hid,hv]
  have hget:∀ ad c,v = .slice (some ad) rows.length c→(loadCells ad rows.length).run P w = .ok (ns.map (Value.int .u8)).toArray w:=by
    intro ad c e
    have:=n3 w rfl
    rw [e,m1] at this
    simpa [Builtin.firstCells] using this
  have fin:(⟨(ns.map fun n=>n.toNat.toUInt8).toArray⟩:ByteArray)=ns.foldl (fun r n=>r.push (UInt8.ofNat n.toNat)) ByteArray.empty:=by
    have:=zlc ns ByteArray.empty
    simp only [ByteArray.empty,yas] at this
    apply ByteArray.ext
    apply Array.ext'
    rw [show (ByteArray.empty:ByteArray)=⟨#[]⟩ from rfl]
    rw [show ((⟨#[]⟩:ByteArray))=ByteArray.empty from rfl,zlc ns ByteArray.empty]
    rfl
  rcases hform with ⟨rfl,e⟩ | ⟨ad,c,e⟩
  · subst e
    obtain rfl:ns = []:=yaH (by simpa using hlen)
    rw [m2]
    rfl
  · cases ad with
    | none =>
      have hz:rows.length=0:=by
        have:=n3 w rfl
        rw [e] at this
        simp only [Builtin.firstCells,yay] at this
        have h2:news = []:=by have:=congrArg (fun r=>match r with | Result.ok (a:Array Value) _=>a.toList | _ => []) this; simpa using this.symm
        rw [h2] at n1; simp at n1; omega
      obtain rfl:ns = []:=yaH (by omega)
      rw [e,m2]; rfl
    | some ad =>
      have:=hget ad c e
      rw [e,m2,fin]
      exact run_bytesToString w ad rows.length c ns this
theorem sim (hr : HR x C st.heap w) (he : ∀ t, RepV (zu x C st.heap w) w C (st.env t) (a.tmps.getD t Go.undef)) {o : Oper} {lo : LOp} (hl : Z1 P o.op = some lo) {v : PV} {H' : List AObj} (hv : zo st lo = some (v, H')) :
    Zr x C st.heap w ((execOp a.eval o).run P w) v H':=by
  have rep:∀ {X:Operand} {l:LOpd},zaK X=some l→RepV (zu x C st.heap w) w C (l.ev st) (a.eval X):=fun h=>zau he h
  generalize ho:o.op=op at hl
  cases op <;> simp only [Z1] at hl <;> try (cases hl; done)
  case move X =>
    obtain ⟨l,h1,rfl⟩:=yad.1 hl
    simp only [zo,yae,ybd] at hv
    obtain ⟨rfl,rfl⟩:=hv
    exact Zr.same hr (by simp only [execOp,ho,yay]) (rep h1)
  case assign X =>
    obtain ⟨l,h1,rfl⟩:=yad.1 hl
    simp only [zo,yae,ybd] at hv
    obtain ⟨rfl,rfl⟩:=hv
    exact Zr.same hr (by simp only [execOp,ho,yay]) (rep h1)
  case pick c b1 b2 =>
    split at hl <;> try (cases hl; done)
    rename_i lc l1 l2 h1 h2 h3
    cases hl
    simp only [zo] at hv
    split at hv <;> try (cases hv; done)
    rename_i t ht
    cases hv
    have hc:=rep h1
    rw [ht] at hc
    refine Zr.same hr (vv:=if t=true then a.eval b1 else a.eval b2) ?_ (by cases t with | true=>exact rep h2 | false=>exact rep h3)
    simp [execOp,ho,hc.bool_inv,asBool,yal]
  case alloc e =>
    obtain ⟨zs,h1,rfl⟩:=yad.1 hl
    simp only [zo,yae,ybd] at hv
    obtain ⟨rfl,rfl⟩:=hv
    have:=zqZ (P:=P) hr h1
    simpa only [execOp,ho] using this
  case box e X =>
    obtain ⟨l,h1,rfl⟩:=yad.1 hl
    simp only [zo] at hv
    split at hv <;> try (cases hv; done)
    rename_i cs hc
    cases hv
    have:=zxm (P:=P) (e:=e) hr (rep h1) hc
    simpa only [execOp,ho] using this
  case build t parts =>
    split at hl <;> try (cases hl; done)
    rename_i zs pl h1 h2
    obtain ⟨lp,h3,rfl⟩:=yad.1 hl
    simp only [zo] at hv
    obtain ⟨cs,h4,h5⟩:=yad.1 hv
    cases h5
    have:=zq0 (P:=P) hr he h1 h2 h3 h4
    simpa only [execOp,ho] using this
  case buildSlice t len parts =>
    split at hl <;> try (cases hl; done)
    rename_i e hu
    split at hl <;> try (cases hl; done)
    rename_i zs sz r h1 h2 h3
    split at hl <;> try (cases hl; done)
    rename_i hc
    split at hl
    · rename_i h0
      subst h0
      split at hl <;> try (cases hl; done)
      rename_i hp0
      cases hl
      simp only [zo,yae,ybd] at hv
      obtain ⟨rfl,rfl⟩:=hv
      obtain rfl:parts=#[]:=ybp hp0
      have:=zxo (P:=P) hr hu h1 h2 hc.1
      simpa [execOp,ho] using this
    cases hl
    split at hv
    · simp only [zo] at hv
      split at hv <;> try (cases hv; done)
      rename_i rows h4
      split at hv <;> try (cases hv; done)
      rename_i hpu
      cases hv
      have:=ztL (P:=P) hr he hu h1 h2 h3 hc.1 hc.2 h4 hpu
      simpa only [execOp,ho] using this
    simp only [zo] at hv
    obtain ⟨rows,h4,h5⟩:=yad.1 hv
    cases h5
    have:=zxn (P:=P) hr he hu h1 h2 h3 hc.1 hc.2 h4
    simpa only [execOp,ho] using this
  case makeSlice t N N2 =>
    split at hl <;> try (cases hl; done)
    rename_i e hu
    split at hl <;> try (cases hl; done)
    rename_i i zs ln lc hi hz h1 h2
    split at hl <;> try (cases hl; done)
    rename_i hc
    cases hl
    simp only [zo] at hv
    split at hv <;> try (cases hv; done)
    rename_i k k' hk hk'
    split at hv <;> try (cases hv; done)
    rename_i hcond
    obtain ⟨rfl,h0,hb,hzl,hpure⟩:=hcond
    cases hv
    have:=zxp (P:=P) hr hu hi hz hc.1 hc.2 h0 hb hzl
    simpa only [execOp,ho,zbA he h1 hk,zbA he h2 hk'] using this
  case load t X =>
    split at hl <;> try (cases hl; done)
    rename_i n ag l h1 h2 h3
    split at hl <;> try (cases hl; done)
    rename_i hone
    cases hl
    simp only [zo] at hv
    obtain ⟨r,h4,h5⟩:=yad.1 hv
    cases h5
    have:=ztJ (P:=P) hr (rep h3) h1 h2 hone h4
    simpa only [execOp,ho] using this
  case store t X Y =>
    split at hl <;> try (cases hl; done)
    rename_i n l1 l2 h1 h2 h3
    cases hl
    simp only [zo] at hv
    split at hv <;> try (cases hv; done)
    rename_i vs hvs
    split at hv <;> try (cases hv; done)
    rename_i hn
    obtain ⟨H1,h4,h5⟩:=yad.1 hv
    cases h5
    have:=zqV (P:=P) hr (rep h2) (rep h3) h1 hvs hn h4
    simpa only [execOp,ho] using this
  case nilCheck X =>
    obtain ⟨l,h1,rfl⟩:=yad.1 hl
    obtain ⟨b,o',e1,rfl,rfl⟩:=zps hr (rep h1) rfl hv
    have h2:=rep h1
    rw [e1] at h2
    exact Zr.same hr (by simp only [execOp,ho,e1,yay]) h2
  case makeFunc fn first caps =>
    cases fn <;> simp only [reduceCtorEq] at hl
    rename_i f
    split at hl
    · rename_i h0
      obtain ⟨lc,h1,rfl⟩:=yad.1 hl
      simp only [zo,yae,ybd] at hv
      obtain ⟨rfl,rfl⟩:=hv
      obtain ⟨g1,g2⟩:=zci (st:=st) he h1
      have hfirst:first=#[]:=ybp h0
      refine Zr.same hr (vv := .func (.func f) #[] (caps.toList.map a.eval).toArray) ?_ (.clo f _ _ g1 g2)
      have e9:Array.map a.eval caps=(List.map a.eval caps.toList).toArray:=by apply Array.ext'; simp
      simp [execOp,ho,Instr.makeFunc,hfirst,yal,e9]
    · split at hl <;> try (cases hl; done)
      rename_i h00 h0
      obtain ⟨lc,h1,rfl⟩:=yad.1 hl
      simp only [zo,yae,ybd] at hv
      obtain ⟨rfl,rfl⟩:=hv
      obtain ⟨g1,g2⟩:=zci (st:=st) he h1
      have hcaps:caps=#[]:=ybp h0
      refine Zr.same hr (vv := .func (.func f) (first.toList.map a.eval).toArray #[]) ?_ (.clob f _ _ g1 g2)
      have e9:Array.map a.eval first=(List.map a.eval first.toList).toArray:=by apply Array.ext'; simp
      simp [execOp,ho,Instr.makeFunc,hcaps,yal,e9]
  case field t X i =>
    split at hl <;> try (cases hl; done)
    rename_i fs l hu h1
    split at hl <;> try (cases hl; done)
    rename_i f hf
    split at hl <;> try (cases hl; done)
    rename_i n ag hn hag
    cases hl
    simp only [zo] at hv
    split at hv <;> try (cases hv; done)
    rename_i cs hcs
    obtain ⟨r,h4,h5⟩:=yad.1 hv
    cases h5
    have h2:=rep h1
    rw [hcs] at h2
    obtain ⟨us,e1,ul,u1,u2⟩:=h2.agg_inv
    obtain ⟨vv,g1,g2⟩:=zog (P:=P) ul u1 u2 hn hag h4
    refine Zr.same hr (vv:=vv) ?_ g2
    simp only [execOp,ho]
    exact ZH (by simp only [Instr.field,yal,run_underlying hu,Result.andThen_ok,hf,e1,asAgg,yay,g1])
  case fieldAddr s X i =>
    split at hl <;> try (cases hl; done)
    rename_i fs l hu h1
    split at hl <;> try (cases hl; done)
    rename_i f hf
    split at hl <;> try (cases hl; done)
    rename_i n hn
    split at hl <;> try (cases hl; done)
    rename_i hpos
    cases hl
    obtain ⟨rfl,b,o',e1,g2⟩:=ztN hr (rep h1) rfl hv
    refine Zr.same hr ?_ g2
    simp only [execOp,ho,e1]
    exact ZH (zmV hu hf hn hpos)
  case indexAddr t X Y =>
    split at hl <;> try (cases hl; done)
    · rename_i n e l1 l2 hu h1 h2
      split at hl <;> try (cases hl; done)
      rename_i sz hs
      cases hl
      simp only [zo] at hv
      split at hv <;> try (cases hv; done)
      rename_i id off k hx hk
      split at hv <;> try (cases hv; done)
      rename_i hb
      cases hv
      have h3:=rep h1
      rw [hx] at h3
      obtain ⟨e1,hi⟩:=h3.ptr_inv
      have e2:=zbA he h2 hk
      refine Zr.same hr (vv := .pointer (some ⟨C.blk id,off + k.toNat * sz,none⟩)) ?_ (.ptr _ _ hi)
      simp only [execOp,ho,e1,e2]
      refine ZH ?_
      simp [Instr.indexAt,yal,asIntOf,run_underlying hu,Instr.sureAddr,hb.1,hb.2,Z5 hs,zef]
    · rename_i e l1 l2 hu h1 h2
      split at hl <;> try (cases hl; done)
      rename_i sz hs
      split at hl <;> try (cases hl; done)
      rename_i hpos
      cases hl
      have hk:∃ k,zdI st l2=some k:=by
        simp only [zo] at hv
        cases hki:zdI st l2 with
        | some k=>exact ⟨k,rfl⟩
        | none=>rw [hki] at hv; split at hv <;> simp_all
      obtain ⟨k,hk⟩:=hk
      have e2:=zbA he h2 hk
      obtain ⟨rfl,vv,g1,g2⟩:=zpt (P:=P) hr (rep h1) rfl hk hpos hu hs hv
      refine Zr.same hr ?_ g2
      simp only [execOp,ho,e2]
      exact ZH g1
  case index t X Y =>
    split at hl <;> try (cases hl; done)
    · rename_i n e l1 l2 hu h1 h2
      split at hl <;> try (cases hl; done)
      rename_i sz ag hs hag
      cases hl
      simp only [zo] at hv
      split at hv <;> try (cases hv; done)
      rename_i cs k hcs hk
      split at hv <;> try (cases hv; done)
      rename_i hb
      obtain ⟨r,h4,h5⟩:=yad.1 hv
      cases h5
      have h3:=rep h1
      rw [hcs] at h3
      obtain ⟨us,e1,ul,u1,u2⟩:=h3.agg_inv
      have e2:=zbA he h2 hk
      obtain ⟨vv,g1,g2⟩:=zog (P:=P) ul u1 u2 hs hag h4
      refine Zr.same hr (vv:=vv) ?_ g2
      simp only [execOp,ho,e1,e2]
      refine ZH ?_
      simp [Instr.index,yal,asIntOf,run_underlying hu,hb.1,hb.2,Z5 hs,g1]
    · rename_i l1 l2 hu h1 h2
      cases hl
      simp only [zo] at hv
      split at hv <;> try (cases hv; done)
      rename_i b k hcs hk
      split at hv <;> try (cases hv; done)
      rename_i hb
      split at hv <;> try (cases hv; done)
      rename_i c hc
      cases hv
      have h3:=rep h1
      rw [hcs] at h3
      have e2:=zbA he h2 hk
      refine Zr.same hr (vv := .int .u8 c.toNat) ?_ (.pure (.int _ _))
      simp only [execOp,ho,h3.str_inv,e2]
      refine ZH ?_
      simp [Instr.index,yal,asIntOf,run_underlying hu,hb,hc]
  case extract X i =>
    obtain ⟨l,h1,rfl⟩:=yad.1 hl
    simp only [zo] at hv
    split at hv <;> try (cases hv; done)
    rename_i vs hvs
    split at hv <;> try (cases hv; done)
    rename_i u hu
    cases hv
    have h3:=rep h1
    rw [hvs] at h3
    obtain ⟨us,e1,ul,u2⟩:=h3.tup_inv
    have hi:i < us.length:=by rw [ul]; exact (yab.1 hu).1
    refine Zr.same hr (vv:=us[i]) ?_ (u2 i _ _ hu (by simp [hi]))
    simp only [execOp,ho,e1]
    exact ZH (by simp [Instr.extract,hi])
  case unOp uo t X =>
    cases uo <;> simp only [reduceCtorEq] at hl
    · obtain ⟨l,h1,rfl⟩:=yad.1 hl
      simp only [zo] at hv
      split at hv <;> try (cases hv; done)
      rename_i k n hn
      cases hv
      have h3:=rep h1
      rw [hn] at h3
      refine Zr.same hr (vv := .int k (k.wrap (0 - n))) ?_ (.pure (.int _ _))
      simp only [execOp,ho,h3.int_inv]
      exact ZH rfl
    · obtain ⟨l,h1,rfl⟩:=yad.1 hl
      simp only [zo] at hv
      split at hv <;> try (cases hv; done)
      rename_i b hn
      cases hv
      have h3:=rep h1
      rw [hn] at h3
      refine Zr.same hr (vv := .bool (!b)) ?_ (.pure (.bool _))
      simp only [execOp,ho,h3.bool_inv]
      exact ZH rfl
  case binOp op t X Y yt =>
    have plain:∀ l1 l2,zaK X=some l1→zaK Y=some l2→lo = .bin op l1 l2→Zr x C st.heap w ((execOp a.eval o).run P w) v H':=by
      intro l1 l2 h1 h2 e
      subst e
      simp only [zo] at hv
      obtain ⟨r,h4,h5⟩:=yad.1 hv
      cases h5
      obtain ⟨vv,g1,g2⟩:=zxl (P:=P) w op t h4 (rep h1) (rep h2) X Y
      refine Zr.same hr (vv:=vv) ?_ g2
      simp only [execOp,ho]
      exact ZH g1
    have bools:∀ (neg:Bool) l1 l2,op=(if neg then .neq else .eql)→P.underlying t=some .bool→zaK X=some l1→zaK Y=some l2→lo = .binb neg l1 l2→Zr x C st.heap w ((execOp a.eval o).run P w) v H':=by
      intro neg l1 l2 e0 hu h1 h2 e
      subst e
      simp only [zo] at hv
      split at hv <;> try (cases hv; done)
      rename_i b1 b2 e1 e2
      cases hv
      have h3:=rep h1
      have h4:=rep h2
      rw [e1] at h3
      rw [e2] at h4
      refine Zr.same hr (vv := .bool (if neg then !decide (b1=b2) else decide (b1=b2))) ?_ (.pure (.bool _))
      simp only [execOp,ho,h3.bool_inv,h4.bool_inv,e0]
      exact ZH (zlb w t hu neg X Y)
    have aggs:∀ (neg:Bool) ks l1 l2,op=(if neg then .neq else .eql)→ztI P t=some ks→zaK X=some l1→zaK Y=some l2→lo = .eqag neg ks l1 l2→Zr x C st.heap w ((execOp a.eval o).run P w) v H':=by
      intro neg ks l1 l2 e0 hf h1 h2 e
      subst e
      simp only [zo] at hv
      split at hv <;> try (cases hv; done)
      rename_i xs ys e1 e2
      obtain ⟨r,h5,h6⟩:=yad.1 hv
      cases h6
      have h3:=rep h1
      have h4:=rep h2
      rw [e1] at h3
      rw [e2] at h4
      have:=ztK (P:=P) (neg:=neg) (t:=t) hr h3 h4 hf h5 X Y
      simpa only [execOp,ho,e0] using this
    split at hl
    · rename_i hu h1 h2; exact plain _ _ h1 h2 (by cases hl; rfl)
    · rename_i hu h1 h2; exact plain _ _ h1 h2 (by cases hl; rfl)
    · rename_i hu h1 h2
      split at hl
      · rename_i e; exact bools false _ _ e hu h1 h2 (by cases hl; rfl)
      · split at hl
        · rename_i e; exact bools true _ _ e hu h1 h2 (by cases hl; rfl)
        · cases hl
    · split at hl
      · cases hl; simp [zo] at hv
      · split at hl
        · cases hl; simp [zo] at hv
        · cases hl
    · rename_i h1 h2 _ _ _ _
      split at hl <;> try (cases hl; done)
      rename_i ks hf
      split at hl
      · rename_i e; exact aggs false ks _ _ e hf h1 h2 (by cases hl; rfl)
      · split at hl
        · rename_i e; exact aggs true ks _ _ e hf h1 h2 (by cases hl; rfl)
        · cases hl
    · cases hl
  case convert s d X =>
    split at hl <;> try (cases hl; done)
    · rename_i k1 k2 l1 hs hd h1
      cases hl
      simp only [zo] at hv
      split at hv <;> try (cases hv; done)
      rename_i k0 n hn
      cases hv
      have h3:=rep h1
      rw [hn] at h3
      refine Zr.same hr (vv := .int k2 (k2.wrap n)) ?_ (.pure (.int _ _))
      simp only [execOp,ho,h3.int_inv]
      exact ZH (by simp [convert,yal,run_underlying hs,run_underlying hd,Conv.intToInt])
    · rename_i e l1 hs hd h1
      split at hl <;> try (cases hl; done)
      rename_i he8
      cases hl
      simp only [zo] at hv
      obtain ⟨l,h4,h5⟩:=yad.1 hv
      cases h5
      obtain ⟨rows,h6,h7⟩:=ybo.1 h4
      have g1:=zxq (P:=P) hr (rep h1) h6 h7
      refine Zr.same hr (vv := .string ⟨l.toArray⟩) ?_ (.pure (.str _))
      simp only [execOp,ho]
      have hform:∃ ad n c,a.eval X = .slice ad n c:=by
        cases hx:a.eval X <;> rw [hx] at g1 <;> first | exact ⟨_,_,_,rfl⟩ | (simp [Conv.bytesToString,stuck] at g1; done)
      obtain ⟨ad,n,c,e1⟩:=hform
      rw [e1] at g1 ⊢
      refine ZH ?_
      simp [convert,yal,run_underlying hs,run_underlying hd,run_underlying he8,g1]
  case slice t X lo' hi' mx =>
    cases mx <;> simp only [reduceCtorEq] at hl
    split at hl <;> try (cases hl; done)
    · rename_i l1 llo lhi hu h1 h2 h3
      cases hl
      obtain ⟨rfl,vv,g1,g2⟩:=zq2 (P:=P) hr he h1 h2 h3 (.inl ⟨rfl,hu⟩) hv
      refine Zr.same hr (vv:=vv) ?_ g2
      simp only [execOp,ho]
      exact ZH g1
    · rename_i e l1 llo lhi hu h1 h2 h3
      split at hl <;> try (cases hl; done)
      rename_i sz hs
      split at hl <;> try (cases hl; done)
      rename_i hpos
      cases hl
      obtain ⟨rfl,vv,g1,g2⟩:=zq2 (P:=P) hr he h1 h2 h3 (.inr ⟨e,hu,hs,hpos⟩) hv
      refine Zr.same hr (vv:=vv) ?_ g2
      simp only [execOp,ho]
      exact ZH g1
  case call c =>
    have two:∀ (l:Array Operand) X Y,l.toList = [X,Y]→l=#[X,Y]:=fun l X Y h=>by cases l; simp_all
    have two':∀ (l:Array TypeId) X Y,l.toList = [X,Y]→l=#[X,Y]:=fun l X Y h=>by cases l; simp_all
    have one:∀ (l:Array Operand) X,l.toList = [X]→l=#[X]:=fun l X h=>by cases l; simp_all
    have one':∀ (l:Array TypeId) X,l.toList = [X]→l=#[X]:=fun l X h=>by cases l; simp_all
    obtain ⟨callee,args,tys⟩:=c
    dsimp only at hl
    split at hl <;> try (cases hl; done)
    · rename_i t X htys hargs
      obtain rfl:=one _ _ hargs
      obtain rfl:=one' _ _ htys
      have hex:∀ v' w',(Builtin.len_ #[t] o.type #[a.eval X]).run P w = .ok v' w'→(execOp a.eval o).run P w = .ok (.value v') w':=by
        intro v' w' h
        simp only [execOp,ho,resolve,yal,yay,Result.andThen_ok,invoke,builtin,ycd,yaA,ya3,h]
      split at hl <;> try (cases hl; done)
      · rename_i l hu h1
        cases hl
        simp only [zo] at hv
        split at hv <;> try (cases hv; done)
        rename_i b hb
        cases hv
        have h3:=rep h1
        rw [hb] at h3
        refine Zr.same hr (hex (goInt b.size) w ?_) (.pure (.int _ _))
        simp [Builtin.len_,yal,run_underlying hu,h3.str_inv]
      · rename_i e l hu h1
        cases hl
        simp only [zo] at hv
        obtain ⟨n,h4,h5⟩:=yad.1 hv
        cases h5
        obtain ⟨ad,c,e1⟩:=zhm hr (rep h1) h4
        refine Zr.same hr (hex (goInt n) w ?_) (.pure (.int _ _))
        simp [Builtin.len_,yal,run_underlying hu,e1]
    · rename_i X Y hargs
      obtain rfl:=two _ _ _ hargs
      split at hl <;> try (cases hl; done)
      rename_i l1 l2 h1 h2
      cases hl
      simp only [zo] at hv
      split at hv <;> try (cases hv; done)
      rename_i k n1 k' n2 e1 e2
      split at hv <;> try (cases hv; done)
      rename_i hk
      cases hv
      subst hk
      have h3:=rep h1
      have h4:=rep h2
      rw [e1] at h3
      rw [e2] at h4
      refine Zr.same hr (vv := .int k (if n2 < n1 then n2 else n1)) ?_ (.pure (.int _ _))
      simp only [execOp,ho,resolve,yal,yay,Result.andThen_ok,invoke,builtin,ycd,yaA,ya3,h3.int_inv,h4.int_inv,Builtin.min_]
      simp [Builtin.min2,yal]
    · rename_i X Y hargs
      obtain rfl:=two _ _ _ hargs
      split at hl <;> try (cases hl; done)
      rename_i l1 l2 h1 h2
      cases hl
      simp only [zo] at hv
      split at hv <;> try (cases hv; done)
      rename_i k n1 k' n2 e1 e2
      split at hv <;> try (cases hv; done)
      rename_i hk
      cases hv
      subst hk
      have h3:=rep h1
      have h4:=rep h2
      rw [e1] at h3
      rw [e2] at h4
      refine Zr.same hr (vv := .int k (if n1 < n2 then n2 else n1)) ?_ (.pure (.int _ _))
      simp only [execOp,ho,resolve,yal,yay,Result.andThen_ok,invoke,builtin,ycd,yaA,ya3,h3.int_inv,h4.int_inv,Builtin.max_]
      simp [Builtin.max2,yal]
    · rename_i t u X Y htys hargs
      obtain rfl:=two _ _ _ hargs
      obtain rfl:=two' _ _ _ htys
      split at hl <;> try (cases hl; done)
      rename_i e l1 l2 hu h1 h2
      split at hl <;> try (cases hl; done)
      rename_i i hi
      split at hl <;> try (cases hl; done)
      rename_i z hz
      split at hl <;> try (cases hl; done)
      rename_i hc
      cases hl
      simp only [zo] at hv
      have hu2:P.underlying u=some .string∨∃ e',P.underlying u=some (.slice e'):=by
        rcases hc.2.2.2 with rfl | ⟨g,-⟩
        · exact .inr ⟨e,hu⟩
        · unfold zvF at g
          split at g
          · rename_i g2; exact .inl g2
          · cases g
      have:=zpr (P:=P) (ty:=o.type) hr (rep h1) (rep h2) hu hu2 hi hz hc.2.2.1 hc.1 hc.2.1 hv
      simpa only [execOp,ho,resolve,yal,yay,Result.andThen_ok,invoke,builtin,ycd,yaA,ya3] using this
    · split at hl <;> try (cases hl; done)
      obtain ⟨ls,h1,rfl⟩:=yad.1 hl
      simp [zo] at hv
    · split at hl <;> try (cases hl; done)
      cases hl
      simp [zo] at hv
end
def zp (nl:Bool) (f:Nat→Option Nat) (fz:Nat→Nat→PV):PV→PV
 | .ptr id off=>match f id with | some i => .ptr i off | none => .top
 | .aptr id ver sz idx off=>match f id with | some i => .aptr i ver sz idx off | none => .top
 | .arr id ver=>match f id with | some i => .arr i ver | none=>fz id ver
 | .nilsl=>if nl then .list [] else .nilsl
 | .agg _ | .tup _ | .clo .. | .clob .. | .vlist _ => .top
 | p=>p
def zn (nl:Bool) (f:Nat→Option Nat) (fz:Nat→Nat→PV):PV→PV
 | .clo g cs => .clo g (cs.map (zp nl f fz))
 | .clob g cs => .clob g (cs.map (zp nl f fz))
 | p=>zp nl f fz p
def ren (nl:Bool) (f:Nat→Option Nat) (fz:Nat→Nat→PV):PV→PV
 | .agg cs => .agg (cs.map (zn nl f fz))
 | .vlist rows => .vlist (rows.map (·.map (zn nl f fz)))
 | p=>zn nl f fz p
def zdA (nl:Bool) (f:Nat→Option Nat) (fz:Nat→Nat→PV):PV→PV
 | .tup vs => .tup (vs.map (ren nl f fz))
 | p=>ren nl f fz p
def zf (f:Nat→Option Nat) (fz:Nat→Nat→PV):AObj→AObj
 | .box cells => .box (cells.map (zn false f fz))
 | .arr ver st ipu T sz rows => .arr ver st ipu T sz (if ipu then rows.map (·.map (zn false f fz)) else rows)
 | .gone => .gone
def zt (all:Bool) (H:List AObj) (id ver:Nat):PV:=match H[id]? with
 | some (.arr v st false _ _ rows)=>if v=ver∧(all=true∨st=false) then .list rows else .top
 | _ => .top
section
variable {S S':Nat→Nat→Prop} {w:World} {C C':Conc} {f:Nat→Option Nat} {fz:Nat→Nat→PV} {nl:Bool}
structure RenOk (S S':Nat→Nat→Prop) (w:World) (C C':Conc) (f:Nat→Option Nat) (fz:Nat→Nat→PV):Prop where
 map:∀ id i,f id=some i→id < C.n→i < C'.n∧C'.blk i=C.blk id∧C'.ver i=C.ver id∧C'.sv i=C.sv id
 stab:∀ b o,S b o→S' b o
 frz:∀ id ver v,f id=none→RepV S w C (.arr id ver) v→RepV S' w C' (fz id ver) v
 old:∀ b o,C.old b o→C'.old b o
theorem zfg {S:Nat→Nat→Prop} {w:World}:RepP S w (.list []) (.slice none 0 0) :=
 .list [] none 0 1 (fun _ _=>Go.undef) (by simp) (by unfold maxLen; omega) (by omega) (by simp) (fun k row j p h=>by simp at h) (fun k row j p h=>by simp at h)
theorem RenOk.pure (h:RenOk S S' w C C' f fz) {p:PV} {v:Value} (hp:RepP S w p v):RepP S' w p v:=hp.mono h.stab fun _ _ _=>rfl
theorem zeQ (h:RenOk S S' w C C' f fz) {p:PV} {v:Value} (hp:RepV S w C p v):RepV S' w C' (zp nl f fz p) v:=by
 have keep:∀ {p:PV},RepP S w p v→RepV S' w C' p v:=fun g => .pure (h.pure g)
 cases p <;> simp only [zp] <;> try exact .any
 case undef=>rw [hp.undef_inv]; exact .undef
 case bool b=>rw [hp.bool_inv]; exact .pure (.bool b)
 case int k n=>rw [hp.int_inv]; exact .pure (.int k n)
 case str s=>rw [hp.str_inv]; exact .pure (.str s)
 case nilp=>cases hp with | pure g=>exact keep g
 case nilsl=>rw [hp.nilsl_inv]; cases nl <;> first | exact .pure zfg | exact .pure .nilsl
 case list rows=>exact keep hp.list_inv
 case oll p =>
  cases hp with
  | pure g=>cases g
  | oll p g=>exact .oll p (g.mono h.old fun _ _ _=>rfl)
 case olp p =>
  cases hp with
  | pure g=>cases g
  | olp p g=>exact .olp p (g.mono h.old fun _ _ _=>rfl)
 case ptr id off =>
  obtain ⟨rfl,hi⟩:=hp.ptr_inv
  cases e:f id with
  | none=>exact .any
  | some i =>
   obtain ⟨h1,h2,-⟩:=h.map id i e hi
   simp only []
   rw [← h2]; exact .ptr i off h1
 case aptr id ver sz idx off =>
  cases e:f id with
  | none=>exact .any
  | some i =>
   simp only []
   cases hp with
   | pure g=>cases g
   | aptr id sz idx off g n c hi hs =>
    obtain ⟨h1,h2,h3,h4⟩:=h.map id i e hi
    rw [← h3]; exact .aptr i sz idx off g n c h1 (h4.trans hs)
   | aptrOld id ver sz idx off hi hv h0 =>
    obtain ⟨h1,h2,h3,h4⟩:=h.map id i e hi
    exact .aptrOld i ver sz idx off h1 (by omega) h0
 case rptr cells =>
  obtain ⟨b,o,y,rfl,h1,h2⟩:=hp.rptr_inv
  exact .rptr cells b o y (fun j p hj=>⟨h.stab _ _ (h1 j p hj).1,(h1 j p hj).2⟩) fun j p hj=>h.pure (h2 j p hj)
 case arr id ver =>
  cases e:f id with
  | none=>exact h.frz id ver v e hp
  | some i =>
   simp only []
   cases hp with
   | pure g=>cases g
   | arr id hi h0 =>
    obtain ⟨h1,h2,h3,h4⟩:=h.map id i e hi
    rw [← h3,← h4]; exact .arr i h1 (by rw [h4]; exact h0)
   | arrOld id ver hi hv h0 =>
    obtain ⟨h1,h2,h3,h4⟩:=h.map id i e hi
    exact .arrOld i ver h1 (by omega) h0
theorem zO {α β:Type} {g:α→β} {l:List α} {j:Nat} {q:β} (h:(l.map g)[j]? = some q):∃ p,l[j]? = some p∧g p=q:=by
 rw [yav] at h
 exact yad.1 h
theorem zck (h:RenOk S S' w C C' f fz) {p:PV} {v:Value} (hp:RepV S w C p v):RepV S' w C' (zn nl f fz p) v:=by
 cases p <;> try exact zeQ (nl:=nl) h hp
 case clo g cs =>
  obtain ⟨vs,rfl,hl,hc⟩:=hp.clo_inv
  refine .clo g _ vs (by simpa using hl) fun j q u hq hu=>?_
  obtain ⟨p,h1,rfl⟩:=zO hq
  exact zeQ (nl:=nl) h (hc j p u h1 hu)
 case clob g cs =>
  obtain ⟨vs,rfl,hl,hc⟩:=hp.clob_inv
  refine .clob g _ vs (by simpa using hl) fun j q u hq hu=>?_
  obtain ⟨p,h1,rfl⟩:=zO hq
  exact zeQ (nl:=nl) h (hc j p u h1 hu)
theorem zho (h:RenOk S S' w C C' f fz) {p:PV} {v:Value} (hp:RepV S w C p v):RepV S' w C' (ren nl f fz p) v:=by
  cases p <;> try exact zck (nl:=nl) h hp
  case agg cs =>
    obtain ⟨vs,rfl,hl,h1,hc⟩:=hp.agg_inv
    refine .agg _ vs (by simpa using hl) h1 fun j q u hq hu=>?_
    obtain ⟨p,h1,rfl⟩:=zO hq
    exact zck (nl:=nl) h (hc j p u h1 hu)
  case vlist rows =>
    cases hp with
    | pure g=>cases g
    | vlist rows a c sz x hc hm hsz hz hl hh =>
      have := RepV.vlist (S := S') (w := w) (C := C') (rows.map (·.map (zn nl f fz))) a c sz x (by simpa using hc) hm hsz (fun row hr => by
          obtain ⟨r,h1,rfl⟩:=yaG.1 hr
          rw [yah]; exact hz r h1) (fun k row j p h1 h2=>by
          obtain ⟨r,h3,rfl⟩:=zO h1
          obtain ⟨q,h4,rfl⟩:=zO h2
          obtain ⟨h0,b,o,h5,h6,h7⟩:=hl k r j q h3 h4
          exact ⟨h0,b,o,h5,h.stab _ _ h6,h7⟩) (fun k row j p h1 h2=>by
          obtain ⟨r,h3,rfl⟩:=zO h1
          obtain ⟨q,h4,rfl⟩:=zO h2
          exact zck (nl:=nl) h (hh k r j q h3 h4))
      rw [yah] at this
      exact this
theorem zcE (h:RenOk S S' w C C' f fz) {p:PV} {v:Value} (hp:RepV S w C p v):RepV S' w C' (zdA nl f fz p) v:=by
 cases p <;> try exact zho (nl:=nl) h hp
 case tup cs =>
  obtain ⟨vs,rfl,hl,hc⟩:=hp.tup_inv
  refine .tup _ vs (by simpa using hl) fun j q u hq hu=>?_
  obtain ⟨p,h1,rfl⟩:=zO hq
  exact zho (nl:=nl) h (hc j p u h1 hu)
theorem zf5 (h:RenOk S S' w C C' f fz) {id i:Nat} (hi:f id=some i) (hid:id < C.n) {ob:AObj} (ho:zmJ S w C id ob):zmJ S' w C' i (zf f fz ob):=by
 obtain ⟨h1,h2,h3,h4⟩:=h.map id i hi hid
 cases ob with
 | box cells =>
  obtain ⟨cs,T,e1,e2,e3⟩:=ho
  refine ⟨cs,T,by rw [h2]; exact e1,by simpa using e2,fun j p v a b=>?_⟩
  obtain ⟨q,g1,rfl⟩:=zO a
  exact ⟨(e3 j q v g1 b).1,zck (nl:=false) h (e3 j q v g1 b).2⟩
 | arr ver st ipu T sz rows =>
  obtain ⟨e1,e2,e3,xs,e4,e5⟩:=ho
  cases ipu with
  | false =>
   simp only [zf,yap,if_false]
   refine ⟨h3.trans e1,e2,e3,xs,by rw [h4]; exact e4,fun k row j p v a b c=>?_⟩
   have:=e5 k row j p v a b c
   simp only [yap,if_false] at this ⊢
   exact ⟨this.1,h.pure this.2⟩
  | true =>
   simp only [zf,if_true]
   refine ⟨h3.trans e1,e2,fun row hr=>?_,xs,by rw [h4,yah]; exact e4,fun k row j p v a b c=>?_⟩
   ·
    obtain ⟨r,g1,rfl⟩:=yaG.1 hr
    rw [yah]; exact e3 r g1
   ·
    obtain ⟨r,g3,rfl⟩:=zO a
    obtain ⟨q,g4,rfl⟩:=zO b
    have:=e5 k r j q v g3 g4 c
    simp only [if_true] at this ⊢
    exact ⟨this.1,zck (nl:=false) h this.2⟩
 | gone=>trivial
theorem Z6 {id i:Nat} {ob:AObj} {b:Nat} (h2:C'.blk i=C.blk id) (h4:C'.sv i=C.sv id):(zf f fz ob).holds C' i b↔ob.holds C id b:=by
 cases ob with
 | box cells=>show b=C'.blk i↔b=C.blk id; rw [h2]
 | arr ver st ipu T sz rows=>show (C'.sv i).ownBlock=some b↔(C.sv id).ownBlock=some b; rw [h4]
 | gone=>exact ybR
theorem zeR {id i:Nat} {ob:AObj} {b o:Nat} (h2:C'.blk i=C.blk id) (h4:C'.sv i=C.sv id):(zf f fz ob).free C' i b o↔ob.free C id b o:=by
 cases ob with
 | box cells=>show b≠C'.blk i↔b≠C.blk id; rw [h2]
 | arr ver st ipu T sz rows =>
  show ((C'.sv i).ownBlock=some b→st=false∧ipu=false∧o < (if ipu=true then rows.map (·.map (zn false f fz)) else rows).length * sz)↔((C.sv id).ownBlock=some b→st=false∧ipu=false∧o < rows.length * sz)
  rw [h4]
  cases ipu <;> simp
 | gone=>exact ybR
end
theorem zld {x : Cx} {C : Conc} {H : List AObj} {w : World} (hr : HR x C H w) {all : Bool} {id ver : Nat} {v : Value} (hp : RepV (zu x C H w) w C (.arr id ver) v) {S' : Nat → Nat → Prop} {C' : Conc}
    (hS:∀ b o,zu x C H w b o→S' b o)
    (hown:∀ v' st T sz rows g o,H[id]? = some (.arr v' st false T sz rows)→(all=true∨st=false)→(C.sv id).ownBlock=some g→g < w.heap.size→o < rows.length * sz→S' g o):RepV S' w C' (zt all H id ver) v:=by
  unfold zt
  split <;> try exact .any
  rename_i v' st T sz rows hid
  split <;> try exact .any
  rename_i hv
  obtain ⟨rfl,hall⟩:=hv
  obtain ⟨h1,h2,h3,xs,h4,h5⟩:=hr.obj id _ hid
  obtain ⟨rfl,hi⟩:=hp.arr_inv h1
  rcases h4.2 with ⟨e1,e2⟩ | ⟨g,cap,cur,e1,-,e2,e3,e4,e5,e6⟩
  · have:rows = []:=yaH e2
    subst this
    rw [e1]
    exact .pure zfg
  · have hob:(C.sv id).ownBlock=some g:=by rw [e1]; rfl
    have hlt:=hr.blk_lt hid hob
    rw [e1]
    have key:∀ (k:Nat) row (j:Nat) p,rows[k]? = some row→row[j]? = some p→k * sz + j < rows.length * sz∧xs[k * sz + j]? = some (xs.getD (k * sz + j) Go.undef):=by
      intro k row j p a b
      have hk:k < rows.length:=(yab.1 a).1
      have hj:j < sz:=by rw [← h3 row (yaf a)]; exact (yab.1 b).1
      have hlt:k * sz + j < rows.length * sz:=by
        have:(k + 1) * sz≤rows.length * sz:=yaj _ hk
        rw [yaI] at this; omega
      exact ⟨hlt,by simp [List.getD,yac (show k * sz + j < xs.length by rw [h4.1]; exact hlt)]⟩
    refine .pure (.list rows _ cap sz (fun k j=>xs.getD (k * sz + j) Go.undef) e3 e4 h2 h3 (fun k row j p a b=>⟨g,0,rfl,?_,?_⟩) (fun k row j p a b=>?_))
    · exact hown v' st T sz rows g _ hid hall hob hlt (by have:=(key k row j p a b).1; omega)
    · rw [ZG e2,← yaV,yaF,← (key k row j p a b).2,← e6,yaK,if_pos (key k row j p a b).1]
    · have:=(h5 k row j p _ a b (key k row j p a b).2).2
      simp only [yap,if_false] at this
      exact this.mono hS fun _ _ _=>rfl
def pos:List Nat→Nat→Option Nat
 | [],_=>none
 | k :: ks,id=>if k=id then some 0 else (pos ks id).map (· + 1)
theorem zb1:∀ {ks:List Nat} {id i:Nat},pos ks id=some i→ks[i]? = some id
 | [],_,_,h=>by cases h
 | k :: ks,id,i,h=>by
  simp only [pos] at h
  split at h
  ·
   rename_i e; cases h; simp [e]
  ·
   obtain ⟨j,h1,rfl⟩:=yad.1 h
   simpa using zb1 h1
theorem zg8:∀ {ks:List Nat} {id:Nat},pos ks id=none→id ∉ ks
 | [],_,_=>by simp
 | k :: ks,id,h=>by
  simp only [pos] at h
  split at h
  ·
   cases h
  ·
   rename_i e
   have:=zg8 (ks:=ks) (id:=id) (by simpa using h)
   simp only [yaN,not_or]
   exact ⟨fun h=>e h.symm,this⟩
theorem zmW {ks:List Nat} {id:Nat} (h:id ∈ ks):∃ i,pos ks id=some i:=by
 cases e:pos ks id with
 | some i=>exact ⟨i,rfl⟩
 | none=>exact (zg8 e h).elim
def ze (f:Nat→Option Nat) (fz:Nat→Nat→PV) (H:List AObj) (ks:List Nat):List AObj:=ks.map fun k=>zf f fz (H[k]?.getD .gone)
def Conc.sub (C:Conc) (ks:List Nat):Conc:=⟨ks.length,fun i=>C.blk (ks.getD i 0),fun i=>C.sv (ks.getD i 0),fun i=>C.ver (ks.getD i 0),C.old⟩
theorem zas {ks:List Nat} {i k:Nat} (h:ks[i]? = some k):ks.getD i 0=k:=by simp [List.getD,h]
theorem zbP {f : Nat → Option Nat} {fz : Nat → Nat → PV} {H : List AObj} {ks : List Nat} (hlt : ∀ k ∈ ks, k < H.length) {i : Nat} {ob : AObj} (h : (ze f fz H ks)[i]? = some ob) :
    ∃ k ob1,ks[i]? = some k∧H[k]? = some ob1∧ob=zf f fz ob1:=by
  obtain ⟨k,h1,h2⟩:=zO h
  have:=hlt k (yaf h1)
  rw [yac this] at h2
  exact ⟨k,H[k],h1,yac this,h2.symm⟩
theorem zdM {ks:List Nat} (h:ks.Nodup) {i j k:Nat} (h1:ks[i]? = some k) (h2:ks[j]? = some k):i=j:=by
 obtain ⟨a,e1⟩:=yab.1 h1
 obtain ⟨b,e2⟩:=yab.1 h2
 have hp:=yaT.1 h
 rcases Nat.lt_trichotomy i j with g | g | g
 ·
  exact (hp i j a b g (e1.trans e2.symm)).elim
 ·
  exact g
 ·
  exact (hp j i b a g (e2.trans e1.symm)).elim
section
variable {x:Cx} {C:Conc} {H:List AObj} {w:World}
theorem zvG {ks : List Nat} {S S' : Nat → Nat → Prop} (hS : ∀ b o, S b o → S' b o) {fz : Nat → Nat → PV} (hfz : ∀ id ver v, pos ks id = none → RepV S w C (.arr id ver) v → RepV S' w (C.sub ks) (fz id ver) v) :
    RenOk S S' w C (C.sub ks) (pos ks) fz:=by
  refine ⟨fun id i h _=>?_,hS,hfz,fun _ _ h=>h⟩
  have h1:=zb1 h
  have h2:=zas h1
  exact ⟨(yab.1 h1).1,by simp only [Conc.sub,h2],by simp only [Conc.sub,h2],by simp only [Conc.sub,h2]⟩
theorem HR.restrict (hr : HR x C H w) {ks : List Nat} (hnd : ks.Nodup) (hlt : ∀ k ∈ ks, k < H.length) (hpre : ∀ i, i < x.H0.length → ks[i]? = some i) :
    HR x (C.sub ks) (ze (pos ks) (zt true H) H ks) w∧RenOk (zu x C H w) (zu x (C.sub ks) (ze (pos ks) (zt true H) H ks) w) w C (C.sub ks) (pos ks) (zt true H):=by
  have hfree:∀ b o,(∀ k ob,k ∈ ks→H[k]? = some ob→ob.free C k b o)→zk5 (C.sub ks) (ze (pos ks) (zt true H) H ks) b o:=by
    intro b o h i ob hi
    obtain ⟨k,ob1,h1,h2,rfl⟩:=zbP hlt hi
    have e:=zas h1
    refine (zeR (C:=C) (id:=k) ?_ ?_).2 (h k ob1 (yaf h1) h2)
    · simp only [Conc.sub,e]
    · simp only [Conc.sub,e]
  have hS:∀ b o,zu x C H w b o→zu x (C.sub ks) (ze (pos ks) (zt true H) H ks) w b o:=fun b o h=>⟨h.1,h.2.1,hfree b o fun k ob _ h2=>h.2.2 k ob h2⟩
  have hok:RenOk (zu x C H w) (zu x (C.sub ks) (ze (pos ks) (zt true H) H ks) w) w C (C.sub ks) (pos ks) (zt true H):=by
    refine zvG hS fun id ver v hn hp=>zld hr hp hS fun v' st T sz rows g o hid hall hob hlt' ho=>⟨?_,hlt',?_⟩
    · exact .inr ⟨hr.mine id _ g hid hob,hr.obj_unf hid hob⟩
    · refine hfree g o fun k ob hk h2=>AObj.free_of_not (fun hc=>?_) o
      have:=hr.apart k id ob _ g h2 hid hc hob
      subst this
      exact zg8 hn hk
  refine ⟨⟨?_,fun i ob h=>?_,fun i i' ob ob' b h1 h2 h3 h4=>?_,fun i ob b h1 h2=>?_,fun b o h=>?_,hr.size,hr.os,hr.tape,hr.output,hr.frame,?_,fun i hi=>?_,fun i hi=>?_,fun b o h=>?_,hr.old0,hr.unf⟩,hok⟩
  · simp [Conc.sub,ze]
  · obtain ⟨k,ob1,h1,h2,rfl⟩:=zbP hlt h
    obtain ⟨j,hj⟩:=zmW (yaf h1)
    obtain rfl:j=i:=zdM hnd (zb1 hj) h1
    exact zf5 hok hj (by rw [hr.n]; exact hlt k (yaf h1)) (hr.obj k ob1 h2)
  · obtain ⟨k,ob1,g1,g2,rfl⟩:=zbP hlt h1
    obtain ⟨k',ob1',g1',g2',rfl⟩:=zbP hlt h2
    have e:=zas g1
    have e':=zas g1'
    have h3':=(Z6 (C:=C) (id:=k) (by simp only [Conc.sub,e]) (by simp only [Conc.sub,e])).1 h3
    have h4':=(Z6 (C:=C) (id:=k') (by simp only [Conc.sub,e']) (by simp only [Conc.sub,e'])).1 h4
    have:=hr.apart k k' ob1 ob1' b g2 g2' h3' h4'
    subst this
    exact zdM hnd g1 g1'
  · obtain ⟨k,ob1,g1,g2,rfl⟩:=zbP hlt h1
    have e:=zas g1
    exact hr.mine k ob1 b g2 ((Z6 (C:=C) (id:=k) (by simp only [Conc.sub,e]) (by simp only [Conc.sub,e])).1 h2)
  · obtain ⟨h1,h2,h3⟩:=hr.s0 b o h
    exact ⟨h1,hfree b o fun k ob _ h4=>h2 k ob h4,h3⟩
  · rw [show (ze (pos ks) (zt true H) H ks).length=ks.length by simp [ze]]
    rcases yb5 x.H0.length with h | h
    · omega
    · have:=(yab.1 (hpre (x.H0.length - 1) (by omega))).1
      omega
  · simp only [Conc.sub,zas (hpre i hi)]; exact hr.ids i hi
  · simp only [Conc.sub,zas (hpre i hi)]; exact hr.vers i hi
  · obtain ⟨h1,h2,h3⟩:=hr.old b o h
    refine ⟨h1,fun i ob hi hb=>?_,h3⟩
    obtain ⟨k,ob1,g1,g2,rfl⟩:=zbP hlt hi
    have e:=zas g1
    exact h2 k ob1 g2 ((Z6 (C:=C) (id:=k) (by simp only [Conc.sub,e]) (by simp only [Conc.sub,e])).1 hb)
def zcA (w:World) (C:Conc) (H:List AObj) (ks:List Nat) (all:Bool) (S1:Nat→Nat→Prop):Cx:=⟨w,S1,C.sub ks,ze (pos ks) (zt all H) H ks⟩
theorem HR.enter (hr : HR x C H w) {ks : List Nat} (hnd : ks.Nodup) (hlt : ∀ k ∈ ks, k < H.length) {all : Bool} {S1 : Nat → Nat → Prop} (hS1 : ∀ b o, zu x C H w b o → S1 b o)
    (hS2:∀ b o,S1 b o→b < w.heap.size∧∀ k ob,k ∈ ks→H[k]? = some ob→ob.free C k b o)
    (hS3:all=true→∀ b o,b < w.heap.size→S1 b o) :
    HR (zcA w C H ks all S1) (C.sub ks) (ze (pos ks) (zt all H) H ks) w ∧
      RenOk (zu x C H w) (zu (zcA w C H ks all S1) (C.sub ks) (ze (pos ks) (zt all H) H ks) w) w C (C.sub ks) (pos ks) (zt all H):=by
  have hfree:∀ b o,(∀ k ob,k ∈ ks→H[k]? = some ob→ob.free C k b o)→zk5 (C.sub ks) (ze (pos ks) (zt all H) H ks) b o:=by
    intro b o h i ob hi
    obtain ⟨k,ob1,h1,h2,rfl⟩:=zbP hlt hi
    have e:=zas h1
    refine (zeR (C:=C) (id:=k) ?_ ?_).2 (h k ob1 (yaf h1) h2)
    · simp only [Conc.sub,e]
    · simp only [Conc.sub,e]
  have hS:∀ b o,zu x C H w b o→zu (zcA w C H ks all S1) (C.sub ks) (ze (pos ks) (zt all H) H ks) w b o:=fun b o h=>⟨.inl (hS1 b o h),h.2.1,hfree b o fun k ob _ h2=>h.2.2 k ob h2⟩
  have hok:RenOk (zu x C H w) (zu (zcA w C H ks all S1) (C.sub ks) (ze (pos ks) (zt all H) H ks) w) w C (C.sub ks) (pos ks) (zt all H):=by
    refine zvG hS fun id ver v hn hp=>zld hr hp hS fun v' st T sz rows g o hid hall hob hlt' ho=>?_
    have hapart:∀ (k:Nat) ob,H[k]? = some ob→k≠id→ob.free C k g o:=fun k ob h2 hk=>AObj.free_of_not (fun hc=>hk (hr.apart k id ob _ g h2 hid hc hob)) o
    have hin:S1 g o:=by
      rcases hall with h | h
      · exact hS3 h g o hlt'
      · refine hS1 g o ⟨?_,hlt',fun k ob h2=>?_⟩
        · exact .inr ⟨hr.mine id _ g hid hob,hr.obj_unf hid hob⟩
        · by_cases e:k=id
          · subst e
            rw [hid] at h2; cases h2
            exact fun _=>⟨h,rfl,ho⟩
          · exact hapart k ob h2 e
    exact ⟨.inl hin,hlt',hfree g o fun k ob hk h2=>(hS2 g o hin).2 k ob hk h2⟩
  refine ⟨⟨?_,fun i ob h=>?_,fun i i' ob ob' b h1 h2 h3 h4=>?_,fun i ob b h1 h2 => .inr ⟨i,ob,h1,h2⟩,fun b o h=>⟨(hS2 b o h).1,hfree b o fun k ob hk h2=>(hS2 b o h).2 k ob hk h2,rfl⟩,yag _,rfl,rfl,rfl,fun _ _ _=>rfl,yag _,fun _ _=>rfl,fun _ _ => .inl ⟨rfl,rfl⟩,fun b o h=>?_,fun _ _ h=>h,fun _ _ h=>h⟩,hok⟩
  · simp [Conc.sub,ze]
  · obtain ⟨k,ob1,h1,h2,rfl⟩:=zbP hlt h
    obtain ⟨j,hj⟩:=zmW (yaf h1)
    obtain rfl:j=i:=zdM hnd (zb1 hj) h1
    exact zf5 hok hj (by rw [hr.n]; exact hlt k (yaf h1)) (hr.obj k ob1 h2)
  · obtain ⟨k,ob1,g1,g2,rfl⟩:=zbP hlt h1
    obtain ⟨k',ob1',g1',g2',rfl⟩:=zbP hlt h2
    have e:=zas g1
    have e':=zas g1'
    have h3':=(Z6 (C:=C) (id:=k) (by simp only [Conc.sub,e]) (by simp only [Conc.sub,e])).1 h3
    have h4':=(Z6 (C:=C) (id:=k') (by simp only [Conc.sub,e']) (by simp only [Conc.sub,e'])).1 h4
    have:=hr.apart k k' ob1 ob1' b g2 g2' h3' h4'
    subst this
    exact zdM hnd g1 g1'
  · obtain ⟨h1,h2,h3⟩:=hr.old b o h
    have hnot:∀ (i:Nat) (ob:AObj),(ze (pos ks) (zt all H) H ks)[i]? = some ob→¬ ob.holds (C.sub ks) i b:=fun i ob hi hb=>by
      obtain ⟨k,ob1,g1,g2,rfl⟩:=zbP hlt hi
      have e:=zas g1
      exact h2 k ob1 g2 ((Z6 (C:=C) (id:=k) (by simp only [Conc.sub,e]) (by simp only [Conc.sub,e])).1 hb)
    exact ⟨h1,hnot,h,h1,hnot⟩
/-! ### and back -/
def Zh (n:Nat) (ks:List Nat) (j:Nat):Nat:=if j < ks.length then ks.getD j 0 else n + (j - ks.length)
def zT (n:Nat) (ks:List Nat) (id:Nat):Option Nat:=if id < n then pos ks id else some (ks.length + (id - n))
def ZV (n:Nat) (ks:List Nat) (j:Nat):Option Nat:=some (Zh n ks j)
def zpu (_ _:Nat):PV := .top
def zS (H Hs':List AObj) (ks:List Nat) (id:Nat):AObj:=match zT H.length ks id with
 | some j=>zf (ZV H.length ks) zpu (Hs'[j]?.getD .gone)
 | none=>H[id]?.getD .gone
def ZN (H Hs':List AObj) (ks:List Nat):List AObj:=(List.range (H.length + (Hs'.length - ks.length))).map (zS H Hs' ks)
def Conc.back (C C1:Conc) (n m:Nat) (ks:List Nat):Conc :=
 ⟨n + (m - ks.length),fun id=>match zT n ks id with | some j=>C1.blk j | none=>C.blk id,fun id=>match zT n ks id with | some j=>C1.sv j | none=>C.sv id,
  fun id=>match zT n ks id with | some j=>C1.ver j | none=>C.ver id,C1.old⟩
theorem zmX {n:Nat} {ks:List Nat} (hnd:ks.Nodup) (hlt:∀ k ∈ ks,k < n) (j:Nat):zT n ks (Zh n ks j)=some j:=by
 unfold Zh
 split
 ·
  rename_i h
  have hk:ks[j]? = some (ks.getD j 0):=by simp [List.getD,yac h]
  have:=hlt _ (yaf hk)
  unfold zT
  rw [if_pos this]
  obtain ⟨i,hi⟩:=zmW (yaf hk)
  rw [hi]
  exact congrArg some (zdM hnd (zb1 hi) hk)
 ·
  unfold zT
  rw [if_neg (by omega)]
  congr 1; omega
theorem zeS {n:Nat} {ks:List Nat} {id j:Nat} (h:zT n ks id=some j):Zh n ks j=id:=by
 unfold zT at h
 split at h
 ·
  have h1:=zb1 h
  have h2:=(yab.1 h1).1
  unfold Zh
  rw [if_pos h2,zas h1]
 ·
  cases h
  unfold Zh
  rw [if_neg (by omega)]; omega
theorem zeT {n:Nat} {ks:List Nat} {id:Nat} (h:zT n ks id=none):id < n∧id ∉ ks:=by
 unfold zT at h
 split at h
 ·
  rename_i h1; exact ⟨h1,zg8 h⟩
 ·
  cases h
theorem HR.leave (hr : HR x C H w) {ks : List Nat} (hnd : ks.Nodup) (hlt : ∀ k ∈ ks, k < H.length) {Hs' : List AObj} {C1 : Conc} {w' : World}
    (h1:HR (zcA w C H ks false (zu x C H w)) C1 Hs' w') :
    HR x (C.back C1 H.length Hs'.length ks) (ZN H Hs' ks) w'∧(∀ p v,RepV (zu x C H w) w C p v→RepV (zu x (C.back C1 H.length Hs'.length ks) (ZN H Hs' ks) w') w' (C.back C1 H.length Hs'.length ks) p v) ∧
      RenOk (zu (zcA w C H ks false (zu x C H w)) C1 Hs' w') (zu x (C.back C1 H.length Hs'.length ks) (ZN H Hs' ks) w') w' C1 (C.back C1 H.length Hs'.length ks) (ZV H.length ks) zpu:=by
  have hlen:(ze (pos ks) (zt false H) H ks).length=ks.length:=by simp [ze]
  have hge:ks.length≤Hs'.length:=by have:=h1.len; simp only [zcA,hlen] at this; exact this
  -- an object of the caller's new heap
  have cases_:∀ (id:Nat) ob,(ZN H Hs' ks)[id]? = some ob→(∃ j ob1,zT H.length ks id=some j∧Hs'[j]? = some ob1∧ob=zf (ZV H.length ks) zpu ob1)∨(zT H.length ks id=none∧H[id]? = some ob):=by
    intro id ob h
    obtain ⟨k,e1,e2⟩:=zO h
    have hk:id < H.length + (Hs'.length - ks.length)∧k=id:=by
      have:=(yab.1 e1).1
      simp only [List.length_range] at this
      rw [ya0 this] at e1
      exact ⟨this,(ybe e1).symm⟩
    obtain ⟨hk,rfl⟩:=hk
    unfold zS at e2
    split at e2
    · rename_i j hj
      have hj':j < Hs'.length:=by
        unfold zT at hj
        split at hj
        · have:=(yab.1 (zb1 hj)).1; omega
        · cases hj; omega
      exact .inl ⟨j,Hs'[j],hj,yac hj',by rw [← e2,yac hj']; rfl⟩
    · rename_i hj
      have:=(zeT hj).1
      exact .inr ⟨hj,by rw [← e2,yac this]; rfl⟩
  have bk1:∀ id j,zT H.length ks id=some j→(C.back C1 H.length Hs'.length ks).blk id=C1.blk j∧(C.back C1 H.length Hs'.length ks).ver id=C1.ver j∧(C.back C1 H.length Hs'.length ks).sv id=C1.sv j:=by
    intro id j h; simp [Conc.back,h]
  have bk0:∀ id,zT H.length ks id=none→(C.back C1 H.length Hs'.length ks).blk id=C.blk id∧(C.back C1 H.length Hs'.length ks).ver id=C.ver id∧(C.back C1 H.length Hs'.length ks).sv id=C.sv id:=by
    intro id h; simp [Conc.back,h]
  -- a caller's object that was handed over
  have given:∀ (i:Nat) ob0,(ze (pos ks) (zt false H) H ks)[i]? = some ob0→∀ b,ob0.holds (C.sub ks) i b→∃ k ob1,ks[i]? = some k∧H[k]? = some ob1∧ob1.holds C k b:=by
    intro i ob0 h b hb
    obtain ⟨k,ob1,g1,g2,rfl⟩:=zbP hlt h
    have e:=zas g1
    exact ⟨k,ob1,g1,g2,(Z6 (C:=C) (id:=k) (by simp only [Conc.sub,e]) (by simp only [Conc.sub,e])).1 hb⟩
  -- a caller's object that was not: it lies as it lay
  have kept:∀ (id:Nat) ob,zT H.length ks id=none→H[id]? = some ob→∀ b,ob.holds C id b→b < w.heap.size∧w'.heap[b]? = w.heap[b]? := by
    intro id ob hc h b hb
    have hb':=hr.blk_lt h hb
    refine ⟨hb',h1.frame b hb' fun i ob0 hi hh=>?_⟩
    obtain ⟨k,ob1,g1,g2,g3⟩:=given i ob0 hi b hh
    have:=hr.apart id k ob ob1 b h g2 hb g3
    subst this
    exact (zeT hc).2 (yaf g1)
  have ren_holds:∀ (id j:Nat) (ob1:AObj) b,zT H.length ks id=some j→(zf (ZV H.length ks) zpu ob1).holds (C.back C1 H.length Hs'.length ks) id b→ob1.holds C1 j b:=by
    intro id j ob1 b hj h
    obtain ⟨e1,e2,e3⟩:=bk1 id j hj
    exact (Z6 e1 e3).1 h
  have ren_free:∀ (id j:Nat) (ob1:AObj) b o,zT H.length ks id=some j→ob1.free C1 j b o→(zf (ZV H.length ks) zpu ob1).free (C.back C1 H.length Hs'.length ks) id b o:=by
    intro id j ob1 b o hj h
    obtain ⟨e1,e2,e3⟩:=bk1 id j hj
    exact (zeR e1 e3).2 h
  have old_free:∀ (id:Nat) (ob:AObj) b o,zT H.length ks id=none→(ob.free C id b o↔ob.free (C.back C1 H.length Hs'.length ks) id b o):=by
    intro id ob b o hj
    obtain ⟨e1,e2,e3⟩:=bk0 id hj
    cases ob with
    | box cells=>show b≠C.blk id↔b≠_; rw [e1]
    | arr ver st ipu T sz rows=>show ((C.sv id).ownBlock=some b→_)↔(Value.ownBlock _=some b→_); rw [e3]
    | gone=>exact ybR
  have old_holds:∀ (id:Nat) (ob:AObj) b,zT H.length ks id=none→(ob.holds (C.back C1 H.length Hs'.length ks) id b↔ob.holds C id b):=by
    intro id ob b hj
    obtain ⟨e1,e2,e3⟩:=bk0 id hj
    cases ob with
    | box cells=>show b=_↔b=C.blk id; rw [e1]
    | arr ver st ipu T sz rows=>show Value.ownBlock _=some b↔(C.sv id).ownBlock=some b; rw [e3]
    | gone=>exact ybR
  have hS:∀ b o,zu x C H w b o→zu x (C.back C1 H.length Hs'.length ks) (ZN H Hs' ks) w' b o:=by
    intro b o h
    obtain ⟨g1,g2,g3⟩:=h1.s0 b o h
    refine ⟨h.1.imp_right fun q=>⟨q.1,h1.unf b g1 q.2⟩,yam g1 h1.size,fun id ob hid=>?_⟩
    rcases cases_ id ob hid with ⟨j,ob1,hj,hj1,rfl⟩ | ⟨hj,hH⟩
    · exact ren_free id j ob1 b o hj (g2 j ob1 hj1)
    · exact (old_free id ob b o hj).1 (h.2.2 id ob hH)
  have hw:∀ b o,zu x C H w b o→w'.cell? ⟨b,o,none⟩=w.cell? ⟨b,o,none⟩:=fun b o h=>(h1.s0 b o h).2.2
  have hvv:∀ id,id < C.n→((C.back C1 H.length Hs'.length ks).ver id=C.ver id∧(C.back C1 H.length Hs'.length ks).sv id=C.sv id)∨C.ver id < (C.back C1 H.length Hs'.length ks).ver id:=by
    intro id hid
    cases hj:zT H.length ks id with
    | none=>exact .inl ⟨(bk0 id hj).2.1,(bk0 id hj).2.2⟩
    | some j =>
      obtain ⟨e1,e2,e3⟩:=bk1 id j hj
      rw [e2,e3]
      have hid':id < H.length:=by rw [← hr.n]; exact hid
      have hp:pos ks id=some j:=by unfold zT at hj; rwa [if_pos hid'] at hj
      have hk:=zb1 hp
      have hjl:j < ks.length:=(yab.1 hk).1
      have:=h1.vers j (by simp only [zcA,hlen]; exact hjl)
      simp only [zcA,Conc.sub,zas hk] at this
      exact this
  have hbb:∀ id,id < C.n→(C.back C1 H.length Hs'.length ks).blk id=C.blk id:=by
    intro id hid
    cases hj:zT H.length ks id with
    | none=>exact (bk0 id hj).1
    | some j =>
      rw [(bk1 id j hj).1]
      have hid':id < H.length:=by rw [← hr.n]; exact hid
      have hp:pos ks id=some j:=by unfold zT at hj; rwa [if_pos hid'] at hj
      have hk:=zb1 hp
      have hjl:j < ks.length:=(yab.1 hk).1
      have:=h1.ids j (by simp only [zcA,hlen]; exact hjl)
      simp only [zcA,Conc.sub,zas hk] at this
      exact this
  have hm:∀ p v,RepV (zu x C H w) w C p v→RepV (zu x (C.back C1 H.length Hs'.length ks) (ZN H Hs' ks) w') w' (C.back C1 H.length Hs'.length ks) p v:=fun p v h =>
    h.mono hS hw (by rw [hr.n]; exact Nat.le_add_right _ _) hbb hvv fun b o h=>by
      obtain ⟨q1,q2,-⟩:=hr.old b o h
      refine ⟨h1.old0 b o h,zbb (h1.frame b q1 fun i ob0 hi hh=>?_)⟩
      obtain ⟨k,ob1,-,g2,g3⟩:=given i ob0 hi b hh
      exact q2 k ob1 g2 g3
  have hmp:∀ p v,RepP (zu x C H w) w p v→RepP (zu x (C.back C1 H.length Hs'.length ks) (ZN H Hs' ks) w') w' p v:=fun p v h=>h.mono hS hw
  have hx:∀ b,(w.heap.size≤b∨∃ (i:Nat) (ob0:AObj),(ze (pos ks) (zt false H) H ks)[i]? = some ob0∧ob0.holds (C.sub ks) i b)→x.w0.heap.size≤b∨∃ (i:Nat) (ob0:AObj),x.H0[i]? = some ob0∧ob0.holds x.C0 i b:=by
    intro b h
    rcases h with h | ⟨i,ob0,h,hb⟩
    · exact .inl (yaP hr.size h)
    · obtain ⟨k,ob1,g1,g2,g3⟩:=given i ob0 h b hb
      exact hr.mine k ob1 b g2 g3
  have hfresh:∀ (id:Nat) ob b,zT H.length ks id=none→H[id]? = some ob→ob.holds C id b→¬ (w.heap.size≤b∨∃ (i:Nat) (ob0:AObj),(ze (pos ks) (zt false H) H ks)[i]? = some ob0∧ob0.holds (C.sub ks) i b):=by
    intro id ob b hj hH hb hc
    rcases hc with h | ⟨i,ob0,h,hb0⟩
    · have:=hr.blk_lt hH hb; omega
    · obtain ⟨k,ob1,g1,g2,g3⟩:=given i ob0 h b hb0
      have:=hr.apart id k ob ob1 b hH g2 hb g3
      subst this
      exact (zeT hj).2 (yaf g1)
  have hback:RenOk (zu (zcA w C H ks false (zu x C H w)) C1 Hs' w') (zu x (C.back C1 H.length Hs'.length ks) (ZN H Hs' ks) w') w' C1 (C.back C1 H.length Hs'.length ks) (ZV H.length ks) zpu:=by
    refine ⟨fun j i hji hj=>?_,fun b o h=>?_,(fun id ver v h=>by cases h),fun _ _ h=>h⟩
    · cases hji
      have hc:=zmX hnd hlt j
      obtain ⟨e1,e2,e3⟩:=bk1 _ j hc
      refine ⟨?_,e1,e2,e3⟩
      have hj':j < Hs'.length:=by rw [← h1.n]; exact hj
      show Zh H.length ks j < H.length + (Hs'.length - ks.length)
      unfold Zh
      split
      · rename_i hjl
        have:=hlt (ks.getD j 0) (yaf (i:=j) (by simp [List.getD,yac hjl])); omega
      · omega
    · obtain ⟨g1,g2,g3⟩:=h
      refine ⟨?_,g2,fun id ob hid=>?_⟩
      · rcases g1 with g1 | g1
        · exact (hS b o g1).1
        · exact .inr ⟨hx b g1.1,g1.2⟩
      · rcases cases_ id ob hid with ⟨j,ob1,hj,hj1,rfl⟩ | ⟨hj,hH⟩
        · exact ren_free id j ob1 b o hj (g3 j ob1 hj1)
        · refine (old_free id ob b o hj).1 ?_
          rcases g1 with g1 | g1
          · exact g1.2.2 id ob hH
          · exact AObj.free_of_not (fun hc=>hfresh id ob b hj hH hc g1.1) o
  refine ⟨⟨?_,fun id ob hid=>?_,fun id id' ob ob' b g1 g2 g3 g4=>?_,fun id ob b g1 g2=>?_,fun b o h=>?_,yaP hr.size h1.size,h1.os.trans hr.os,h1.tape.trans hr.tape,h1.output.trans hr.output,fun b hb hn=>?_,?_,fun i hi=>?_,fun i hi=>?_,fun b o h=>?_,fun b o h=>h1.old0 b o (hr.old0 b o h),fun b hb h=>h1.unf b (yam hb hr.size) (hr.unf b hb h)⟩,hm,hback⟩
  · simp [Conc.back,ZN]
  · rcases cases_ id ob hid with ⟨j,ob1,hj,hj1,rfl⟩ | ⟨hj,hH⟩
    · have hjn:j < C1.n:=by rw [h1.n]; exact (yab.1 hj1).1
      exact zf5 hback (by show some (Zh H.length ks j)=some id; rw [zeS hj]) hjn (h1.obj j ob1 hj1)
    · obtain ⟨e1,e2,e3⟩:=bk0 id hj
      exact (hr.obj id ob hH).mono hm hmp (fun b hb=>(kept id ob hj hH b hb).2) e1 e2 e3
  · rcases cases_ id ob g1 with ⟨j,ob1,hj,hj1,rfl⟩ | ⟨hj,hH⟩ <;> rcases cases_ id' ob' g2 with ⟨j',ob1',hj',hj1',rfl⟩ | ⟨hj',hH'⟩
    · have:=h1.apart j j' ob1 ob1' b hj1 hj1' (ren_holds id j ob1 b hj g3) (ren_holds id' j' ob1' b hj' g4)
      subst this
      rw [← zeS hj,← zeS hj']
    · exact (hfresh id' ob' b hj' hH' ((old_holds id' ob' b hj').1 g4) (h1.mine j ob1 b hj1 (ren_holds id j ob1 b hj g3))).elim
    · exact (hfresh id ob b hj hH ((old_holds id ob b hj).1 g3) (h1.mine j' ob1' b hj1' (ren_holds id' j' ob1' b hj' g4))).elim
    · exact hr.apart id id' ob ob' b hH hH' ((old_holds id ob b hj).1 g3) ((old_holds id' ob' b hj').1 g4)
  · rcases cases_ id ob g1 with ⟨j,ob1,hj,hj1,rfl⟩ | ⟨hj,hH⟩
    · exact hx b (h1.mine j ob1 b hj1 (ren_holds id j ob1 b hj g2))
    · exact hr.mine id ob b hH ((old_holds id ob b hj).1 g2)
  · obtain ⟨k1,k2,k3⟩:=hr.s0 b o h
    have hst:zu x C H w b o:=⟨.inl h,yam k1 hr.size,k2⟩
    exact ⟨k1,(hS b o hst).2.2,(hw b o hst).trans k3⟩
  · refine (h1.frame b (yam hb hr.size) fun i ob0 hi hh=>?_).trans (hr.frame b hb hn)
    obtain ⟨k,ob1,e1,e2,e3⟩:=given i ob0 hi b hh
    rcases hr.mine k ob1 b e2 e3 with h | ⟨i',ob',h,h'⟩
    · omega
    · exact hn i' ob' h h'
  · have:=hr.len
    simp only [ZN,yah,List.length_range]; omega
  · rw [hbb i (by rw [hr.n]; have:=hr.len; omega)]; exact hr.ids i hi
  · have hin:i < C.n:=by rw [hr.n]; have:=hr.len; omega
    rcases hvv i hin with ⟨e1,e2⟩ | e1
    · rw [e1,e2]; exact hr.vers i hi
    · rcases hr.vers i hi with ⟨e2,-⟩ | e2
      · exact .inr (by omega)
      · exact .inr (by omega)
  · obtain ⟨q1,q2,q3,-⟩:=h1.old b o h
    obtain ⟨r1,r2,r3⟩:=hr.old b o q3
    refine ⟨q1,fun id ob hid hb=>?_,r3⟩
    rcases cases_ id ob hid with ⟨j,ob1,hj,hj1,rfl⟩ | ⟨hj,hH⟩
    · exact q2 j ob1 hj1 (ren_holds id j ob1 b hj hb)
    · exact r2 id ob hH ((old_holds id ob b hj).1 hb)
end
end Go.Proofs.YtkcahmbcpkjpiaaGreatDoor
