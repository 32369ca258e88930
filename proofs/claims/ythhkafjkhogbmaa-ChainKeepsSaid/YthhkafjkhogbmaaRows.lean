/-
  No cell of these rows narrows 'for every input' (looked for: loops, veiled, ifaces, maps, wideKeys, modest, calm, conditions, laid).
  DERIVED. THE GIVEN ROWS OF THIS SEAT. 10 by the template 'for every input the law returns true; each argument reads behind the call as it read before'; 0 by the template 'total and deterministic' (their statements: YthhkafjkhogbmaaTotals.lean).
  GIVEN WITH THE SEED: the statements are not yours to turn. If you find one false, say at which input.
  Laid BY PROGRAM, IN A SANDBOX (cutbox-rows.mjs): the forced cells as the released guide's own fill.sh prints them over the translation 4da8524d14ed669b… (all of the seat's roots in one cut). By AI agents, Wed Nov 11 2026. No macro, syntax, notation, axiom, sorry.
-/
import Derived.Test.YthhkafjkhogbmaaChecked
import GoSem.Claim
import GoSem.ClaimJoined
import GoSem.ClaimMapViews
import Derived.JoinedTies
import Derived.KernelRfl
namespace Go.Proofs.Ythhkafjkhogbmaa
/- THE CELL 'sum', in the pinned program and in every row, IS THE sha256 OF THE DUMP (.gsa) THAT YthhkafjkhogbmaaProg.lean LOADS. Nothing in Lean hashes anything: it is a label: what it is worth is what the hold of that sum in a sandbox is worth. -/
noncomputable def Try.pinned : Pinned := { name := "ythhkafjkhogbmaa", sum := "4da8524d14ed669beff8fc322c2d2c4c493ff3132f8257ad1304d24964af7f15", checked := Try.checked }
namespace Rows
def none {H : Type} : Left H := { results := [], args := [] }

/-- 'cutwaterlaw.VectorTells': WHATEVER THE INPUT: true; the input reads as it did. -/
def vectorTellsSpec : ChangeSpec := { name := "vectorTells", fn := fun _ => fun
  | [d1, d2, d3] => { results := [.lit (.bool true)], args := [d1, d2, d3] }
  | _ => none }
def vectorTellsRow : OpenClaim := { program := "ythhkafjkhogbmaa", sum := "4da8524d14ed669beff8fc322c2d2c4c493ff3132f8257ad1304d24964af7f15", func := "cutwater/cutwaterlaw.VectorTells", spec := "vectorTells", apart := false }
def VectorTellsSaid : Prop := vectorTellsRow.holds Try.pinned (OpenSpec.ofChange vectorTellsSpec)

/-- ITS FALSE NEIGHBOUR: 'it returns false'. Refute it at one input. -/
def vectorTellsWrong : ChangeSpec := { name := "vectorTells", fn := fun _ => fun
  | [d1, d2, d3] => { results := [.lit (.bool false)], args := [d1, d2, d3] }
  | _ => none }
def VectorTellsWrongFalsely : Prop := vectorTellsRow.holds Try.pinned (OpenSpec.ofChange vectorTellsWrong)

/-- 'cutwaterlaw.VectorJoin': WHATEVER THE INPUT: true; the input reads as it did. -/
def vectorJoinSpec : ChangeSpec := { name := "vectorJoin", fn := fun _ => fun
  | [d1, d2, d3, d4] => { results := [.lit (.bool true)], args := [d1, d2, d3, d4] }
  | _ => none }
def vectorJoinRow : OpenClaim := { program := "ythhkafjkhogbmaa", sum := "4da8524d14ed669beff8fc322c2d2c4c493ff3132f8257ad1304d24964af7f15", func := "cutwater/cutwaterlaw.VectorJoin", spec := "vectorJoin", apart := false }
def VectorJoinSaid : Prop := vectorJoinRow.holds Try.pinned (OpenSpec.ofChange vectorJoinSpec)

/-- ITS FALSE NEIGHBOUR: 'it returns false'. Refute it at one input. -/
def vectorJoinWrong : ChangeSpec := { name := "vectorJoin", fn := fun _ => fun
  | [d1, d2, d3, d4] => { results := [.lit (.bool false)], args := [d1, d2, d3, d4] }
  | _ => none }
def VectorJoinWrongFalsely : Prop := vectorJoinRow.holds Try.pinned (OpenSpec.ofChange vectorJoinWrong)

/-- 'cutwaterlaw.EntryTells': WHATEVER THE INPUT: true; the input reads as it did. -/
def entryTellsSpec : ChangeSpec := { name := "entryTells", fn := fun _ => fun
  | [d1, d2, d3, d4] => { results := [.lit (.bool true)], args := [d1, d2, d3, d4] }
  | _ => none }
def entryTellsRow : OpenClaim := { program := "ythhkafjkhogbmaa", sum := "4da8524d14ed669beff8fc322c2d2c4c493ff3132f8257ad1304d24964af7f15", func := "cutwater/cutwaterlaw.EntryTells", spec := "entryTells", unfollowed := true, recurses := true, apart := false }
def EntryTellsSaid : Prop := entryTellsRow.holds Try.pinned (OpenSpec.ofChange entryTellsSpec)

/-- ITS FALSE NEIGHBOUR: 'it returns false'. Refute it at one input. -/
def entryTellsWrong : ChangeSpec := { name := "entryTells", fn := fun _ => fun
  | [d1, d2, d3, d4] => { results := [.lit (.bool false)], args := [d1, d2, d3, d4] }
  | _ => none }
def EntryTellsWrongFalsely : Prop := entryTellsRow.holds Try.pinned (OpenSpec.ofChange entryTellsWrong)

/-- 'cutwaterlaw.EntryBack': WHATEVER THE INPUT: true; the input reads as it did. -/
def entryBackSpec : ChangeSpec := { name := "entryBack", fn := fun _ => fun
  | [d1, d2] => { results := [.lit (.bool true)], args := [d1, d2] }
  | _ => none }
def entryBackRow : OpenClaim := { program := "ythhkafjkhogbmaa", sum := "4da8524d14ed669beff8fc322c2d2c4c493ff3132f8257ad1304d24964af7f15", func := "cutwater/cutwaterlaw.EntryBack", spec := "entryBack", unfollowed := true, recurses := true, apart := false }
def EntryBackSaid : Prop := entryBackRow.holds Try.pinned (OpenSpec.ofChange entryBackSpec)

/-- ITS FALSE NEIGHBOUR: 'it returns false'. Refute it at one input. -/
def entryBackWrong : ChangeSpec := { name := "entryBack", fn := fun _ => fun
  | [d1, d2] => { results := [.lit (.bool false)], args := [d1, d2] }
  | _ => none }
def EntryBackWrongFalsely : Prop := entryBackRow.holds Try.pinned (OpenSpec.ofChange entryBackWrong)

/-- 'cutwaterlaw.EntryLess': WHATEVER THE INPUT: true; the input reads as it did. -/
def entryLessSpec : ChangeSpec := { name := "entryLess", fn := fun _ => fun
  | [d1, d2, d3] => { results := [.lit (.bool true)], args := [d1, d2, d3] }
  | _ => none }
def entryLessRow : OpenClaim := { program := "ythhkafjkhogbmaa", sum := "4da8524d14ed669beff8fc322c2d2c4c493ff3132f8257ad1304d24964af7f15", func := "cutwater/cutwaterlaw.EntryLess", spec := "entryLess", unfollowed := true, recurses := true, apart := false }
def EntryLessSaid : Prop := entryLessRow.holds Try.pinned (OpenSpec.ofChange entryLessSpec)

/-- ITS FALSE NEIGHBOUR: 'it returns false'. Refute it at one input. -/
def entryLessWrong : ChangeSpec := { name := "entryLess", fn := fun _ => fun
  | [d1, d2, d3] => { results := [.lit (.bool false)], args := [d1, d2, d3] }
  | _ => none }
def EntryLessWrongFalsely : Prop := entryLessRow.holds Try.pinned (OpenSpec.ofChange entryLessWrong)

/-- 'cutwaterlaw.EntryApart': WHATEVER THE INPUT: true; the input reads as it did. -/
def entryApartSpec : ChangeSpec := { name := "entryApart", fn := fun _ => fun
  | [d1, d2] => { results := [.lit (.bool true)], args := [d1, d2] }
  | _ => none }
def entryApartRow : OpenClaim := { program := "ythhkafjkhogbmaa", sum := "4da8524d14ed669beff8fc322c2d2c4c493ff3132f8257ad1304d24964af7f15", func := "cutwater/cutwaterlaw.EntryApart", spec := "entryApart", unfollowed := true, recurses := true, apart := false }
def EntryApartSaid : Prop := entryApartRow.holds Try.pinned (OpenSpec.ofChange entryApartSpec)

/-- ITS FALSE NEIGHBOUR: 'it returns false'. Refute it at one input. -/
def entryApartWrong : ChangeSpec := { name := "entryApart", fn := fun _ => fun
  | [d1, d2] => { results := [.lit (.bool false)], args := [d1, d2] }
  | _ => none }
def EntryApartWrongFalsely : Prop := entryApartRow.holds Try.pinned (OpenSpec.ofChange entryApartWrong)

/-- 'cutwaterlaw.ChainTells': WHATEVER THE INPUT: true; the input reads as it did. -/
def chainTellsSpec : ChangeSpec := { name := "chainTells", fn := fun _ => fun
  | [d1, d2, d3, d4] => { results := [.lit (.bool true)], args := [d1, d2, d3, d4] }
  | _ => none }
def chainTellsRow : OpenClaim := { program := "ythhkafjkhogbmaa", sum := "4da8524d14ed669beff8fc322c2d2c4c493ff3132f8257ad1304d24964af7f15", func := "cutwater/cutwaterlaw.ChainTells", spec := "chainTells", unfollowed := true, recurses := true, apart := false }
def ChainTellsSaid : Prop := chainTellsRow.holds Try.pinned (OpenSpec.ofChange chainTellsSpec)

/-- ITS FALSE NEIGHBOUR: 'it returns false'. Refute it at one input. -/
def chainTellsWrong : ChangeSpec := { name := "chainTells", fn := fun _ => fun
  | [d1, d2, d3, d4] => { results := [.lit (.bool false)], args := [d1, d2, d3, d4] }
  | _ => none }
def ChainTellsWrongFalsely : Prop := chainTellsRow.holds Try.pinned (OpenSpec.ofChange chainTellsWrong)

/-- 'cutwaterlaw.ChainKeeps': WHATEVER THE INPUT: true; the input reads as it did. -/
def chainKeepsSpec : ChangeSpec := { name := "chainKeeps", fn := fun _ => fun
  | [d1, d2, d3, d4, d5, d6, d7] => { results := [.lit (.bool true)], args := [d1, d2, d3, d4, d5, d6, d7] }
  | _ => none }
def chainKeepsRow : OpenClaim := { program := "ythhkafjkhogbmaa", sum := "4da8524d14ed669beff8fc322c2d2c4c493ff3132f8257ad1304d24964af7f15", func := "cutwater/cutwaterlaw.ChainKeeps", spec := "chainKeeps", unfollowed := true, recurses := true, apart := false }
def ChainKeepsSaid : Prop := chainKeepsRow.holds Try.pinned (OpenSpec.ofChange chainKeepsSpec)

/-- ITS FALSE NEIGHBOUR: 'it returns false'. Refute it at one input. -/
def chainKeepsWrong : ChangeSpec := { name := "chainKeeps", fn := fun _ => fun
  | [d1, d2, d3, d4, d5, d6, d7] => { results := [.lit (.bool false)], args := [d1, d2, d3, d4, d5, d6, d7] }
  | _ => none }
def ChainKeepsWrongFalsely : Prop := chainKeepsRow.holds Try.pinned (OpenSpec.ofChange chainKeepsWrong)

/-- 'cutwaterlaw.ChainFences': WHATEVER THE INPUT: true; the input reads as it did. -/
def chainFencesSpec : ChangeSpec := { name := "chainFences", fn := fun _ => fun
  | [d1, d2, d3] => { results := [.lit (.bool true)], args := [d1, d2, d3] }
  | _ => none }
def chainFencesRow : OpenClaim := { program := "ythhkafjkhogbmaa", sum := "4da8524d14ed669beff8fc322c2d2c4c493ff3132f8257ad1304d24964af7f15", func := "cutwater/cutwaterlaw.ChainFences", spec := "chainFences", unfollowed := true, recurses := true, apart := false }
def ChainFencesSaid : Prop := chainFencesRow.holds Try.pinned (OpenSpec.ofChange chainFencesSpec)

/-- ITS FALSE NEIGHBOUR: 'it returns false'. Refute it at one input. -/
def chainFencesWrong : ChangeSpec := { name := "chainFences", fn := fun _ => fun
  | [d1, d2, d3] => { results := [.lit (.bool false)], args := [d1, d2, d3] }
  | _ => none }
def ChainFencesWrongFalsely : Prop := chainFencesRow.holds Try.pinned (OpenSpec.ofChange chainFencesWrong)

/-- 'cutwaterlaw.ChainTail': WHATEVER THE INPUT: true; the input reads as it did. -/
def chainTailSpec : ChangeSpec := { name := "chainTail", fn := fun _ => fun
  | [d1, d2, d3] => { results := [.lit (.bool true)], args := [d1, d2, d3] }
  | _ => none }
def chainTailRow : OpenClaim := { program := "ythhkafjkhogbmaa", sum := "4da8524d14ed669beff8fc322c2d2c4c493ff3132f8257ad1304d24964af7f15", func := "cutwater/cutwaterlaw.ChainTail", spec := "chainTail", unfollowed := true, recurses := true, apart := false }
def ChainTailSaid : Prop := chainTailRow.holds Try.pinned (OpenSpec.ofChange chainTailSpec)

/-- ITS FALSE NEIGHBOUR: 'it returns false'. Refute it at one input. -/
def chainTailWrong : ChangeSpec := { name := "chainTail", fn := fun _ => fun
  | [d1, d2, d3] => { results := [.lit (.bool false)], args := [d1, d2, d3] }
  | _ => none }
def ChainTailWrongFalsely : Prop := chainTailRow.holds Try.pinned (OpenSpec.ofChange chainTailWrong)

/- THE SECOND FORM. 'bulk': how many values and letters a reading holds, each counted each time it is reached (what is shared counts as often as it is met; a slice's spare places count too). A statement '..UptoSaid' is the law's where the arguments, and the package variables that the reading takes, are together of bulk at most 1048576: NARROWER than '..Said'. Prove '..Said' where nothing that the law and all that it calls make is longer than what came in: it says more and counts as full. Else prove '..UptoSaid'. A law counts once. -/
mutual
def uptoBulk {H : Type} : DataW H → Nat
  | .lit (.string bytes) => bytes.length + 1
  | .lit _ => 1
  | .nil => 1
  | .ptr d => uptoBulk d + 1
  | .slice elems spare => uptoBulkAll elems + uptoBulkAll spare + 1
  | .agg parts => uptoBulkAll parts + 1
  | .iface _ d => uptoBulk d + 1
  | .map entries => uptoBulkEntries entries + 1
  | .held _ => 1
def uptoBulkAll {H : Type} : List (DataW H) → Nat
  | [] => 0
  | d :: r => uptoBulk d + uptoBulkAll r
def uptoBulkEntries {H : Type} : List (Lit × DataW H) → Nat
  | [] => 0
  | x :: r => uptoBulkEntry x + uptoBulkEntries r
def uptoBulkEntry {H : Type} : Lit × DataW H → Nat
  | (.string bytes, d) => bytes.length + uptoBulk d + 1
  | (_, d) => uptoBulk d + 1
 end
def uptoSmall : (H : Type) → List (DataW H) → Bool := fun _ ds => decide (uptoBulkAll ds ≤ 1048576)
def OpenSpec.upto (s : _root_.Go.ChangeSpec) : _root_.Go.OpenSpec := { _root_.Go.OpenSpec.ofChange s with cond := some uptoSmall }

/-- 'cutwaterlaw.VectorTells', WHERE WHAT IT READS IS OF BULK AT MOST 1048576: true; the input reads as it did. -/
def vectorTellsUptoRow : OpenClaim := { program := "ythhkafjkhogbmaa", sum := "4da8524d14ed669beff8fc322c2d2c4c493ff3132f8257ad1304d24964af7f15", func := "cutwater/cutwaterlaw.VectorTells", spec := "vectorTells", apart := false, narrowed := true }
def VectorTellsUptoSaid : Prop := vectorTellsUptoRow.holds Try.pinned (OpenSpec.upto vectorTellsSpec)

/-- 'cutwaterlaw.VectorJoin', WHERE WHAT IT READS IS OF BULK AT MOST 1048576: true; the input reads as it did. -/
def vectorJoinUptoRow : OpenClaim := { program := "ythhkafjkhogbmaa", sum := "4da8524d14ed669beff8fc322c2d2c4c493ff3132f8257ad1304d24964af7f15", func := "cutwater/cutwaterlaw.VectorJoin", spec := "vectorJoin", apart := false, narrowed := true }
def VectorJoinUptoSaid : Prop := vectorJoinUptoRow.holds Try.pinned (OpenSpec.upto vectorJoinSpec)

/-- 'cutwaterlaw.EntryTells', WHERE WHAT IT READS IS OF BULK AT MOST 1048576: true; the input reads as it did. -/
def entryTellsUptoRow : OpenClaim := { program := "ythhkafjkhogbmaa", sum := "4da8524d14ed669beff8fc322c2d2c4c493ff3132f8257ad1304d24964af7f15", func := "cutwater/cutwaterlaw.EntryTells", spec := "entryTells", unfollowed := true, recurses := true, apart := false, narrowed := true }
def EntryTellsUptoSaid : Prop := entryTellsUptoRow.holds Try.pinned (OpenSpec.upto entryTellsSpec)

/-- 'cutwaterlaw.EntryBack', WHERE WHAT IT READS IS OF BULK AT MOST 1048576: true; the input reads as it did. -/
def entryBackUptoRow : OpenClaim := { program := "ythhkafjkhogbmaa", sum := "4da8524d14ed669beff8fc322c2d2c4c493ff3132f8257ad1304d24964af7f15", func := "cutwater/cutwaterlaw.EntryBack", spec := "entryBack", unfollowed := true, recurses := true, apart := false, narrowed := true }
def EntryBackUptoSaid : Prop := entryBackUptoRow.holds Try.pinned (OpenSpec.upto entryBackSpec)

/-- 'cutwaterlaw.EntryLess', WHERE WHAT IT READS IS OF BULK AT MOST 1048576: true; the input reads as it did. -/
def entryLessUptoRow : OpenClaim := { program := "ythhkafjkhogbmaa", sum := "4da8524d14ed669beff8fc322c2d2c4c493ff3132f8257ad1304d24964af7f15", func := "cutwater/cutwaterlaw.EntryLess", spec := "entryLess", unfollowed := true, recurses := true, apart := false, narrowed := true }
def EntryLessUptoSaid : Prop := entryLessUptoRow.holds Try.pinned (OpenSpec.upto entryLessSpec)

/-- 'cutwaterlaw.EntryApart', WHERE WHAT IT READS IS OF BULK AT MOST 1048576: true; the input reads as it did. -/
def entryApartUptoRow : OpenClaim := { program := "ythhkafjkhogbmaa", sum := "4da8524d14ed669beff8fc322c2d2c4c493ff3132f8257ad1304d24964af7f15", func := "cutwater/cutwaterlaw.EntryApart", spec := "entryApart", unfollowed := true, recurses := true, apart := false, narrowed := true }
def EntryApartUptoSaid : Prop := entryApartUptoRow.holds Try.pinned (OpenSpec.upto entryApartSpec)

/-- 'cutwaterlaw.ChainTells', WHERE WHAT IT READS IS OF BULK AT MOST 1048576: true; the input reads as it did. -/
def chainTellsUptoRow : OpenClaim := { program := "ythhkafjkhogbmaa", sum := "4da8524d14ed669beff8fc322c2d2c4c493ff3132f8257ad1304d24964af7f15", func := "cutwater/cutwaterlaw.ChainTells", spec := "chainTells", unfollowed := true, recurses := true, apart := false, narrowed := true }
def ChainTellsUptoSaid : Prop := chainTellsUptoRow.holds Try.pinned (OpenSpec.upto chainTellsSpec)

/-- 'cutwaterlaw.ChainKeeps', WHERE WHAT IT READS IS OF BULK AT MOST 1048576: true; the input reads as it did. -/
def chainKeepsUptoRow : OpenClaim := { program := "ythhkafjkhogbmaa", sum := "4da8524d14ed669beff8fc322c2d2c4c493ff3132f8257ad1304d24964af7f15", func := "cutwater/cutwaterlaw.ChainKeeps", spec := "chainKeeps", unfollowed := true, recurses := true, apart := false, narrowed := true }
def ChainKeepsUptoSaid : Prop := chainKeepsUptoRow.holds Try.pinned (OpenSpec.upto chainKeepsSpec)

/-- 'cutwaterlaw.ChainFences', WHERE WHAT IT READS IS OF BULK AT MOST 1048576: true; the input reads as it did. -/
def chainFencesUptoRow : OpenClaim := { program := "ythhkafjkhogbmaa", sum := "4da8524d14ed669beff8fc322c2d2c4c493ff3132f8257ad1304d24964af7f15", func := "cutwater/cutwaterlaw.ChainFences", spec := "chainFences", unfollowed := true, recurses := true, apart := false, narrowed := true }
def ChainFencesUptoSaid : Prop := chainFencesUptoRow.holds Try.pinned (OpenSpec.upto chainFencesSpec)

/-- 'cutwaterlaw.ChainTail', WHERE WHAT IT READS IS OF BULK AT MOST 1048576: true; the input reads as it did. -/
def chainTailUptoRow : OpenClaim := { program := "ythhkafjkhogbmaa", sum := "4da8524d14ed669beff8fc322c2d2c4c493ff3132f8257ad1304d24964af7f15", func := "cutwater/cutwaterlaw.ChainTail", spec := "chainTail", unfollowed := true, recurses := true, apart := false, narrowed := true }
def ChainTailUptoSaid : Prop := chainTailUptoRow.holds Try.pinned (OpenSpec.upto chainTailSpec)

end Rows
end Go.Proofs.Ythhkafjkhogbmaa
