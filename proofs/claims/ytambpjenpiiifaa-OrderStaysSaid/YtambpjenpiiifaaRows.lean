/-
  No cell of these rows narrows 'for every input' (looked for: loops, veiled, ifaces, maps, wideKeys, modest, calm, conditions, laid).
  DERIVED. THE GIVEN ROWS OF THIS SEAT. 12 by the template 'for every input the law returns true; each argument reads behind the call as it read before'; 0 by the template 'total and deterministic' (their statements: YtambpjenpiiifaaTotals.lean).
  GIVEN WITH THE SEED: the statements are not yours to turn. If you find one false, say at which input.
  Laid BY PROGRAM, IN A SANDBOX (cutbox-rows.mjs): the forced cells as the released guide's own fill.sh prints them over the translation ea950a4cc902fc37… (all of the seat's roots in one cut). By AI agents, Wed Nov 11 2026. No macro, syntax, notation, axiom, sorry.
-/
import Derived.Test.YtambpjenpiiifaaChecked
import GoSem.Claim
import GoSem.ClaimJoined
import GoSem.ClaimMapViews
import Derived.JoinedTies
import Derived.KernelRfl
namespace Go.Proofs.Ytambpjenpiiifaa
/- THE CELL 'sum', in the pinned program and in every row, IS THE sha256 OF THE DUMP (.gsa) THAT YtambpjenpiiifaaProg.lean LOADS. Nothing in Lean hashes anything: it is a label: what it is worth is what the hold of that sum in a sandbox is worth. -/
noncomputable def Try.pinned : Pinned := { name := "ytambpjenpiiifaa", sum := "ea950a4cc902fc374abc328eb230d02ec85ae9bfdba94a24f8f45e062b31420c", checked := Try.checked }
namespace Rows
def none {H : Type} : Left H := { results := [], args := [] }

/-- 'cutwaterlaw.PacketTells': WHATEVER THE INPUT: true; the input reads as it did. -/
def packetTellsSpec : ChangeSpec := { name := "packetTells", fn := fun _ => fun
  | [d1, d2, d3, d4] => { results := [.lit (.bool true)], args := [d1, d2, d3, d4] }
  | _ => none }
def packetTellsRow : OpenClaim := { program := "ytambpjenpiiifaa", sum := "ea950a4cc902fc374abc328eb230d02ec85ae9bfdba94a24f8f45e062b31420c", func := "cutwater/cutwaterlaw.PacketTells", spec := "packetTells", unfollowed := true, recurses := true, apart := false }
def PacketTellsSaid : Prop := packetTellsRow.holds Try.pinned (OpenSpec.ofChange packetTellsSpec)

/-- ITS FALSE NEIGHBOUR: 'it returns false'. Refute it at one input. -/
def packetTellsWrong : ChangeSpec := { name := "packetTells", fn := fun _ => fun
  | [d1, d2, d3, d4] => { results := [.lit (.bool false)], args := [d1, d2, d3, d4] }
  | _ => none }
def PacketTellsWrongFalsely : Prop := packetTellsRow.holds Try.pinned (OpenSpec.ofChange packetTellsWrong)

/-- 'cutwaterlaw.PacketBack': WHATEVER THE INPUT: true; the input reads as it did. -/
def packetBackSpec : ChangeSpec := { name := "packetBack", fn := fun _ => fun
  | [d1, d2] => { results := [.lit (.bool true)], args := [d1, d2] }
  | _ => none }
def packetBackRow : OpenClaim := { program := "ytambpjenpiiifaa", sum := "ea950a4cc902fc374abc328eb230d02ec85ae9bfdba94a24f8f45e062b31420c", func := "cutwater/cutwaterlaw.PacketBack", spec := "packetBack", unfollowed := true, recurses := true, apart := false }
def PacketBackSaid : Prop := packetBackRow.holds Try.pinned (OpenSpec.ofChange packetBackSpec)

/-- ITS FALSE NEIGHBOUR: 'it returns false'. Refute it at one input. -/
def packetBackWrong : ChangeSpec := { name := "packetBack", fn := fun _ => fun
  | [d1, d2] => { results := [.lit (.bool false)], args := [d1, d2] }
  | _ => none }
def PacketBackWrongFalsely : Prop := packetBackRow.holds Try.pinned (OpenSpec.ofChange packetBackWrong)

/-- 'cutwaterlaw.SkeenTells': WHATEVER THE INPUT: true; the input reads as it did. -/
def skeenTellsSpec : ChangeSpec := { name := "skeenTells", fn := fun _ => fun
  | [d1, d2, d3, d4, d5] => { results := [.lit (.bool true)], args := [d1, d2, d3, d4, d5] }
  | _ => none }
def skeenTellsRow : OpenClaim := { program := "ytambpjenpiiifaa", sum := "ea950a4cc902fc374abc328eb230d02ec85ae9bfdba94a24f8f45e062b31420c", func := "cutwater/cutwaterlaw.SkeenTells", spec := "skeenTells", inPlace := ["slices.overlaps[cutwater/api.Wait]"], unfollowed := true, recurses := true, apart := false }
def SkeenTellsSaid : Prop := skeenTellsRow.holds Try.pinned (OpenSpec.ofChange skeenTellsSpec)

/-- ITS FALSE NEIGHBOUR: 'it returns false'. Refute it at one input. -/
def skeenTellsWrong : ChangeSpec := { name := "skeenTells", fn := fun _ => fun
  | [d1, d2, d3, d4, d5] => { results := [.lit (.bool false)], args := [d1, d2, d3, d4, d5] }
  | _ => none }
def SkeenTellsWrongFalsely : Prop := skeenTellsRow.holds Try.pinned (OpenSpec.ofChange skeenTellsWrong)

/-- 'cutwaterlaw.SkeenSame': WHATEVER THE INPUT: true; the input reads as it did. -/
def skeenSameSpec : ChangeSpec := { name := "skeenSame", fn := fun _ => fun
  | [d1, d2] => { results := [.lit (.bool true)], args := [d1, d2] }
  | _ => none }
def skeenSameRow : OpenClaim := { program := "ytambpjenpiiifaa", sum := "ea950a4cc902fc374abc328eb230d02ec85ae9bfdba94a24f8f45e062b31420c", func := "cutwater/cutwaterlaw.SkeenSame", spec := "skeenSame", inPlace := ["slices.overlaps[cutwater/api.Wait]"], unfollowed := true, recurses := true, apart := false }
def SkeenSameSaid : Prop := skeenSameRow.holds Try.pinned (OpenSpec.ofChange skeenSameSpec)

/-- ITS FALSE NEIGHBOUR: 'it returns false'. Refute it at one input. -/
def skeenSameWrong : ChangeSpec := { name := "skeenSame", fn := fun _ => fun
  | [d1, d2] => { results := [.lit (.bool false)], args := [d1, d2] }
  | _ => none }
def SkeenSameWrongFalsely : Prop := skeenSameRow.holds Try.pinned (OpenSpec.ofChange skeenSameWrong)

/-- 'cutwaterlaw.SkeenAfter': WHATEVER THE INPUT: true; the input reads as it did. -/
def skeenAfterSpec : ChangeSpec := { name := "skeenAfter", fn := fun _ => fun
  | [d1, d2, d3] => { results := [.lit (.bool true)], args := [d1, d2, d3] }
  | _ => none }
def skeenAfterRow : OpenClaim := { program := "ytambpjenpiiifaa", sum := "ea950a4cc902fc374abc328eb230d02ec85ae9bfdba94a24f8f45e062b31420c", func := "cutwater/cutwaterlaw.SkeenAfter", spec := "skeenAfter", inPlace := ["slices.overlaps[cutwater/api.Wait]"], unfollowed := true, recurses := true, apart := false }
def SkeenAfterSaid : Prop := skeenAfterRow.holds Try.pinned (OpenSpec.ofChange skeenAfterSpec)

/-- ITS FALSE NEIGHBOUR: 'it returns false'. Refute it at one input. -/
def skeenAfterWrong : ChangeSpec := { name := "skeenAfter", fn := fun _ => fun
  | [d1, d2, d3] => { results := [.lit (.bool false)], args := [d1, d2, d3] }
  | _ => none }
def SkeenAfterWrongFalsely : Prop := skeenAfterRow.holds Try.pinned (OpenSpec.ofChange skeenAfterWrong)

/-- 'cutwaterlaw.DagTells': WHATEVER THE INPUT: true; the input reads as it did. -/
def dagTellsSpec : ChangeSpec := { name := "dagTells", fn := fun _ => fun
  | [d1, d2, d3] => { results := [.lit (.bool true)], args := [d1, d2, d3] }
  | _ => none }
def dagTellsRow : OpenClaim := { program := "ytambpjenpiiifaa", sum := "ea950a4cc902fc374abc328eb230d02ec85ae9bfdba94a24f8f45e062b31420c", func := "cutwater/cutwaterlaw.DagTells", spec := "dagTells", unfollowed := true, recurses := true, apart := false }
def DagTellsSaid : Prop := dagTellsRow.holds Try.pinned (OpenSpec.ofChange dagTellsSpec)

/-- ITS FALSE NEIGHBOUR: 'it returns false'. Refute it at one input. -/
def dagTellsWrong : ChangeSpec := { name := "dagTells", fn := fun _ => fun
  | [d1, d2, d3] => { results := [.lit (.bool false)], args := [d1, d2, d3] }
  | _ => none }
def DagTellsWrongFalsely : Prop := dagTellsRow.holds Try.pinned (OpenSpec.ofChange dagTellsWrong)

/-- 'cutwaterlaw.DagPast': WHATEVER THE INPUT: true; the input reads as it did. -/
def dagPastSpec : ChangeSpec := { name := "dagPast", fn := fun _ => fun
  | [d] => { results := [.lit (.bool true)], args := [d] }
  | _ => none }
def dagPastRow : OpenClaim := { program := "ytambpjenpiiifaa", sum := "ea950a4cc902fc374abc328eb230d02ec85ae9bfdba94a24f8f45e062b31420c", func := "cutwater/cutwaterlaw.DagPast", spec := "dagPast", unfollowed := true, recurses := true, apart := false }
def DagPastSaid : Prop := dagPastRow.holds Try.pinned (OpenSpec.ofChange dagPastSpec)

/-- ITS FALSE NEIGHBOUR: 'it returns false'. Refute it at one input. -/
def dagPastWrong : ChangeSpec := { name := "dagPast", fn := fun _ => fun
  | [d] => { results := [.lit (.bool false)], args := [d] }
  | _ => none }
def DagPastWrongFalsely : Prop := dagPastRow.holds Try.pinned (OpenSpec.ofChange dagPastWrong)

/-- 'cutwaterlaw.DagHeads': WHATEVER THE INPUT: true; the input reads as it did. -/
def dagHeadsSpec : ChangeSpec := { name := "dagHeads", fn := fun _ => fun
  | [d1, d2] => { results := [.lit (.bool true)], args := [d1, d2] }
  | _ => none }
def dagHeadsRow : OpenClaim := { program := "ytambpjenpiiifaa", sum := "ea950a4cc902fc374abc328eb230d02ec85ae9bfdba94a24f8f45e062b31420c", func := "cutwater/cutwaterlaw.DagHeads", spec := "dagHeads", unfollowed := true, recurses := true, apart := false }
def DagHeadsSaid : Prop := dagHeadsRow.holds Try.pinned (OpenSpec.ofChange dagHeadsSpec)

/-- ITS FALSE NEIGHBOUR: 'it returns false'. Refute it at one input. -/
def dagHeadsWrong : ChangeSpec := { name := "dagHeads", fn := fun _ => fun
  | [d1, d2] => { results := [.lit (.bool false)], args := [d1, d2] }
  | _ => none }
def DagHeadsWrongFalsely : Prop := dagHeadsRow.holds Try.pinned (OpenSpec.ofChange dagHeadsWrong)

/-- 'cutwaterlaw.DagParts': WHATEVER THE INPUT: true; the input reads as it did. -/
def dagPartsSpec : ChangeSpec := { name := "dagParts", fn := fun _ => fun
  | [d1, d2] => { results := [.lit (.bool true)], args := [d1, d2] }
  | _ => none }
def dagPartsRow : OpenClaim := { program := "ytambpjenpiiifaa", sum := "ea950a4cc902fc374abc328eb230d02ec85ae9bfdba94a24f8f45e062b31420c", func := "cutwater/cutwaterlaw.DagParts", spec := "dagParts", unfollowed := true, recurses := true, apart := false }
def DagPartsSaid : Prop := dagPartsRow.holds Try.pinned (OpenSpec.ofChange dagPartsSpec)

/-- ITS FALSE NEIGHBOUR: 'it returns false'. Refute it at one input. -/
def dagPartsWrong : ChangeSpec := { name := "dagParts", fn := fun _ => fun
  | [d1, d2] => { results := [.lit (.bool false)], args := [d1, d2] }
  | _ => none }
def DagPartsWrongFalsely : Prop := dagPartsRow.holds Try.pinned (OpenSpec.ofChange dagPartsWrong)

/-- 'cutwaterlaw.OrderTells': WHATEVER THE INPUT: true; the input reads as it did. -/
def orderTellsSpec : ChangeSpec := { name := "orderTells", fn := fun _ => fun
  | [d1, d2, d3] => { results := [.lit (.bool true)], args := [d1, d2, d3] }
  | _ => none }
def orderTellsRow : OpenClaim := { program := "ytambpjenpiiifaa", sum := "ea950a4cc902fc374abc328eb230d02ec85ae9bfdba94a24f8f45e062b31420c", func := "cutwater/cutwaterlaw.OrderTells", spec := "orderTells", unfollowed := true, recurses := true, apart := false }
def OrderTellsSaid : Prop := orderTellsRow.holds Try.pinned (OpenSpec.ofChange orderTellsSpec)

/-- ITS FALSE NEIGHBOUR: 'it returns false'. Refute it at one input. -/
def orderTellsWrong : ChangeSpec := { name := "orderTells", fn := fun _ => fun
  | [d1, d2, d3] => { results := [.lit (.bool false)], args := [d1, d2, d3] }
  | _ => none }
def OrderTellsWrongFalsely : Prop := orderTellsRow.holds Try.pinned (OpenSpec.ofChange orderTellsWrong)

/-- 'cutwaterlaw.OrderParts': WHATEVER THE INPUT: true; the input reads as it did. -/
def orderPartsSpec : ChangeSpec := { name := "orderParts", fn := fun _ => fun
  | [d1, d2, d3] => { results := [.lit (.bool true)], args := [d1, d2, d3] }
  | _ => none }
def orderPartsRow : OpenClaim := { program := "ytambpjenpiiifaa", sum := "ea950a4cc902fc374abc328eb230d02ec85ae9bfdba94a24f8f45e062b31420c", func := "cutwater/cutwaterlaw.OrderParts", spec := "orderParts", unfollowed := true, recurses := true, apart := false }
def OrderPartsSaid : Prop := orderPartsRow.holds Try.pinned (OpenSpec.ofChange orderPartsSpec)

/-- ITS FALSE NEIGHBOUR: 'it returns false'. Refute it at one input. -/
def orderPartsWrong : ChangeSpec := { name := "orderParts", fn := fun _ => fun
  | [d1, d2, d3] => { results := [.lit (.bool false)], args := [d1, d2, d3] }
  | _ => none }
def OrderPartsWrongFalsely : Prop := orderPartsRow.holds Try.pinned (OpenSpec.ofChange orderPartsWrong)

/-- 'cutwaterlaw.OrderStays': WHATEVER THE INPUT: true; the input reads as it did. -/
def orderStaysSpec : ChangeSpec := { name := "orderStays", fn := fun _ => fun
  | [d1, d2, d3] => { results := [.lit (.bool true)], args := [d1, d2, d3] }
  | _ => none }
def orderStaysRow : OpenClaim := { program := "ytambpjenpiiifaa", sum := "ea950a4cc902fc374abc328eb230d02ec85ae9bfdba94a24f8f45e062b31420c", func := "cutwater/cutwaterlaw.OrderStays", spec := "orderStays", unfollowed := true, recurses := true, apart := false }
def OrderStaysSaid : Prop := orderStaysRow.holds Try.pinned (OpenSpec.ofChange orderStaysSpec)

/-- ITS FALSE NEIGHBOUR: 'it returns false'. Refute it at one input. -/
def orderStaysWrong : ChangeSpec := { name := "orderStays", fn := fun _ => fun
  | [d1, d2, d3] => { results := [.lit (.bool false)], args := [d1, d2, d3] }
  | _ => none }
def OrderStaysWrongFalsely : Prop := orderStaysRow.holds Try.pinned (OpenSpec.ofChange orderStaysWrong)

/- THE SECOND FORM. 'bulk': how many values and letters a reading holds, each counted each time it is reached (what is shared counts as often as it is met; a slice's spare places count too). A statement '..UptoSaid' is the law's where the arguments, and the package variables that the reading takes, are together of bulk at most 1048576: NARROWER than '..Said'. Prove '..Said' where nothing that the law and all that it calls make is longer than what came in: it says more and counts as full. Else prove '..UptoSaid'. A law counts once. -/
mutual
def uptoBulk {H : Type} : DataW H → Nat
  | .lit (.string bytes) => bytes.length + 1
  | .lit _ => 1
  | .nil => 1
  | .ptr d => uptoBulk d + 1
  | .slice elems spare => uptoBulkAll elems + uptoBulkAll spare + 1
  | .agg parts => uptoBulkAll parts + 1
  | .iface _ d => uptoBulk d + 1
  | .map entries => uptoBulkEntries entries + 1
  | .held _ => 1
def uptoBulkAll {H : Type} : List (DataW H) → Nat
  | [] => 0
  | d :: r => uptoBulk d + uptoBulkAll r
def uptoBulkEntries {H : Type} : List (Lit × DataW H) → Nat
  | [] => 0
  | x :: r => uptoBulkEntry x + uptoBulkEntries r
def uptoBulkEntry {H : Type} : Lit × DataW H → Nat
  | (.string bytes, d) => bytes.length + uptoBulk d + 1
  | (_, d) => uptoBulk d + 1
 end
def uptoSmall : (H : Type) → List (DataW H) → Bool := fun _ ds => decide (uptoBulkAll ds ≤ 1048576)
def OpenSpec.upto (s : _root_.Go.ChangeSpec) : _root_.Go.OpenSpec := { _root_.Go.OpenSpec.ofChange s with cond := some uptoSmall }

/-- 'cutwaterlaw.PacketTells', WHERE WHAT IT READS IS OF BULK AT MOST 1048576: true; the input reads as it did. -/
def packetTellsUptoRow : OpenClaim := { program := "ytambpjenpiiifaa", sum := "ea950a4cc902fc374abc328eb230d02ec85ae9bfdba94a24f8f45e062b31420c", func := "cutwater/cutwaterlaw.PacketTells", spec := "packetTells", unfollowed := true, recurses := true, apart := false, narrowed := true }
def PacketTellsUptoSaid : Prop := packetTellsUptoRow.holds Try.pinned (OpenSpec.upto packetTellsSpec)

/-- 'cutwaterlaw.PacketBack', WHERE WHAT IT READS IS OF BULK AT MOST 1048576: true; the input reads as it did. -/
def packetBackUptoRow : OpenClaim := { program := "ytambpjenpiiifaa", sum := "ea950a4cc902fc374abc328eb230d02ec85ae9bfdba94a24f8f45e062b31420c", func := "cutwater/cutwaterlaw.PacketBack", spec := "packetBack", unfollowed := true, recurses := true, apart := false, narrowed := true }
def PacketBackUptoSaid : Prop := packetBackUptoRow.holds Try.pinned (OpenSpec.upto packetBackSpec)

/-- 'cutwaterlaw.SkeenTells', WHERE WHAT IT READS IS OF BULK AT MOST 1048576: true; the input reads as it did. -/
def skeenTellsUptoRow : OpenClaim := { program := "ytambpjenpiiifaa", sum := "ea950a4cc902fc374abc328eb230d02ec85ae9bfdba94a24f8f45e062b31420c", func := "cutwater/cutwaterlaw.SkeenTells", spec := "skeenTells", inPlace := ["slices.overlaps[cutwater/api.Wait]"], unfollowed := true, recurses := true, apart := false, narrowed := true }
def SkeenTellsUptoSaid : Prop := skeenTellsUptoRow.holds Try.pinned (OpenSpec.upto skeenTellsSpec)

/-- 'cutwaterlaw.SkeenSame', WHERE WHAT IT READS IS OF BULK AT MOST 1048576: true; the input reads as it did. -/
def skeenSameUptoRow : OpenClaim := { program := "ytambpjenpiiifaa", sum := "ea950a4cc902fc374abc328eb230d02ec85ae9bfdba94a24f8f45e062b31420c", func := "cutwater/cutwaterlaw.SkeenSame", spec := "skeenSame", inPlace := ["slices.overlaps[cutwater/api.Wait]"], unfollowed := true, recurses := true, apart := false, narrowed := true }
def SkeenSameUptoSaid : Prop := skeenSameUptoRow.holds Try.pinned (OpenSpec.upto skeenSameSpec)

/-- 'cutwaterlaw.SkeenAfter', WHERE WHAT IT READS IS OF BULK AT MOST 1048576: true; the input reads as it did. -/
def skeenAfterUptoRow : OpenClaim := { program := "ytambpjenpiiifaa", sum := "ea950a4cc902fc374abc328eb230d02ec85ae9bfdba94a24f8f45e062b31420c", func := "cutwater/cutwaterlaw.SkeenAfter", spec := "skeenAfter", inPlace := ["slices.overlaps[cutwater/api.Wait]"], unfollowed := true, recurses := true, apart := false, narrowed := true }
def SkeenAfterUptoSaid : Prop := skeenAfterUptoRow.holds Try.pinned (OpenSpec.upto skeenAfterSpec)

/-- 'cutwaterlaw.DagTells', WHERE WHAT IT READS IS OF BULK AT MOST 1048576: true; the input reads as it did. -/
def dagTellsUptoRow : OpenClaim := { program := "ytambpjenpiiifaa", sum := "ea950a4cc902fc374abc328eb230d02ec85ae9bfdba94a24f8f45e062b31420c", func := "cutwater/cutwaterlaw.DagTells", spec := "dagTells", unfollowed := true, recurses := true, apart := false, narrowed := true }
def DagTellsUptoSaid : Prop := dagTellsUptoRow.holds Try.pinned (OpenSpec.upto dagTellsSpec)

/-- 'cutwaterlaw.DagPast', WHERE WHAT IT READS IS OF BULK AT MOST 1048576: true; the input reads as it did. -/
def dagPastUptoRow : OpenClaim := { program := "ytambpjenpiiifaa", sum := "ea950a4cc902fc374abc328eb230d02ec85ae9bfdba94a24f8f45e062b31420c", func := "cutwater/cutwaterlaw.DagPast", spec := "dagPast", unfollowed := true, recurses := true, apart := false, narrowed := true }
def DagPastUptoSaid : Prop := dagPastUptoRow.holds Try.pinned (OpenSpec.upto dagPastSpec)

/-- 'cutwaterlaw.DagHeads', WHERE WHAT IT READS IS OF BULK AT MOST 1048576: true; the input reads as it did. -/
def dagHeadsUptoRow : OpenClaim := { program := "ytambpjenpiiifaa", sum := "ea950a4cc902fc374abc328eb230d02ec85ae9bfdba94a24f8f45e062b31420c", func := "cutwater/cutwaterlaw.DagHeads", spec := "dagHeads", unfollowed := true, recurses := true, apart := false, narrowed := true }
def DagHeadsUptoSaid : Prop := dagHeadsUptoRow.holds Try.pinned (OpenSpec.upto dagHeadsSpec)

/-- 'cutwaterlaw.DagParts', WHERE WHAT IT READS IS OF BULK AT MOST 1048576: true; the input reads as it did. -/
def dagPartsUptoRow : OpenClaim := { program := "ytambpjenpiiifaa", sum := "ea950a4cc902fc374abc328eb230d02ec85ae9bfdba94a24f8f45e062b31420c", func := "cutwater/cutwaterlaw.DagParts", spec := "dagParts", unfollowed := true, recurses := true, apart := false, narrowed := true }
def DagPartsUptoSaid : Prop := dagPartsUptoRow.holds Try.pinned (OpenSpec.upto dagPartsSpec)

/-- 'cutwaterlaw.OrderTells', WHERE WHAT IT READS IS OF BULK AT MOST 1048576: true; the input reads as it did. -/
def orderTellsUptoRow : OpenClaim := { program := "ytambpjenpiiifaa", sum := "ea950a4cc902fc374abc328eb230d02ec85ae9bfdba94a24f8f45e062b31420c", func := "cutwater/cutwaterlaw.OrderTells", spec := "orderTells", unfollowed := true, recurses := true, apart := false, narrowed := true }
def OrderTellsUptoSaid : Prop := orderTellsUptoRow.holds Try.pinned (OpenSpec.upto orderTellsSpec)

/-- 'cutwaterlaw.OrderParts', WHERE WHAT IT READS IS OF BULK AT MOST 1048576: true; the input reads as it did. -/
def orderPartsUptoRow : OpenClaim := { program := "ytambpjenpiiifaa", sum := "ea950a4cc902fc374abc328eb230d02ec85ae9bfdba94a24f8f45e062b31420c", func := "cutwater/cutwaterlaw.OrderParts", spec := "orderParts", unfollowed := true, recurses := true, apart := false, narrowed := true }
def OrderPartsUptoSaid : Prop := orderPartsUptoRow.holds Try.pinned (OpenSpec.upto orderPartsSpec)

/-- 'cutwaterlaw.OrderStays', WHERE WHAT IT READS IS OF BULK AT MOST 1048576: true; the input reads as it did. -/
def orderStaysUptoRow : OpenClaim := { program := "ytambpjenpiiifaa", sum := "ea950a4cc902fc374abc328eb230d02ec85ae9bfdba94a24f8f45e062b31420c", func := "cutwater/cutwaterlaw.OrderStays", spec := "orderStays", unfollowed := true, recurses := true, apart := false, narrowed := true }
def OrderStaysUptoSaid : Prop := orderStaysUptoRow.holds Try.pinned (OpenSpec.upto orderStaysSpec)

end Rows
end Go.Proofs.Ytambpjenpiiifaa
