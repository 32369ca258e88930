/-
  No cell of these rows narrows 'for every input' (looked for: loops, veiled, ifaces, maps, wideKeys, modest, calm, conditions, laid).
  DERIVED. THE GIVEN ROWS OF THIS SEAT. 4 by the template 'for every input the law returns true; each argument reads behind the call as it read before'; 0 by the template 'total and deterministic' (their statements: YtkibfciheifphaaTotals.lean).
  GIVEN WITH THE SEED: the statements are not yours to turn. If you find one false, say at which input.
  Laid BY PROGRAM, IN A SANDBOX (cutbox-rows.mjs): the forced cells as the released guide's own fill.sh prints them over the translation 29f3c4b98c1ad9b7… (all of the seat's roots in one cut). By AI agents, Wed Nov 11 2026. No macro, syntax, notation, axiom, sorry.
-/
import Derived.Test.YtkibfciheifphaaChecked
import GoSem.Claim
import GoSem.ClaimJoined
import GoSem.ClaimMapViews
import Derived.JoinedTies
import Derived.KernelRfl
namespace Go.Proofs.Ytkibfciheifphaa
/- THE CELL 'sum', in the pinned program and in every row, IS THE sha256 OF THE DUMP (.gsa) THAT YtkibfciheifphaaProg.lean LOADS. Nothing in Lean hashes anything: it is a label: what it is worth is what the hold of that sum in a sandbox is worth. -/
noncomputable def Try.pinned : Pinned := { name := "ytkibfciheifphaa", sum := "29f3c4b98c1ad9b773fbad7b17a5c2e16fcc79e69ad19419544ee330a3edbf8a", checked := Try.checked }
namespace Rows
def none {H : Type} : Left H := { results := [], args := [] }

/-- 'cutwaterlaw.PacketTells': WHATEVER THE INPUT: true; the input reads as it did. -/
def packetTellsSpec : ChangeSpec := { name := "packetTells", fn := fun _ => fun
  | [d1, d2, d3, d4] => { results := [.lit (.bool true)], args := [d1, d2, d3, d4] }
  | _ => none }
def packetTellsRow : OpenClaim := { program := "ytkibfciheifphaa", sum := "29f3c4b98c1ad9b773fbad7b17a5c2e16fcc79e69ad19419544ee330a3edbf8a", func := "cutwater/cutwaterlaw.PacketTells", spec := "packetTells", unfollowed := true, recurses := true, apart := false }
def PacketTellsSaid : Prop := packetTellsRow.holds Try.pinned (OpenSpec.ofChange packetTellsSpec)

/-- ITS FALSE NEIGHBOUR: 'it returns false'. Refute it at one input. -/
def packetTellsWrong : ChangeSpec := { name := "packetTells", fn := fun _ => fun
  | [d1, d2, d3, d4] => { results := [.lit (.bool false)], args := [d1, d2, d3, d4] }
  | _ => none }
def PacketTellsWrongFalsely : Prop := packetTellsRow.holds Try.pinned (OpenSpec.ofChange packetTellsWrong)

/-- 'cutwaterlaw.PacketBack': WHATEVER THE INPUT: true; the input reads as it did. -/
def packetBackSpec : ChangeSpec := { name := "packetBack", fn := fun _ => fun
  | [d1, d2] => { results := [.lit (.bool true)], args := [d1, d2] }
  | _ => none }
def packetBackRow : OpenClaim := { program := "ytkibfciheifphaa", sum := "29f3c4b98c1ad9b773fbad7b17a5c2e16fcc79e69ad19419544ee330a3edbf8a", func := "cutwater/cutwaterlaw.PacketBack", spec := "packetBack", unfollowed := true, recurses := true, apart := false }
def PacketBackSaid : Prop := packetBackRow.holds Try.pinned (OpenSpec.ofChange packetBackSpec)

/-- ITS FALSE NEIGHBOUR: 'it returns false'. Refute it at one input. -/
def packetBackWrong : ChangeSpec := { name := "packetBack", fn := fun _ => fun
  | [d1, d2] => { results := [.lit (.bool false)], args := [d1, d2] }
  | _ => none }
def PacketBackWrongFalsely : Prop := packetBackRow.holds Try.pinned (OpenSpec.ofChange packetBackWrong)

/-- 'cutwaterlaw.PacketWhole': WHATEVER THE INPUT: true; the input reads as it did. -/
def packetWholeSpec : ChangeSpec := { name := "packetWhole", fn := fun _ => fun
  | [d1, d2] => { results := [.lit (.bool true)], args := [d1, d2] }
  | _ => none }
def packetWholeRow : OpenClaim := { program := "ytkibfciheifphaa", sum := "29f3c4b98c1ad9b773fbad7b17a5c2e16fcc79e69ad19419544ee330a3edbf8a", func := "cutwater/cutwaterlaw.PacketWhole", spec := "packetWhole", unfollowed := true, recurses := true, apart := false }
def PacketWholeSaid : Prop := packetWholeRow.holds Try.pinned (OpenSpec.ofChange packetWholeSpec)

/-- ITS FALSE NEIGHBOUR: 'it returns false'. Refute it at one input. -/
def packetWholeWrong : ChangeSpec := { name := "packetWhole", fn := fun _ => fun
  | [d1, d2] => { results := [.lit (.bool false)], args := [d1, d2] }
  | _ => none }
def PacketWholeWrongFalsely : Prop := packetWholeRow.holds Try.pinned (OpenSpec.ofChange packetWholeWrong)

/-- 'cutwaterlaw.PacketLearns': WHATEVER THE INPUT: true; the input reads as it did. -/
def packetLearnsSpec : ChangeSpec := { name := "packetLearns", fn := fun _ => fun
  | [d1, d2] => { results := [.lit (.bool true)], args := [d1, d2] }
  | _ => none }
def packetLearnsRow : OpenClaim := { program := "ytkibfciheifphaa", sum := "29f3c4b98c1ad9b773fbad7b17a5c2e16fcc79e69ad19419544ee330a3edbf8a", func := "cutwater/cutwaterlaw.PacketLearns", spec := "packetLearns", inPlace := ["slices.overlaps[cutwater/api.Entry]"], unfollowed := true, recurses := true, apart := false }
def PacketLearnsSaid : Prop := packetLearnsRow.holds Try.pinned (OpenSpec.ofChange packetLearnsSpec)

/-- ITS FALSE NEIGHBOUR: 'it returns false'. Refute it at one input. -/
def packetLearnsWrong : ChangeSpec := { name := "packetLearns", fn := fun _ => fun
  | [d1, d2] => { results := [.lit (.bool false)], args := [d1, d2] }
  | _ => none }
def PacketLearnsWrongFalsely : Prop := packetLearnsRow.holds Try.pinned (OpenSpec.ofChange packetLearnsWrong)

/- THE SECOND FORM. 'bulk': how many values and letters a reading holds, each counted each time it is reached (what is shared counts as often as it is met; a slice's spare places count too). A statement '..UptoSaid' is the law's where the arguments, and the package variables that the reading takes, are together of bulk at most 1048576: NARROWER than '..Said'. Prove '..Said' where nothing that the law and all that it calls make is longer than what came in: it says more and counts as full. Else prove '..UptoSaid'. A law counts once. -/
mutual
def uptoBulk {H : Type} : DataW H → Nat
  | .lit (.string bytes) => bytes.length + 1
  | .lit _ => 1
  | .nil => 1
  | .ptr d => uptoBulk d + 1
  | .slice elems spare => uptoBulkAll elems + uptoBulkAll spare + 1
  | .agg parts => uptoBulkAll parts + 1
  | .iface _ d => uptoBulk d + 1
  | .map entries => uptoBulkEntries entries + 1
  | .held _ => 1
def uptoBulkAll {H : Type} : List (DataW H) → Nat
  | [] => 0
  | d :: r => uptoBulk d + uptoBulkAll r
def uptoBulkEntries {H : Type} : List (Lit × DataW H) → Nat
  | [] => 0
  | x :: r => uptoBulkEntry x + uptoBulkEntries r
def uptoBulkEntry {H : Type} : Lit × DataW H → Nat
  | (.string bytes, d) => bytes.length + uptoBulk d + 1
  | (_, d) => uptoBulk d + 1
 end
def uptoSmall : (H : Type) → List (DataW H) → Bool := fun _ ds => decide (uptoBulkAll ds ≤ 1048576)
def OpenSpec.upto (s : _root_.Go.ChangeSpec) : _root_.Go.OpenSpec := { _root_.Go.OpenSpec.ofChange s with cond := some uptoSmall }

/-- 'cutwaterlaw.PacketTells', WHERE WHAT IT READS IS OF BULK AT MOST 1048576: true; the input reads as it did. -/
def packetTellsUptoRow : OpenClaim := { program := "ytkibfciheifphaa", sum := "29f3c4b98c1ad9b773fbad7b17a5c2e16fcc79e69ad19419544ee330a3edbf8a", func := "cutwater/cutwaterlaw.PacketTells", spec := "packetTells", unfollowed := true, recurses := true, apart := false, narrowed := true }
def PacketTellsUptoSaid : Prop := packetTellsUptoRow.holds Try.pinned (OpenSpec.upto packetTellsSpec)

/-- 'cutwaterlaw.PacketBack', WHERE WHAT IT READS IS OF BULK AT MOST 1048576: true; the input reads as it did. -/
def packetBackUptoRow : OpenClaim := { program := "ytkibfciheifphaa", sum := "29f3c4b98c1ad9b773fbad7b17a5c2e16fcc79e69ad19419544ee330a3edbf8a", func := "cutwater/cutwaterlaw.PacketBack", spec := "packetBack", unfollowed := true, recurses := true, apart := false, narrowed := true }
def PacketBackUptoSaid : Prop := packetBackUptoRow.holds Try.pinned (OpenSpec.upto packetBackSpec)

/-- 'cutwaterlaw.PacketWhole', WHERE WHAT IT READS IS OF BULK AT MOST 1048576: true; the input reads as it did. -/
def packetWholeUptoRow : OpenClaim := { program := "ytkibfciheifphaa", sum := "29f3c4b98c1ad9b773fbad7b17a5c2e16fcc79e69ad19419544ee330a3edbf8a", func := "cutwater/cutwaterlaw.PacketWhole", spec := "packetWhole", unfollowed := true, recurses := true, apart := false, narrowed := true }
def PacketWholeUptoSaid : Prop := packetWholeUptoRow.holds Try.pinned (OpenSpec.upto packetWholeSpec)

/-- 'cutwaterlaw.PacketLearns', WHERE WHAT IT READS IS OF BULK AT MOST 1048576: true; the input reads as it did. -/
def packetLearnsUptoRow : OpenClaim := { program := "ytkibfciheifphaa", sum := "29f3c4b98c1ad9b773fbad7b17a5c2e16fcc79e69ad19419544ee330a3edbf8a", func := "cutwater/cutwaterlaw.PacketLearns", spec := "packetLearns", inPlace := ["slices.overlaps[cutwater/api.Entry]"], unfollowed := true, recurses := true, apart := false, narrowed := true }
def PacketLearnsUptoSaid : Prop := packetLearnsUptoRow.holds Try.pinned (OpenSpec.upto packetLearnsSpec)

end Rows
end Go.Proofs.Ytkibfciheifphaa
