/-
  No cell of these rows narrows 'for every input' (looked for: loops, veiled, ifaces, maps, wideKeys, modest, calm, conditions, laid).
  DERIVED. THE GIVEN ROWS OF THIS SEAT. 4 by the template 'for every input the law returns true; each argument reads behind the call as it read before'; 0 by the template 'total and deterministic' (their statements: YtiandbolipoebaaTotals.lean).
  GIVEN WITH THE SEED: the statements are not yours to turn. If you find one false, say at which input.
  Laid BY PROGRAM, IN A SANDBOX (cutbox-rows.mjs): the forced cells as the released guide's own fill.sh prints them over the translation 75d36807a6b77690… (all of the seat's roots in one cut). By AI agents, Wed Nov 11 2026. No macro, syntax, notation, axiom, sorry.
-/
import Derived.Test.YtiandbolipoebaaChecked
import GoSem.Claim
import GoSem.ClaimJoined
import GoSem.ClaimMapViews
import Derived.JoinedTies
import Derived.KernelRfl
namespace Go.Proofs.Ytiandbolipoebaa
/- THE CELL 'sum', in the pinned program and in every row, IS THE sha256 OF THE DUMP (.gsa) THAT YtiandbolipoebaaProg.lean LOADS. Nothing in Lean hashes anything: it is a label: what it is worth is what the hold of that sum in a sandbox is worth. -/
noncomputable def Try.pinned : Pinned := { name := "ytiandbolipoebaa", sum := "75d36807a6b776907921de6185f3b621ce078ed860b83194d4a4e73e50f2b0e8", checked := Try.checked }
namespace Rows
def none {H : Type} : Left H := { results := [], args := [] }

/-- 'cutwaterlaw.SiteTells': WHATEVER THE INPUT: true; the input reads as it did. -/
def siteTellsSpec : ChangeSpec := { name := "siteTells", fn := fun _ => fun
  | [d1, d2, d3, d4, d5] => { results := [.lit (.bool true)], args := [d1, d2, d3, d4, d5] }
  | _ => none }
def siteTellsRow : OpenClaim := { program := "ytiandbolipoebaa", sum := "75d36807a6b776907921de6185f3b621ce078ed860b83194d4a4e73e50f2b0e8", func := "cutwater/cutwaterlaw.SiteTells", spec := "siteTells", inPlace := ["slices.overlaps[cutwater/api.Entry]"], unfollowed := true, recurses := true, apart := false }
def SiteTellsSaid : Prop := siteTellsRow.holds Try.pinned (OpenSpec.ofChange siteTellsSpec)

/-- ITS FALSE NEIGHBOUR: 'it returns false'. Refute it at one input. -/
def siteTellsWrong : ChangeSpec := { name := "siteTells", fn := fun _ => fun
  | [d1, d2, d3, d4, d5] => { results := [.lit (.bool false)], args := [d1, d2, d3, d4, d5] }
  | _ => none }
def SiteTellsWrongFalsely : Prop := siteTellsRow.holds Try.pinned (OpenSpec.ofChange siteTellsWrong)

/-- 'cutwaterlaw.SiteAny': WHATEVER THE INPUT: true; the input reads as it did. -/
def siteAnySpec : ChangeSpec := { name := "siteAny", fn := fun _ => fun
  | [d1, d2, d3] => { results := [.lit (.bool true)], args := [d1, d2, d3] }
  | _ => none }
def siteAnyRow : OpenClaim := { program := "ytiandbolipoebaa", sum := "75d36807a6b776907921de6185f3b621ce078ed860b83194d4a4e73e50f2b0e8", func := "cutwater/cutwaterlaw.SiteAny", spec := "siteAny", inPlace := ["slices.overlaps[cutwater/api.Entry]"], unfollowed := true, recurses := true, apart := false }
def SiteAnySaid : Prop := siteAnyRow.holds Try.pinned (OpenSpec.ofChange siteAnySpec)

/-- ITS FALSE NEIGHBOUR: 'it returns false'. Refute it at one input. -/
def siteAnyWrong : ChangeSpec := { name := "siteAny", fn := fun _ => fun
  | [d1, d2, d3] => { results := [.lit (.bool false)], args := [d1, d2, d3] }
  | _ => none }
def SiteAnyWrongFalsely : Prop := siteAnyRow.holds Try.pinned (OpenSpec.ofChange siteAnyWrong)

/-- 'cutwaterlaw.SiteLinks': WHATEVER THE INPUT: true; the input reads as it did. -/
def siteLinksSpec : ChangeSpec := { name := "siteLinks", fn := fun _ => fun
  | [d1, d2, d3] => { results := [.lit (.bool true)], args := [d1, d2, d3] }
  | _ => none }
def siteLinksRow : OpenClaim := { program := "ytiandbolipoebaa", sum := "75d36807a6b776907921de6185f3b621ce078ed860b83194d4a4e73e50f2b0e8", func := "cutwater/cutwaterlaw.SiteLinks", spec := "siteLinks", inPlace := ["slices.overlaps[cutwater/api.Entry]"], unfollowed := true, recurses := true, apart := false }
def SiteLinksSaid : Prop := siteLinksRow.holds Try.pinned (OpenSpec.ofChange siteLinksSpec)

/-- ITS FALSE NEIGHBOUR: 'it returns false'. Refute it at one input. -/
def siteLinksWrong : ChangeSpec := { name := "siteLinks", fn := fun _ => fun
  | [d1, d2, d3] => { results := [.lit (.bool false)], args := [d1, d2, d3] }
  | _ => none }
def SiteLinksWrongFalsely : Prop := siteLinksRow.holds Try.pinned (OpenSpec.ofChange siteLinksWrong)

/-- 'cutwaterlaw.SiteRight': WHATEVER THE INPUT: true; the input reads as it did. -/
def siteRightSpec : ChangeSpec := { name := "siteRight", fn := fun _ => fun
  | [d1, d2, d3, d4] => { results := [.lit (.bool true)], args := [d1, d2, d3, d4] }
  | _ => none }
def siteRightRow : OpenClaim := { program := "ytiandbolipoebaa", sum := "75d36807a6b776907921de6185f3b621ce078ed860b83194d4a4e73e50f2b0e8", func := "cutwater/cutwaterlaw.SiteRight", spec := "siteRight", inPlace := ["slices.overlaps[cutwater/api.Entry]"], unfollowed := true, recurses := true, apart := false }
def SiteRightSaid : Prop := siteRightRow.holds Try.pinned (OpenSpec.ofChange siteRightSpec)

/-- ITS FALSE NEIGHBOUR: 'it returns false'. Refute it at one input. -/
def siteRightWrong : ChangeSpec := { name := "siteRight", fn := fun _ => fun
  | [d1, d2, d3, d4] => { results := [.lit (.bool false)], args := [d1, d2, d3, d4] }
  | _ => none }
def SiteRightWrongFalsely : Prop := siteRightRow.holds Try.pinned (OpenSpec.ofChange siteRightWrong)

/- THE SECOND FORM. 'bulk': how many values and letters a reading holds, each counted each time it is reached (what is shared counts as often as it is met; a slice's spare places count too). A statement '..UptoSaid' is the law's where the arguments, and the package variables that the reading takes, are together of bulk at most 1048576: NARROWER than '..Said'. Prove '..Said' where nothing that the law and all that it calls make is longer than what came in: it says more and counts as full. Else prove '..UptoSaid'. A law counts once. -/
mutual
def uptoBulk {H : Type} : DataW H → Nat
  | .lit (.string bytes) => bytes.length + 1
  | .lit _ => 1
  | .nil => 1
  | .ptr d => uptoBulk d + 1
  | .slice elems spare => uptoBulkAll elems + uptoBulkAll spare + 1
  | .agg parts => uptoBulkAll parts + 1
  | .iface _ d => uptoBulk d + 1
  | .map entries => uptoBulkEntries entries + 1
  | .held _ => 1
def uptoBulkAll {H : Type} : List (DataW H) → Nat
  | [] => 0
  | d :: r => uptoBulk d + uptoBulkAll r
def uptoBulkEntries {H : Type} : List (Lit × DataW H) → Nat
  | [] => 0
  | x :: r => uptoBulkEntry x + uptoBulkEntries r
def uptoBulkEntry {H : Type} : Lit × DataW H → Nat
  | (.string bytes, d) => bytes.length + uptoBulk d + 1
  | (_, d) => uptoBulk d + 1
 end
def uptoSmall : (H : Type) → List (DataW H) → Bool := fun _ ds => decide (uptoBulkAll ds ≤ 1048576)
def OpenSpec.upto (s : _root_.Go.ChangeSpec) : _root_.Go.OpenSpec := { _root_.Go.OpenSpec.ofChange s with cond := some uptoSmall }

/-- 'cutwaterlaw.SiteTells', WHERE WHAT IT READS IS OF BULK AT MOST 1048576: true; the input reads as it did. -/
def siteTellsUptoRow : OpenClaim := { program := "ytiandbolipoebaa", sum := "75d36807a6b776907921de6185f3b621ce078ed860b83194d4a4e73e50f2b0e8", func := "cutwater/cutwaterlaw.SiteTells", spec := "siteTells", inPlace := ["slices.overlaps[cutwater/api.Entry]"], unfollowed := true, recurses := true, apart := false, narrowed := true }
def SiteTellsUptoSaid : Prop := siteTellsUptoRow.holds Try.pinned (OpenSpec.upto siteTellsSpec)

/-- 'cutwaterlaw.SiteAny', WHERE WHAT IT READS IS OF BULK AT MOST 1048576: true; the input reads as it did. -/
def siteAnyUptoRow : OpenClaim := { program := "ytiandbolipoebaa", sum := "75d36807a6b776907921de6185f3b621ce078ed860b83194d4a4e73e50f2b0e8", func := "cutwater/cutwaterlaw.SiteAny", spec := "siteAny", inPlace := ["slices.overlaps[cutwater/api.Entry]"], unfollowed := true, recurses := true, apart := false, narrowed := true }
def SiteAnyUptoSaid : Prop := siteAnyUptoRow.holds Try.pinned (OpenSpec.upto siteAnySpec)

/-- 'cutwaterlaw.SiteLinks', WHERE WHAT IT READS IS OF BULK AT MOST 1048576: true; the input reads as it did. -/
def siteLinksUptoRow : OpenClaim := { program := "ytiandbolipoebaa", sum := "75d36807a6b776907921de6185f3b621ce078ed860b83194d4a4e73e50f2b0e8", func := "cutwater/cutwaterlaw.SiteLinks", spec := "siteLinks", inPlace := ["slices.overlaps[cutwater/api.Entry]"], unfollowed := true, recurses := true, apart := false, narrowed := true }
def SiteLinksUptoSaid : Prop := siteLinksUptoRow.holds Try.pinned (OpenSpec.upto siteLinksSpec)

/-- 'cutwaterlaw.SiteRight', WHERE WHAT IT READS IS OF BULK AT MOST 1048576: true; the input reads as it did. -/
def siteRightUptoRow : OpenClaim := { program := "ytiandbolipoebaa", sum := "75d36807a6b776907921de6185f3b621ce078ed860b83194d4a4e73e50f2b0e8", func := "cutwater/cutwaterlaw.SiteRight", spec := "siteRight", inPlace := ["slices.overlaps[cutwater/api.Entry]"], unfollowed := true, recurses := true, apart := false, narrowed := true }
def SiteRightUptoSaid : Prop := siteRightUptoRow.holds Try.pinned (OpenSpec.upto siteRightSpec)

end Rows
end Go.Proofs.Ytiandbolipoebaa
