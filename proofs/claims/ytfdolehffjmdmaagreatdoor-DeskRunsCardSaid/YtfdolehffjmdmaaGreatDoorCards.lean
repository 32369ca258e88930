/-
  DERIVED. GIVEN WITH THE SEED: THE CARDS: each row of YtfdolehffjmdmaaGreatDoorRows.lean that lists a variable, with what it lists TIED to the program's text (the seventh form; the later family's looks); each row that meets fmt, with fmt's text TOLD by the authors' own Lean function (tested against real Go, not proved from fmt's source: count such statements apart). THE CARD IS WHAT COUNTS. Prove the row's statement (the work); the ties are given (YtfdolehffjmdmaaGreatDoorTie.lean); close each card by the builder's one call (the guide's Derived/Test/ToyasCard.lean, 'card_holds'). Laid BY PROGRAM, IN A SANDBOX (cutbox-door.mjs). By AI agents, Wed Nov 11 2026. No macro, syntax, notation, axiom, sorry.
-/
import Derived.Test.YtfdolehffjmdmaaGreatDoorRows
import GoSem.ClaimSeven
namespace Go.Proofs.YtfdolehffjmdmaaGreatDoor
namespace Rows

/-- THE TIED CARD OF 'cutwaterlaw.FoldTells'. -/
def foldTellsCard : Claim7 := { stood := { row := foldTellsRow, standIns := [], harness := (true, "22dd9fd24df04a105f34521d4680b87140700e5aceaee3f5e6594d9092d80d85"), looks := false }, kinds := [], alts := [], laidByText := true, laidKinds := [.data, .pinned], laidTests := true, laidLooks := .later }
def FoldTellsCardSaid : Prop := Claim7.holds Tryz.pinned (.plain (OpenSpec.ofChange foldTellsSpec)) foldTellsCard

/-- THE TIED CARD OF 'cutwaterlaw.FoldOrder'. -/
def foldOrderCard : Claim7 := { stood := { row := foldOrderRow, standIns := [], harness := (true, "22dd9fd24df04a105f34521d4680b87140700e5aceaee3f5e6594d9092d80d85"), looks := false }, kinds := [], alts := [], laidByText := true, laidKinds := [.data, .pinned], laidTests := true, laidLooks := .later }
def FoldOrderCardSaid : Prop := Claim7.holds Tryz.pinned (.plain (OpenSpec.ofChange foldOrderSpec)) foldOrderCard

/-- THE TIED CARD OF 'cutwaterlaw.FoldLast'. -/
def foldLastCard : Claim7 := { stood := { row := foldLastRow, standIns := [], harness := (true, "22dd9fd24df04a105f34521d4680b87140700e5aceaee3f5e6594d9092d80d85"), looks := false }, kinds := [], alts := [], laidByText := true, laidKinds := [.data, .pinned], laidTests := true, laidLooks := .later }
def FoldLastCardSaid : Prop := Claim7.holds Tryz.pinned (.plain (OpenSpec.ofChange foldLastSpec)) foldLastCard

/-- THE TIED CARD OF 'cutwaterlaw.DeskTells'. -/
def deskTellsCard : Claim7 := { stood := { row := deskTellsRow, standIns := [], harness := (true, "22dd9fd24df04a105f34521d4680b87140700e5aceaee3f5e6594d9092d80d85"), looks := false }, kinds := [], alts := [], laidByText := true, laidKinds := [.data, .pinned], laidTests := true, laidLooks := .later }
def DeskTellsCardSaid : Prop := Claim7.holds Tryz.pinned (.plain (OpenSpec.ofChange deskTellsSpec)) deskTellsCard

/-- THE TIED CARD OF 'cutwaterlaw.DeskSame'. -/
def deskSameCard : Claim7 := { stood := { row := deskSameRow, standIns := [], harness := (true, "22dd9fd24df04a105f34521d4680b87140700e5aceaee3f5e6594d9092d80d85"), looks := false }, kinds := [], alts := [], laidByText := true, laidKinds := [.data, .pinned], laidTests := true, laidLooks := .later }
def DeskSameCardSaid : Prop := Claim7.holds Tryz.pinned (.plain (OpenSpec.ofChange deskSameSpec)) deskSameCard

/-- THE TIED CARD OF 'cutwaterlaw.DeskRuns'. -/
def deskRunsCard : Claim7 := { stood := { row := deskRunsRow, standIns := [], harness := (true, "22dd9fd24df04a105f34521d4680b87140700e5aceaee3f5e6594d9092d80d85"), looks := false }, kinds := [], alts := [], laidByText := true, laidKinds := [.data, .pinned], laidTests := true, laidLooks := .later }
def DeskRunsCardSaid : Prop := Claim7.holds Tryz.pinned (.plain (OpenSpec.ofChange deskRunsSpec)) deskRunsCard

/-- THE SECOND FORM's CARD OF 'cutwaterlaw.FoldTells'. -/
def foldTellsUptoCard : Claim7 := { stood := { row := foldTellsUptoRow, standIns := [], harness := (true, "22dd9fd24df04a105f34521d4680b87140700e5aceaee3f5e6594d9092d80d85"), looks := false }, kinds := [], alts := [], laidByText := true, laidKinds := [.data, .pinned], laidTests := true, laidLooks := .later }
def FoldTellsUptoCardSaid : Prop := Claim7.holds Tryz.pinned (.plain (OpenSpec.upto foldTellsSpec)) foldTellsUptoCard

/-- THE SECOND FORM's CARD OF 'cutwaterlaw.FoldOrder'. -/
def foldOrderUptoCard : Claim7 := { stood := { row := foldOrderUptoRow, standIns := [], harness := (true, "22dd9fd24df04a105f34521d4680b87140700e5aceaee3f5e6594d9092d80d85"), looks := false }, kinds := [], alts := [], laidByText := true, laidKinds := [.data, .pinned], laidTests := true, laidLooks := .later }
def FoldOrderUptoCardSaid : Prop := Claim7.holds Tryz.pinned (.plain (OpenSpec.upto foldOrderSpec)) foldOrderUptoCard

/-- THE SECOND FORM's CARD OF 'cutwaterlaw.FoldLast'. -/
def foldLastUptoCard : Claim7 := { stood := { row := foldLastUptoRow, standIns := [], harness := (true, "22dd9fd24df04a105f34521d4680b87140700e5aceaee3f5e6594d9092d80d85"), looks := false }, kinds := [], alts := [], laidByText := true, laidKinds := [.data, .pinned], laidTests := true, laidLooks := .later }
def FoldLastUptoCardSaid : Prop := Claim7.holds Tryz.pinned (.plain (OpenSpec.upto foldLastSpec)) foldLastUptoCard

/-- THE SECOND FORM's CARD OF 'cutwaterlaw.DeskTells'. -/
def deskTellsUptoCard : Claim7 := { stood := { row := deskTellsUptoRow, standIns := [], harness := (true, "22dd9fd24df04a105f34521d4680b87140700e5aceaee3f5e6594d9092d80d85"), looks := false }, kinds := [], alts := [], laidByText := true, laidKinds := [.data, .pinned], laidTests := true, laidLooks := .later }
def DeskTellsUptoCardSaid : Prop := Claim7.holds Tryz.pinned (.plain (OpenSpec.upto deskTellsSpec)) deskTellsUptoCard

/-- THE SECOND FORM's CARD OF 'cutwaterlaw.DeskSame'. -/
def deskSameUptoCard : Claim7 := { stood := { row := deskSameUptoRow, standIns := [], harness := (true, "22dd9fd24df04a105f34521d4680b87140700e5aceaee3f5e6594d9092d80d85"), looks := false }, kinds := [], alts := [], laidByText := true, laidKinds := [.data, .pinned], laidTests := true, laidLooks := .later }
def DeskSameUptoCardSaid : Prop := Claim7.holds Tryz.pinned (.plain (OpenSpec.upto deskSameSpec)) deskSameUptoCard

/-- THE SECOND FORM's CARD OF 'cutwaterlaw.DeskRuns'. -/
def deskRunsUptoCard : Claim7 := { stood := { row := deskRunsUptoRow, standIns := [], harness := (true, "22dd9fd24df04a105f34521d4680b87140700e5aceaee3f5e6594d9092d80d85"), looks := false }, kinds := [], alts := [], laidByText := true, laidKinds := [.data, .pinned], laidTests := true, laidLooks := .later }
def DeskRunsUptoCardSaid : Prop := Claim7.holds Tryz.pinned (.plain (OpenSpec.upto deskRunsSpec)) deskRunsUptoCard
end Rows
end Go.Proofs.YtfdolehffjmdmaaGreatDoor
