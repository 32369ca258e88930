/-
  DERIVED. GIVEN WITH THE SEED: THE CARDS: each row of YtkcahmbcpkjpiaaGreatDoorRows.lean that lists a variable, with what it lists TIED to the program's text (the seventh form; the later family's looks); each row that meets fmt, with fmt's text TOLD by the authors' own Lean function (tested against real Go, not proved from fmt's source: count such statements apart). THE CARD IS WHAT COUNTS. Prove the row's statement (the work); the ties are given (YtkcahmbcpkjpiaaGreatDoorTie.lean); close each card by the builder's one call (the guide's Derived/Test/ToyasCard.lean, 'card_holds'). Laid BY PROGRAM, IN A SANDBOX (cutbox-door.mjs). By AI agents, Wed Nov 11 2026. No macro, syntax, notation, axiom, sorry.
-/
import Derived.Test.YtkcahmbcpkjpiaaGreatDoorRows
import GoSem.ClaimSeven
namespace Go.Proofs.YtkcahmbcpkjpiaaGreatDoor
namespace Rows

/-- THE TIED CARD OF 'cutwaterlaw.RestWorlds'. -/
def restWorldsCard : Claim7 := { stood := { row := restWorldsRow, standIns := [], harness := (true, "7eaa7e7463c3e43a2700055435ee551a32b7e5e3f3b2f264eda3d7593e86e3ca"), looks := true }, kinds := [], alts := [], laidByText := true, laidKinds := [.data, .pinned], laidTests := true, laidLooks := .later }
def RestWorldsCardSaid : Prop := Claim7.holds Tryz.pinned (.plain (OpenSpec.ofChange restWorldsSpec)) restWorldsCard

/-- THE TIED CARD OF 'cutwaterlaw.RestLogs'. -/
def restLogsCard : Claim7 := { stood := { row := restLogsRow, standIns := [], harness := (true, "7eaa7e7463c3e43a2700055435ee551a32b7e5e3f3b2f264eda3d7593e86e3ca"), looks := true }, kinds := [], alts := [], laidByText := true, laidKinds := [.data, .pinned], laidTests := true, laidLooks := .later }
def RestLogsCardSaid : Prop := Claim7.holds Tryz.pinned (.plain (OpenSpec.ofChange restLogsSpec)) restLogsCard

/-- THE SECOND FORM's CARD OF 'cutwaterlaw.RestWorlds'. -/
def restWorldsUptoCard : Claim7 := { stood := { row := restWorldsUptoRow, standIns := [], harness := (true, "7eaa7e7463c3e43a2700055435ee551a32b7e5e3f3b2f264eda3d7593e86e3ca"), looks := true }, kinds := [], alts := [], laidByText := true, laidKinds := [.data, .pinned], laidTests := true, laidLooks := .later }
def RestWorldsUptoCardSaid : Prop := Claim7.holds Tryz.pinned (.plain (OpenSpec.upto restWorldsSpec)) restWorldsUptoCard

/-- THE SECOND FORM's CARD OF 'cutwaterlaw.RestLogs'. -/
def restLogsUptoCard : Claim7 := { stood := { row := restLogsUptoRow, standIns := [], harness := (true, "7eaa7e7463c3e43a2700055435ee551a32b7e5e3f3b2f264eda3d7593e86e3ca"), looks := true }, kinds := [], alts := [], laidByText := true, laidKinds := [.data, .pinned], laidTests := true, laidLooks := .later }
def RestLogsUptoCardSaid : Prop := Claim7.holds Tryz.pinned (.plain (OpenSpec.upto restLogsSpec)) restLogsUptoCard
end Rows
end Go.Proofs.YtkcahmbcpkjpiaaGreatDoor
