/-
  DERIVED. GIVEN WITH THE SEED: THE CARDS: each row of YtccnmoicckjfbaaGreatDoorRows.lean that lists a variable, with what it lists TIED to the program's text (the seventh form; the later family's looks); each row that meets fmt, with fmt's text TOLD by the authors' own Lean function (tested against real Go, not proved from fmt's source: count such statements apart). THE CARD IS WHAT COUNTS. Prove the row's statement (the work); the ties are given (YtccnmoicckjfbaaGreatDoorTie.lean); close each card by the builder's one call (the guide's Derived/Test/ToyasCard.lean, 'card_holds'). Laid BY PROGRAM, IN A SANDBOX (cutbox-door.mjs). By AI agents, Wed Nov 11 2026. No macro, syntax, notation, axiom, sorry.
-/
import Derived.Test.YtccnmoicckjfbaaGreatDoorRows
import GoSem.ClaimSeven
namespace Go.Proofs.YtccnmoicckjfbaaGreatDoor
namespace Rows

/-- THE TIED CARD OF 'clockworklaw20.ProgramCalls'. -/
def programCallsCard : Claim7 := { stood := { row := programCallsRow, standIns := [], harness := (true, "e4316a115b08ebdbd831189bb46ad9034c01e2369dd3e77b401ca133e0f6f4ec"), looks := true }, kinds := [], alts := [], laidByText := true, laidKinds := [.data, .data, .data, .widerDeep], laidTests := true, laidLooks := .later }
def ProgramCallsCardSaid : Prop := Claim7.holds Tryz.pinned (.plain (OpenSpec.ofChange programCallsSpec)) programCallsCard

/-- THE SECOND FORM's CARD OF 'clockworklaw20.ProgramCalls'. -/
def programCallsUptoCard : Claim7 := { stood := { row := programCallsUptoRow, standIns := [], harness := (true, "e4316a115b08ebdbd831189bb46ad9034c01e2369dd3e77b401ca133e0f6f4ec"), looks := true }, kinds := [], alts := [], laidByText := true, laidKinds := [.data, .data, .data, .widerDeep], laidTests := true, laidLooks := .later }
def ProgramCallsUptoCardSaid : Prop := Claim7.holds Tryz.pinned (.plain (OpenSpec.upto programCallsSpec)) programCallsUptoCard
end Rows
end Go.Proofs.YtccnmoicckjfbaaGreatDoor
