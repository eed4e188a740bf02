/-
  DERIVED. GIVEN WITH THE SEED: THE CARDS: each row of YtoocagpjcbagoaaDoorRows.lean that lists a variable, with what it lists TIED to the program's text (the seventh form; the later family's looks); each row that meets fmt, with fmt's text TOLD by the authors' own Lean function (tested against real Go, not proved from fmt's source: count such statements apart). THE CARD IS WHAT COUNTS. Prove the row's statement (the work); the ties are given (YtoocagpjcbagoaaDoorTie.lean); close each card by the builder's one call (the guide's Derived/Test/ToyasCard.lean, 'card_holds'). Laid BY PROGRAM, IN A SANDBOX (cutbox-door.mjs). By AI agents, Wed Nov 11 2026. No macro, syntax, notation, axiom, sorry.
-/
import Derived.Test.YtoocagpjcbagoaaDoorRows
import GoSem.ClaimSeven
namespace Go.Proofs.YtoocagpjcbagoaaDoor
namespace Rows

/-- THE TIED CARD OF 'clockworklaw20.ProgramLimits'. -/
def programLimitsCard : Claim7 := { stood := { row := programLimitsRow, standIns := [], harness := (true, "706346b7efd5882ac7904f97e79d2a0e01631a23581c4f2f8324bece14393ab3"), looks := true }, kinds := [], alts := [], laidByText := true, laidKinds := [.data, .data, .data, .widerDeep], laidTests := true, laidLooks := .later }
def ProgramLimitsCardSaid : Prop := Claim7.holds Tryd.pinned (.plain (OpenSpec.ofChange programLimitsSpec)) programLimitsCard

/-- THE TIED CARD OF 'clockworklaw20.ProgramSame'. -/
def programSameCard : Claim7 := { stood := { row := programSameRow, standIns := [], harness := (true, "706346b7efd5882ac7904f97e79d2a0e01631a23581c4f2f8324bece14393ab3"), looks := true }, kinds := [], alts := [], laidByText := true, laidKinds := [.data, .data, .data, .widerDeep], laidTests := true, laidLooks := .later }
def ProgramSameCardSaid : Prop := Claim7.holds Tryd.pinned (.plain (OpenSpec.ofChange programSameSpec)) programSameCard

/-- THE SECOND FORM's CARD OF 'clockworklaw20.ProgramLimits'. -/
def programLimitsUptoCard : Claim7 := { stood := { row := programLimitsUptoRow, standIns := [], harness := (true, "706346b7efd5882ac7904f97e79d2a0e01631a23581c4f2f8324bece14393ab3"), looks := true }, kinds := [], alts := [], laidByText := true, laidKinds := [.data, .data, .data, .widerDeep], laidTests := true, laidLooks := .later }
def ProgramLimitsUptoCardSaid : Prop := Claim7.holds Tryd.pinned (.plain (OpenSpec.upto programLimitsSpec)) programLimitsUptoCard

/-- THE SECOND FORM's CARD OF 'clockworklaw20.ProgramSame'. -/
def programSameUptoCard : Claim7 := { stood := { row := programSameUptoRow, standIns := [], harness := (true, "706346b7efd5882ac7904f97e79d2a0e01631a23581c4f2f8324bece14393ab3"), looks := true }, kinds := [], alts := [], laidByText := true, laidKinds := [.data, .data, .data, .widerDeep], laidTests := true, laidLooks := .later }
def ProgramSameUptoCardSaid : Prop := Claim7.holds Tryd.pinned (.plain (OpenSpec.upto programSameSpec)) programSameUptoCard
end Rows
end Go.Proofs.YtoocagpjcbagoaaDoor
