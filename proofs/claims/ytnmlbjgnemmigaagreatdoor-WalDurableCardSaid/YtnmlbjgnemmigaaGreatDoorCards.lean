/-
  DERIVED. GIVEN WITH THE SEED: THE CARDS: each row of YtnmlbjgnemmigaaGreatDoorRows.lean that lists a variable, with what it lists TIED to the program's text (the seventh form; the later family's looks); each row that meets fmt, with fmt's text TOLD by the authors' own Lean function (tested against real Go, not proved from fmt's source: count such statements apart). THE CARD IS WHAT COUNTS. Prove the row's statement (the work); the ties are given (YtnmlbjgnemmigaaGreatDoorTie.lean); close each card by the builder's one call (the guide's Derived/Test/ToyasCard.lean, 'card_holds'). Laid BY PROGRAM, IN A SANDBOX (cutbox-door.mjs). By AI agents, Wed Nov 11 2026. No macro, syntax, notation, axiom, sorry.
-/
import Derived.Test.YtnmlbjgnemmigaaGreatDoorRows
import GoSem.ClaimSeven
namespace Go.Proofs.YtnmlbjgnemmigaaGreatDoor
namespace Rows

/-- THE TIED CARD OF 'clockworklaw08.WalRecords'. -/
def walRecordsCard : Claim7 := { stood := { row := walRecordsRow, standIns := [], harness := (true, "8544f3e4aa3313b97849a8bd7ce2f78c01e0408997c20ce2ef2bd6b9bc6b41a3"), looks := false }, kinds := [], alts := [], laidByText := true, laidKinds := [.data, .data, .data, .data, .pinned], laidTests := true, laidLooks := .later }
def WalRecordsCardSaid : Prop := Claim7.holds Tryz.pinned (.plain (OpenSpec.ofChange walRecordsSpec)) walRecordsCard

/-- THE TIED CARD OF 'clockworklaw08.WalRotates'. -/
def walRotatesCard : Claim7 := { stood := { row := walRotatesRow, standIns := [], harness := (true, "8544f3e4aa3313b97849a8bd7ce2f78c01e0408997c20ce2ef2bd6b9bc6b41a3"), looks := false }, kinds := [], alts := [], laidByText := true, laidKinds := [.data, .data, .data, .data, .pinned], laidTests := true, laidLooks := .later }
def WalRotatesCardSaid : Prop := Claim7.holds Tryz.pinned (.plain (OpenSpec.ofChange walRotatesSpec)) walRotatesCard

/-- THE TIED CARD OF 'clockworklaw08.WalDurable'. -/
def walDurableCard : Claim7 := { stood := { row := walDurableRow, standIns := [], harness := (true, "8544f3e4aa3313b97849a8bd7ce2f78c01e0408997c20ce2ef2bd6b9bc6b41a3"), looks := false }, kinds := [], alts := [], laidByText := true, laidKinds := [.data, .data, .data, .data, .pinned], laidTests := true, laidLooks := .later }
def WalDurableCardSaid : Prop := Claim7.holds Tryz.pinned (.plain (OpenSpec.ofChange walDurableSpec)) walDurableCard

/-- THE TIED CARD OF 'clockworklaw08.WalMatches'. -/
def walMatchesCard : Claim7 := { stood := { row := walMatchesRow, standIns := [], harness := (true, "8544f3e4aa3313b97849a8bd7ce2f78c01e0408997c20ce2ef2bd6b9bc6b41a3"), looks := false }, kinds := [], alts := [], laidByText := true, laidKinds := [.data, .data, .data, .data, .pinned], laidTests := true, laidLooks := .later }
def WalMatchesCardSaid : Prop := Claim7.holds Tryz.pinned (.plain (OpenSpec.ofChange walMatchesSpec)) walMatchesCard

/-- THE SECOND FORM's CARD OF 'clockworklaw08.WalRecords'. -/
def walRecordsUptoCard : Claim7 := { stood := { row := walRecordsUptoRow, standIns := [], harness := (true, "8544f3e4aa3313b97849a8bd7ce2f78c01e0408997c20ce2ef2bd6b9bc6b41a3"), looks := false }, kinds := [], alts := [], laidByText := true, laidKinds := [.data, .data, .data, .data, .pinned], laidTests := true, laidLooks := .later }
def WalRecordsUptoCardSaid : Prop := Claim7.holds Tryz.pinned (.plain (OpenSpec.upto walRecordsSpec)) walRecordsUptoCard

/-- THE SECOND FORM's CARD OF 'clockworklaw08.WalRotates'. -/
def walRotatesUptoCard : Claim7 := { stood := { row := walRotatesUptoRow, standIns := [], harness := (true, "8544f3e4aa3313b97849a8bd7ce2f78c01e0408997c20ce2ef2bd6b9bc6b41a3"), looks := false }, kinds := [], alts := [], laidByText := true, laidKinds := [.data, .data, .data, .data, .pinned], laidTests := true, laidLooks := .later }
def WalRotatesUptoCardSaid : Prop := Claim7.holds Tryz.pinned (.plain (OpenSpec.upto walRotatesSpec)) walRotatesUptoCard

/-- THE SECOND FORM's CARD OF 'clockworklaw08.WalDurable'. -/
def walDurableUptoCard : Claim7 := { stood := { row := walDurableUptoRow, standIns := [], harness := (true, "8544f3e4aa3313b97849a8bd7ce2f78c01e0408997c20ce2ef2bd6b9bc6b41a3"), looks := false }, kinds := [], alts := [], laidByText := true, laidKinds := [.data, .data, .data, .data, .pinned], laidTests := true, laidLooks := .later }
def WalDurableUptoCardSaid : Prop := Claim7.holds Tryz.pinned (.plain (OpenSpec.upto walDurableSpec)) walDurableUptoCard

/-- THE SECOND FORM's CARD OF 'clockworklaw08.WalMatches'. -/
def walMatchesUptoCard : Claim7 := { stood := { row := walMatchesUptoRow, standIns := [], harness := (true, "8544f3e4aa3313b97849a8bd7ce2f78c01e0408997c20ce2ef2bd6b9bc6b41a3"), looks := false }, kinds := [], alts := [], laidByText := true, laidKinds := [.data, .data, .data, .data, .pinned], laidTests := true, laidLooks := .later }
def WalMatchesUptoCardSaid : Prop := Claim7.holds Tryz.pinned (.plain (OpenSpec.upto walMatchesSpec)) walMatchesUptoCard
end Rows
end Go.Proofs.YtnmlbjgnemmigaaGreatDoor
