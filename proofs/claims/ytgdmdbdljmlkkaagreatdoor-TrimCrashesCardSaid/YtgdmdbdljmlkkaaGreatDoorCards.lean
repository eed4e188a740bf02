/-
  DERIVED. GIVEN WITH THE SEED: THE CARDS: each row of YtgdmdbdljmlkkaaGreatDoorRows.lean that lists a variable, with what it lists TIED to the program's text (the seventh form; the later family's looks); each row that meets fmt, with fmt's text TOLD by the authors' own Lean function (tested against real Go, not proved from fmt's source: count such statements apart). THE CARD IS WHAT COUNTS. Prove the row's statement (the work); the ties are given (YtgdmdbdljmlkkaaGreatDoorTie.lean); close each card by the builder's one call (the guide's Derived/Test/ToyasCard.lean, 'card_holds'). Laid BY PROGRAM, IN A SANDBOX (cutbox-door.mjs). By AI agents, Wed Nov 11 2026. No macro, syntax, notation, axiom, sorry.
-/
import Derived.Test.YtgdmdbdljmlkkaaGreatDoorRows
import GoSem.ClaimSeven
namespace Go.Proofs.YtgdmdbdljmlkkaaGreatDoor
namespace Rows

/-- THE TIED CARD OF 'clockworklaw08.WalMatches'. -/
def walMatchesCard : Claim7 := { stood := { row := walMatchesRow, standIns := [], harness := (true, "1fabb2024eb4511e801894ff4383dfd0d64b17011a771c4f0e9a44532a8a6460"), looks := false }, kinds := [], alts := [], laidByText := true, laidKinds := [.data, .data, .data, .data, .pinned], laidTests := true, laidLooks := .later }
def WalMatchesCardSaid : Prop := Claim7.holds Tryz.pinned (.plain (OpenSpec.ofChange walMatchesSpec)) walMatchesCard

/-- THE TIED CARD OF 'clockworklaw09.ScanOpens'. -/
def scanOpensCard : Claim7 := { stood := { row := scanOpensRow, standIns := [], harness := (true, "1fabb2024eb4511e801894ff4383dfd0d64b17011a771c4f0e9a44532a8a6460"), looks := false }, kinds := [], alts := [], laidByText := true, laidKinds := [.data, .data, .data, .data, .pinned], laidTests := true, laidLooks := .later }
def ScanOpensCardSaid : Prop := Claim7.holds Tryz.pinned (.plain (OpenSpec.ofChange scanOpensSpec)) scanOpensCard

/-- THE TIED CARD OF 'clockworklaw09.ScanLooks'. -/
def scanLooksCard : Claim7 := { stood := { row := scanLooksRow, standIns := [], harness := (true, "1fabb2024eb4511e801894ff4383dfd0d64b17011a771c4f0e9a44532a8a6460"), looks := false }, kinds := [], alts := [], laidByText := true, laidKinds := [.data, .data, .data, .data, .pinned], laidTests := true, laidLooks := .later }
def ScanLooksCardSaid : Prop := Claim7.holds Tryz.pinned (.plain (OpenSpec.ofChange scanLooksSpec)) scanLooksCard

/-- THE TIED CARD OF 'clockworklaw09.ScanNil'. -/
def scanNilCard : Claim7 := { stood := { row := scanNilRow, standIns := [], harness := (true, "1fabb2024eb4511e801894ff4383dfd0d64b17011a771c4f0e9a44532a8a6460"), looks := false }, kinds := [], alts := [], laidByText := true, laidKinds := [.data, .data, .data, .data, .pinned], laidTests := true, laidLooks := .later }
def ScanNilCardSaid : Prop := Claim7.holds Tryz.pinned (.plain (OpenSpec.ofChange scanNilSpec)) scanNilCard

/-- THE TIED CARD OF 'clockworklaw09.ScanAgain'. -/
def scanAgainCard : Claim7 := { stood := { row := scanAgainRow, standIns := [], harness := (true, "1fabb2024eb4511e801894ff4383dfd0d64b17011a771c4f0e9a44532a8a6460"), looks := false }, kinds := [], alts := [], laidByText := true, laidKinds := [.data, .data, .data, .data, .pinned], laidTests := true, laidLooks := .later }
def ScanAgainCardSaid : Prop := Claim7.holds Tryz.pinned (.plain (OpenSpec.ofChange scanAgainSpec)) scanAgainCard

/-- THE TIED CARD OF 'clockworklaw09.ScanBegins'. -/
def scanBeginsCard : Claim7 := { stood := { row := scanBeginsRow, standIns := [], harness := (true, "1fabb2024eb4511e801894ff4383dfd0d64b17011a771c4f0e9a44532a8a6460"), looks := false }, kinds := [], alts := [], laidByText := true, laidKinds := [.data, .data, .data, .data, .pinned], laidTests := true, laidLooks := .later }
def ScanBeginsCardSaid : Prop := Claim7.holds Tryz.pinned (.plain (OpenSpec.ofChange scanBeginsSpec)) scanBeginsCard

/-- THE TIED CARD OF 'clockworklaw10.TrimTwice'. -/
def trimTwiceCard : Claim7 := { stood := { row := trimTwiceRow, standIns := [], harness := (true, "1fabb2024eb4511e801894ff4383dfd0d64b17011a771c4f0e9a44532a8a6460"), looks := false }, kinds := [], alts := [], laidByText := true, laidKinds := [.data, .data, .data, .data, .pinned], laidTests := true, laidLooks := .later }
def TrimTwiceCardSaid : Prop := Claim7.holds Tryz.pinned (.plain (OpenSpec.ofChange trimTwiceSpec)) trimTwiceCard

/-- THE TIED CARD OF 'clockworklaw10.TrimCompacts'. -/
def trimCompactsCard : Claim7 := { stood := { row := trimCompactsRow, standIns := [], harness := (true, "1fabb2024eb4511e801894ff4383dfd0d64b17011a771c4f0e9a44532a8a6460"), looks := false }, kinds := [], alts := [], laidByText := true, laidKinds := [.data, .data, .data, .data, .pinned], laidTests := true, laidLooks := .later }
def TrimCompactsCardSaid : Prop := Claim7.holds Tryz.pinned (.plain (OpenSpec.ofChange trimCompactsSpec)) trimCompactsCard

/-- THE TIED CARD OF 'clockworklaw10.TrimCosts'. -/
def trimCostsCard : Claim7 := { stood := { row := trimCostsRow, standIns := [], harness := (true, "1fabb2024eb4511e801894ff4383dfd0d64b17011a771c4f0e9a44532a8a6460"), looks := false }, kinds := [], alts := [], laidByText := true, laidKinds := [.data, .data, .data, .data, .pinned], laidTests := true, laidLooks := .later }
def TrimCostsCardSaid : Prop := Claim7.holds Tryz.pinned (.plain (OpenSpec.ofChange trimCostsSpec)) trimCostsCard

/-- THE TIED CARD OF 'clockworklaw10.TrimKeeps'. -/
def trimKeepsCard : Claim7 := { stood := { row := trimKeepsRow, standIns := [], harness := (true, "1fabb2024eb4511e801894ff4383dfd0d64b17011a771c4f0e9a44532a8a6460"), looks := false }, kinds := [], alts := [], laidByText := true, laidKinds := [.data, .data, .data, .data, .pinned], laidTests := true, laidLooks := .later }
def TrimKeepsCardSaid : Prop := Claim7.holds Tryz.pinned (.plain (OpenSpec.ofChange trimKeepsSpec)) trimKeepsCard

/-- THE TIED CARD OF 'clockworklaw10.TrimCrashes'. -/
def trimCrashesCard : Claim7 := { stood := { row := trimCrashesRow, standIns := [], harness := (true, "1fabb2024eb4511e801894ff4383dfd0d64b17011a771c4f0e9a44532a8a6460"), looks := false }, kinds := [], alts := [], laidByText := true, laidKinds := [.data, .data, .data, .data, .pinned], laidTests := true, laidLooks := .later }
def TrimCrashesCardSaid : Prop := Claim7.holds Tryz.pinned (.plain (OpenSpec.ofChange trimCrashesSpec)) trimCrashesCard

/-- THE SECOND FORM's CARD OF 'clockworklaw08.WalMatches'. -/
def walMatchesUptoCard : Claim7 := { stood := { row := walMatchesUptoRow, standIns := [], harness := (true, "1fabb2024eb4511e801894ff4383dfd0d64b17011a771c4f0e9a44532a8a6460"), looks := false }, kinds := [], alts := [], laidByText := true, laidKinds := [.data, .data, .data, .data, .pinned], laidTests := true, laidLooks := .later }
def WalMatchesUptoCardSaid : Prop := Claim7.holds Tryz.pinned (.plain (OpenSpec.upto walMatchesSpec)) walMatchesUptoCard

/-- THE SECOND FORM's CARD OF 'clockworklaw09.ScanOpens'. -/
def scanOpensUptoCard : Claim7 := { stood := { row := scanOpensUptoRow, standIns := [], harness := (true, "1fabb2024eb4511e801894ff4383dfd0d64b17011a771c4f0e9a44532a8a6460"), looks := false }, kinds := [], alts := [], laidByText := true, laidKinds := [.data, .data, .data, .data, .pinned], laidTests := true, laidLooks := .later }
def ScanOpensUptoCardSaid : Prop := Claim7.holds Tryz.pinned (.plain (OpenSpec.upto scanOpensSpec)) scanOpensUptoCard

/-- THE SECOND FORM's CARD OF 'clockworklaw09.ScanLooks'. -/
def scanLooksUptoCard : Claim7 := { stood := { row := scanLooksUptoRow, standIns := [], harness := (true, "1fabb2024eb4511e801894ff4383dfd0d64b17011a771c4f0e9a44532a8a6460"), looks := false }, kinds := [], alts := [], laidByText := true, laidKinds := [.data, .data, .data, .data, .pinned], laidTests := true, laidLooks := .later }
def ScanLooksUptoCardSaid : Prop := Claim7.holds Tryz.pinned (.plain (OpenSpec.upto scanLooksSpec)) scanLooksUptoCard

/-- THE SECOND FORM's CARD OF 'clockworklaw09.ScanNil'. -/
def scanNilUptoCard : Claim7 := { stood := { row := scanNilUptoRow, standIns := [], harness := (true, "1fabb2024eb4511e801894ff4383dfd0d64b17011a771c4f0e9a44532a8a6460"), looks := false }, kinds := [], alts := [], laidByText := true, laidKinds := [.data, .data, .data, .data, .pinned], laidTests := true, laidLooks := .later }
def ScanNilUptoCardSaid : Prop := Claim7.holds Tryz.pinned (.plain (OpenSpec.upto scanNilSpec)) scanNilUptoCard

/-- THE SECOND FORM's CARD OF 'clockworklaw09.ScanAgain'. -/
def scanAgainUptoCard : Claim7 := { stood := { row := scanAgainUptoRow, standIns := [], harness := (true, "1fabb2024eb4511e801894ff4383dfd0d64b17011a771c4f0e9a44532a8a6460"), looks := false }, kinds := [], alts := [], laidByText := true, laidKinds := [.data, .data, .data, .data, .pinned], laidTests := true, laidLooks := .later }
def ScanAgainUptoCardSaid : Prop := Claim7.holds Tryz.pinned (.plain (OpenSpec.upto scanAgainSpec)) scanAgainUptoCard

/-- THE SECOND FORM's CARD OF 'clockworklaw09.ScanBegins'. -/
def scanBeginsUptoCard : Claim7 := { stood := { row := scanBeginsUptoRow, standIns := [], harness := (true, "1fabb2024eb4511e801894ff4383dfd0d64b17011a771c4f0e9a44532a8a6460"), looks := false }, kinds := [], alts := [], laidByText := true, laidKinds := [.data, .data, .data, .data, .pinned], laidTests := true, laidLooks := .later }
def ScanBeginsUptoCardSaid : Prop := Claim7.holds Tryz.pinned (.plain (OpenSpec.upto scanBeginsSpec)) scanBeginsUptoCard

/-- THE SECOND FORM's CARD OF 'clockworklaw10.TrimTwice'. -/
def trimTwiceUptoCard : Claim7 := { stood := { row := trimTwiceUptoRow, standIns := [], harness := (true, "1fabb2024eb4511e801894ff4383dfd0d64b17011a771c4f0e9a44532a8a6460"), looks := false }, kinds := [], alts := [], laidByText := true, laidKinds := [.data, .data, .data, .data, .pinned], laidTests := true, laidLooks := .later }
def TrimTwiceUptoCardSaid : Prop := Claim7.holds Tryz.pinned (.plain (OpenSpec.upto trimTwiceSpec)) trimTwiceUptoCard

/-- THE SECOND FORM's CARD OF 'clockworklaw10.TrimCompacts'. -/
def trimCompactsUptoCard : Claim7 := { stood := { row := trimCompactsUptoRow, standIns := [], harness := (true, "1fabb2024eb4511e801894ff4383dfd0d64b17011a771c4f0e9a44532a8a6460"), looks := false }, kinds := [], alts := [], laidByText := true, laidKinds := [.data, .data, .data, .data, .pinned], laidTests := true, laidLooks := .later }
def TrimCompactsUptoCardSaid : Prop := Claim7.holds Tryz.pinned (.plain (OpenSpec.upto trimCompactsSpec)) trimCompactsUptoCard

/-- THE SECOND FORM's CARD OF 'clockworklaw10.TrimCosts'. -/
def trimCostsUptoCard : Claim7 := { stood := { row := trimCostsUptoRow, standIns := [], harness := (true, "1fabb2024eb4511e801894ff4383dfd0d64b17011a771c4f0e9a44532a8a6460"), looks := false }, kinds := [], alts := [], laidByText := true, laidKinds := [.data, .data, .data, .data, .pinned], laidTests := true, laidLooks := .later }
def TrimCostsUptoCardSaid : Prop := Claim7.holds Tryz.pinned (.plain (OpenSpec.upto trimCostsSpec)) trimCostsUptoCard

/-- THE SECOND FORM's CARD OF 'clockworklaw10.TrimKeeps'. -/
def trimKeepsUptoCard : Claim7 := { stood := { row := trimKeepsUptoRow, standIns := [], harness := (true, "1fabb2024eb4511e801894ff4383dfd0d64b17011a771c4f0e9a44532a8a6460"), looks := false }, kinds := [], alts := [], laidByText := true, laidKinds := [.data, .data, .data, .data, .pinned], laidTests := true, laidLooks := .later }
def TrimKeepsUptoCardSaid : Prop := Claim7.holds Tryz.pinned (.plain (OpenSpec.upto trimKeepsSpec)) trimKeepsUptoCard

/-- THE SECOND FORM's CARD OF 'clockworklaw10.TrimCrashes'. -/
def trimCrashesUptoCard : Claim7 := { stood := { row := trimCrashesUptoRow, standIns := [], harness := (true, "1fabb2024eb4511e801894ff4383dfd0d64b17011a771c4f0e9a44532a8a6460"), looks := false }, kinds := [], alts := [], laidByText := true, laidKinds := [.data, .data, .data, .data, .pinned], laidTests := true, laidLooks := .later }
def TrimCrashesUptoCardSaid : Prop := Claim7.holds Tryz.pinned (.plain (OpenSpec.upto trimCrashesSpec)) trimCrashesUptoCard
end Rows
end Go.Proofs.YtgdmdbdljmlkkaaGreatDoor
