/-
  DERIVED. GIVEN WITH THE SEED: THE CARDS: each row of YtpijpeocdlnhiaaGreatDoorRows.lean that lists a variable, with what it lists TIED to the program's text (the seventh form; the later family's looks); each row that meets fmt, with fmt's text TOLD by the authors' own Lean function (tested against real Go, not proved from fmt's source: count such statements apart). THE CARD IS WHAT COUNTS. Prove the row's statement (the work); the ties are given (YtpijpeocdlnhiaaGreatDoorTie.lean); close each card by the builder's one call (the guide's Derived/Test/ToyasCard.lean, 'card_holds'). Laid BY PROGRAM, IN A SANDBOX (cutbox-door.mjs). By AI agents, Wed Nov 11 2026. No macro, syntax, notation, axiom, sorry.
-/
import Derived.Test.YtpijpeocdlnhiaaGreatDoorRows
import GoSem.ClaimSeven
namespace Go.Proofs.YtpijpeocdlnhiaaGreatDoor
namespace Rows

/-- THE TIED CARD OF 'clockworklaw04.ValueParses'. -/
def valueParsesCard : Claim7 := { stood := { row := valueParsesRow, standIns := [], harness := (true, "c11c12667e0a59124dd8b88b8003c9ac10a17532c239bec04680c5222b2789a3"), looks := true }, kinds := [], alts := [], laidByText := true, laidKinds := [.data, .data, .data, .data, .sentinel, .sentinel, .pinned], laidTests := true, laidLooks := .later }
def ValueParsesCardSaid : Prop := Claim7.holds Tryz.pinned (.plain (OpenSpec.ofChange valueParsesSpec)) valueParsesCard

/-- THE TIED CARD OF 'clockworklaw04.ValueDepths'. -/
def valueDepthsCard : Claim7 := { stood := { row := valueDepthsRow, standIns := [], harness := (true, "c11c12667e0a59124dd8b88b8003c9ac10a17532c239bec04680c5222b2789a3"), looks := true }, kinds := [], alts := [], laidByText := true, laidKinds := [.data, .data, .data, .data, .sentinel, .sentinel, .pinned], laidTests := true, laidLooks := .later }
def ValueDepthsCardSaid : Prop := Claim7.holds Tryz.pinned (.plain (OpenSpec.ofChange valueDepthsSpec)) valueDepthsCard

/-- THE TIED CARD OF 'clockworklaw04.ValueForms'. -/
def valueFormsCard : Claim7 := { stood := { row := valueFormsRow, standIns := [], harness := (true, "c11c12667e0a59124dd8b88b8003c9ac10a17532c239bec04680c5222b2789a3"), looks := true }, kinds := [], alts := [], laidByText := true, laidKinds := [.data, .data, .data, .data, .sentinel, .sentinel, .pinned], laidTests := true, laidLooks := .later }
def ValueFormsCardSaid : Prop := Claim7.holds Tryz.pinned (.plain (OpenSpec.ofChange valueFormsSpec)) valueFormsCard

/-- THE TIED CARD OF 'clockworklaw20.ProgramTexts'. -/
def programTextsCard : Claim7 := { stood := { row := programTextsRow, standIns := [], harness := (true, "c11c12667e0a59124dd8b88b8003c9ac10a17532c239bec04680c5222b2789a3"), looks := true }, kinds := [], alts := [], laidByText := true, laidKinds := [.data, .data, .data, .data, .sentinel, .sentinel, .widerDeep, .pinned], laidTests := true, laidLooks := .later }
def ProgramTextsCardSaid : Prop := Claim7.holds Tryz.pinned (.plain (OpenSpec.ofChange programTextsSpec)) programTextsCard

/-- THE TIED CARD OF 'clockworklaw20.ProgramParses'. -/
def programParsesCard : Claim7 := { stood := { row := programParsesRow, standIns := [], harness := (true, "c11c12667e0a59124dd8b88b8003c9ac10a17532c239bec04680c5222b2789a3"), looks := true }, kinds := [], alts := [], laidByText := true, laidKinds := [.data, .data, .data, .data, .sentinel, .sentinel, .widerDeep, .pinned], laidTests := true, laidLooks := .later }
def ProgramParsesCardSaid : Prop := Claim7.holds Tryz.pinned (.plain (OpenSpec.ofChange programParsesSpec)) programParsesCard

/-- THE SECOND FORM's CARD OF 'clockworklaw04.ValueParses'. -/
def valueParsesUptoCard : Claim7 := { stood := { row := valueParsesUptoRow, standIns := [], harness := (true, "c11c12667e0a59124dd8b88b8003c9ac10a17532c239bec04680c5222b2789a3"), looks := true }, kinds := [], alts := [], laidByText := true, laidKinds := [.data, .data, .data, .data, .sentinel, .sentinel, .pinned], laidTests := true, laidLooks := .later }
def ValueParsesUptoCardSaid : Prop := Claim7.holds Tryz.pinned (.plain (OpenSpec.upto valueParsesSpec)) valueParsesUptoCard

/-- THE SECOND FORM's CARD OF 'clockworklaw04.ValueDepths'. -/
def valueDepthsUptoCard : Claim7 := { stood := { row := valueDepthsUptoRow, standIns := [], harness := (true, "c11c12667e0a59124dd8b88b8003c9ac10a17532c239bec04680c5222b2789a3"), looks := true }, kinds := [], alts := [], laidByText := true, laidKinds := [.data, .data, .data, .data, .sentinel, .sentinel, .pinned], laidTests := true, laidLooks := .later }
def ValueDepthsUptoCardSaid : Prop := Claim7.holds Tryz.pinned (.plain (OpenSpec.upto valueDepthsSpec)) valueDepthsUptoCard

/-- THE SECOND FORM's CARD OF 'clockworklaw04.ValueForms'. -/
def valueFormsUptoCard : Claim7 := { stood := { row := valueFormsUptoRow, standIns := [], harness := (true, "c11c12667e0a59124dd8b88b8003c9ac10a17532c239bec04680c5222b2789a3"), looks := true }, kinds := [], alts := [], laidByText := true, laidKinds := [.data, .data, .data, .data, .sentinel, .sentinel, .pinned], laidTests := true, laidLooks := .later }
def ValueFormsUptoCardSaid : Prop := Claim7.holds Tryz.pinned (.plain (OpenSpec.upto valueFormsSpec)) valueFormsUptoCard

/-- THE SECOND FORM's CARD OF 'clockworklaw20.ProgramTexts'. -/
def programTextsUptoCard : Claim7 := { stood := { row := programTextsUptoRow, standIns := [], harness := (true, "c11c12667e0a59124dd8b88b8003c9ac10a17532c239bec04680c5222b2789a3"), looks := true }, kinds := [], alts := [], laidByText := true, laidKinds := [.data, .data, .data, .data, .sentinel, .sentinel, .widerDeep, .pinned], laidTests := true, laidLooks := .later }
def ProgramTextsUptoCardSaid : Prop := Claim7.holds Tryz.pinned (.plain (OpenSpec.upto programTextsSpec)) programTextsUptoCard

/-- THE SECOND FORM's CARD OF 'clockworklaw20.ProgramParses'. -/
def programParsesUptoCard : Claim7 := { stood := { row := programParsesUptoRow, standIns := [], harness := (true, "c11c12667e0a59124dd8b88b8003c9ac10a17532c239bec04680c5222b2789a3"), looks := true }, kinds := [], alts := [], laidByText := true, laidKinds := [.data, .data, .data, .data, .sentinel, .sentinel, .widerDeep, .pinned], laidTests := true, laidLooks := .later }
def ProgramParsesUptoCardSaid : Prop := Claim7.holds Tryz.pinned (.plain (OpenSpec.upto programParsesSpec)) programParsesUptoCard
end Rows
end Go.Proofs.YtpijpeocdlnhiaaGreatDoor
