/-
  DERIVED. GIVEN WITH THE SEED: THE CARDS: each row of YtnpkjkbcmidbmaaDoorRows.lean that lists a variable, with what it lists TIED to the program's text (the seventh form; the later family's looks); each row that meets fmt, with fmt's text TOLD by the authors' own Lean function (tested against real Go, not proved from fmt's source: count such statements apart). THE CARD IS WHAT COUNTS. Prove the row's statement (the work); the ties are given (YtnpkjkbcmidbmaaDoorTie.lean); close each card by the builder's one call (the guide's Derived/Test/ToyasCard.lean, 'card_holds'). Laid BY PROGRAM, IN A SANDBOX (cutbox-door.mjs). By AI agents, Wed Nov 11 2026. No macro, syntax, notation, axiom, sorry.
-/
import Derived.Test.YtnpkjkbcmidbmaaDoorRows
import GoSem.ClaimSeven
namespace Go.Proofs.YtnpkjkbcmidbmaaDoor
namespace Rows

/-- THE TIED CARD OF 'clockworklaw07.SegmentOrders'. -/
def segmentOrdersCard : Claim7 := { stood := { row := segmentOrdersRow, standIns := [], harness := (true, "c13ff71ee461f6d082c14dce197373d29924b0e54d0a139f18064cc6758de929"), looks := false }, kinds := [], alts := [], laidByText := true, laidKinds := [.data, .data, .data], laidTests := true, laidLooks := .later }
def SegmentOrdersCardSaid : Prop := Claim7.holds Tryd.pinned (.plain (OpenSpec.ofChange segmentOrdersSpec)) segmentOrdersCard

/-- THE TIED CARD OF 'clockworklaw07.SegmentNames'. -/
def segmentNamesCard : Claim7 := { stood := { row := segmentNamesRow, standIns := [], harness := (true, "c13ff71ee461f6d082c14dce197373d29924b0e54d0a139f18064cc6758de929"), looks := false }, kinds := [], alts := [], laidByText := true, laidKinds := [.data, .data, .data], laidTests := true, laidLooks := .later }
def SegmentNamesCardSaid : Prop := Claim7.holds Tryd.pinned (.plain (OpenSpec.ofChange segmentNamesSpec)) segmentNamesCard

/-- THE TIED CARD OF 'clockworklaw07.SegmentNumbers'. -/
def segmentNumbersCard : Claim7 := { stood := { row := segmentNumbersRow, standIns := [], harness := (true, "c13ff71ee461f6d082c14dce197373d29924b0e54d0a139f18064cc6758de929"), looks := false }, kinds := [], alts := [], laidByText := true, laidKinds := [.data, .data, .data], laidTests := true, laidLooks := .later }
def SegmentNumbersCardSaid : Prop := Claim7.holds Tryd.pinned (.plain (OpenSpec.ofChange segmentNumbersSpec)) segmentNumbersCard

/-- THE TIED CARD OF 'clockworklaw07.SegmentLists'. -/
def segmentListsCard : Claim7 := { stood := { row := segmentListsRow, standIns := [], harness := (true, "c13ff71ee461f6d082c14dce197373d29924b0e54d0a139f18064cc6758de929"), looks := false }, kinds := [], alts := [], laidByText := true, laidKinds := [.data, .data, .data], laidTests := true, laidLooks := .later }
def SegmentListsCardSaid : Prop := Claim7.holds Tryd.pinned (.plain (OpenSpec.ofChange segmentListsSpec)) segmentListsCard

/-- THE SECOND FORM's CARD OF 'clockworklaw07.SegmentOrders'. -/
def segmentOrdersUptoCard : Claim7 := { stood := { row := segmentOrdersUptoRow, standIns := [], harness := (true, "c13ff71ee461f6d082c14dce197373d29924b0e54d0a139f18064cc6758de929"), looks := false }, kinds := [], alts := [], laidByText := true, laidKinds := [.data, .data, .data], laidTests := true, laidLooks := .later }
def SegmentOrdersUptoCardSaid : Prop := Claim7.holds Tryd.pinned (.plain (OpenSpec.upto segmentOrdersSpec)) segmentOrdersUptoCard

/-- THE SECOND FORM's CARD OF 'clockworklaw07.SegmentNames'. -/
def segmentNamesUptoCard : Claim7 := { stood := { row := segmentNamesUptoRow, standIns := [], harness := (true, "c13ff71ee461f6d082c14dce197373d29924b0e54d0a139f18064cc6758de929"), looks := false }, kinds := [], alts := [], laidByText := true, laidKinds := [.data, .data, .data], laidTests := true, laidLooks := .later }
def SegmentNamesUptoCardSaid : Prop := Claim7.holds Tryd.pinned (.plain (OpenSpec.upto segmentNamesSpec)) segmentNamesUptoCard

/-- THE SECOND FORM's CARD OF 'clockworklaw07.SegmentNumbers'. -/
def segmentNumbersUptoCard : Claim7 := { stood := { row := segmentNumbersUptoRow, standIns := [], harness := (true, "c13ff71ee461f6d082c14dce197373d29924b0e54d0a139f18064cc6758de929"), looks := false }, kinds := [], alts := [], laidByText := true, laidKinds := [.data, .data, .data], laidTests := true, laidLooks := .later }
def SegmentNumbersUptoCardSaid : Prop := Claim7.holds Tryd.pinned (.plain (OpenSpec.upto segmentNumbersSpec)) segmentNumbersUptoCard

/-- THE SECOND FORM's CARD OF 'clockworklaw07.SegmentLists'. -/
def segmentListsUptoCard : Claim7 := { stood := { row := segmentListsUptoRow, standIns := [], harness := (true, "c13ff71ee461f6d082c14dce197373d29924b0e54d0a139f18064cc6758de929"), looks := false }, kinds := [], alts := [], laidByText := true, laidKinds := [.data, .data, .data], laidTests := true, laidLooks := .later }
def SegmentListsUptoCardSaid : Prop := Claim7.holds Tryd.pinned (.plain (OpenSpec.upto segmentListsSpec)) segmentListsUptoCard
end Rows
end Go.Proofs.YtnpkjkbcmidbmaaDoor
