/-
  DERIVED. GIVEN WITH THE SEED: THE CARDS: each row of YtjhhmljebflanaaDoorRows.lean that lists a variable, with what it lists TIED to the program's text (the seventh form; the later family's looks); each row that meets fmt, with fmt's text TOLD by the authors' own Lean function (tested against real Go, not proved from fmt's source: count such statements apart). THE CARD IS WHAT COUNTS. Prove the row's statement (the work); the ties are given (YtjhhmljebflanaaDoorTie.lean); close each card by the builder's one call (the guide's Derived/Test/ToyasCard.lean, 'card_holds'). Laid BY PROGRAM, IN A SANDBOX (cutbox-door.mjs). By AI agents, Wed Nov 11 2026. No macro, syntax, notation, axiom, sorry.
-/
import Derived.Test.YtjhhmljebflanaaDoorRows
import GoSem.ClaimSeven
namespace Go.Proofs.YtjhhmljebflanaaDoor
namespace Rows

/-- THE TIED CARD OF 'clockworklaw05.DiskPlans'. -/
def diskPlansCard : Claim7 := { stood := { row := diskPlansRow, standIns := [], harness := (true, "96a6253a618bfff93638b0e70676ab6799bba9dbf7d31c7251d6b00675bd7875"), looks := false }, kinds := [], alts := [], laidByText := true, laidKinds := [.data, .pinned], laidTests := true, laidLooks := .later }
def DiskPlansCardSaid : Prop := Claim7.holds Tryd.pinned (.plain (OpenSpec.ofChange diskPlansSpec)) diskPlansCard

/-- THE TIED CARD OF 'clockworklaw05.DiskRoom'. -/
def diskRoomCard : Claim7 := { stood := { row := diskRoomRow, standIns := [], harness := (true, "96a6253a618bfff93638b0e70676ab6799bba9dbf7d31c7251d6b00675bd7875"), looks := false }, kinds := [], alts := [], laidByText := true, laidKinds := [.data, .pinned], laidTests := true, laidLooks := .later }
def DiskRoomCardSaid : Prop := Claim7.holds Tryd.pinned (.plain (OpenSpec.ofChange diskRoomSpec)) diskRoomCard

/-- THE TIED CARD OF 'clockworklaw05.DiskMatches'. -/
def diskMatchesCard : Claim7 := { stood := { row := diskMatchesRow, standIns := [], harness := (true, "96a6253a618bfff93638b0e70676ab6799bba9dbf7d31c7251d6b00675bd7875"), looks := false }, kinds := [], alts := [], laidByText := true, laidKinds := [.data, .pinned], laidTests := true, laidLooks := .later }
def DiskMatchesCardSaid : Prop := Claim7.holds Tryd.pinned (.plain (OpenSpec.ofChange diskMatchesSpec)) diskMatchesCard

/-- THE TIED CARD OF 'clockworklaw05.DiskKeeps'. -/
def diskKeepsCard : Claim7 := { stood := { row := diskKeepsRow, standIns := [], harness := (true, "96a6253a618bfff93638b0e70676ab6799bba9dbf7d31c7251d6b00675bd7875"), looks := false }, kinds := [], alts := [], laidByText := true, laidKinds := [.data, .pinned], laidTests := true, laidLooks := .later }
def DiskKeepsCardSaid : Prop := Claim7.holds Tryd.pinned (.plain (OpenSpec.ofChange diskKeepsSpec)) diskKeepsCard

/-- THE TIED CARD OF 'clockworklaw05.DiskDurable'. -/
def diskDurableCard : Claim7 := { stood := { row := diskDurableRow, standIns := [], harness := (true, "96a6253a618bfff93638b0e70676ab6799bba9dbf7d31c7251d6b00675bd7875"), looks := false }, kinds := [], alts := [], laidByText := true, laidKinds := [.data, .pinned], laidTests := true, laidLooks := .later }
def DiskDurableCardSaid : Prop := Claim7.holds Tryd.pinned (.plain (OpenSpec.ofChange diskDurableSpec)) diskDurableCard

/-- THE SECOND FORM's CARD OF 'clockworklaw05.DiskPlans'. -/
def diskPlansUptoCard : Claim7 := { stood := { row := diskPlansUptoRow, standIns := [], harness := (true, "96a6253a618bfff93638b0e70676ab6799bba9dbf7d31c7251d6b00675bd7875"), looks := false }, kinds := [], alts := [], laidByText := true, laidKinds := [.data, .pinned], laidTests := true, laidLooks := .later }
def DiskPlansUptoCardSaid : Prop := Claim7.holds Tryd.pinned (.plain (OpenSpec.upto diskPlansSpec)) diskPlansUptoCard

/-- THE SECOND FORM's CARD OF 'clockworklaw05.DiskRoom'. -/
def diskRoomUptoCard : Claim7 := { stood := { row := diskRoomUptoRow, standIns := [], harness := (true, "96a6253a618bfff93638b0e70676ab6799bba9dbf7d31c7251d6b00675bd7875"), looks := false }, kinds := [], alts := [], laidByText := true, laidKinds := [.data, .pinned], laidTests := true, laidLooks := .later }
def DiskRoomUptoCardSaid : Prop := Claim7.holds Tryd.pinned (.plain (OpenSpec.upto diskRoomSpec)) diskRoomUptoCard

/-- THE SECOND FORM's CARD OF 'clockworklaw05.DiskMatches'. -/
def diskMatchesUptoCard : Claim7 := { stood := { row := diskMatchesUptoRow, standIns := [], harness := (true, "96a6253a618bfff93638b0e70676ab6799bba9dbf7d31c7251d6b00675bd7875"), looks := false }, kinds := [], alts := [], laidByText := true, laidKinds := [.data, .pinned], laidTests := true, laidLooks := .later }
def DiskMatchesUptoCardSaid : Prop := Claim7.holds Tryd.pinned (.plain (OpenSpec.upto diskMatchesSpec)) diskMatchesUptoCard

/-- THE SECOND FORM's CARD OF 'clockworklaw05.DiskKeeps'. -/
def diskKeepsUptoCard : Claim7 := { stood := { row := diskKeepsUptoRow, standIns := [], harness := (true, "96a6253a618bfff93638b0e70676ab6799bba9dbf7d31c7251d6b00675bd7875"), looks := false }, kinds := [], alts := [], laidByText := true, laidKinds := [.data, .pinned], laidTests := true, laidLooks := .later }
def DiskKeepsUptoCardSaid : Prop := Claim7.holds Tryd.pinned (.plain (OpenSpec.upto diskKeepsSpec)) diskKeepsUptoCard

/-- THE SECOND FORM's CARD OF 'clockworklaw05.DiskDurable'. -/
def diskDurableUptoCard : Claim7 := { stood := { row := diskDurableUptoRow, standIns := [], harness := (true, "96a6253a618bfff93638b0e70676ab6799bba9dbf7d31c7251d6b00675bd7875"), looks := false }, kinds := [], alts := [], laidByText := true, laidKinds := [.data, .pinned], laidTests := true, laidLooks := .later }
def DiskDurableUptoCardSaid : Prop := Claim7.holds Tryd.pinned (.plain (OpenSpec.upto diskDurableSpec)) diskDurableUptoCard
end Rows
end Go.Proofs.YtjhhmljebflanaaDoor
