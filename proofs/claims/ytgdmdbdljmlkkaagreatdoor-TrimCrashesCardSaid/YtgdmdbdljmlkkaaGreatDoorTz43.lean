/- WideFacts -/
import Derived.Test.YtgdmdbdljmlkkaaGreatDoorRows
import Derived.Test.YtgdmdbdljmlkkaaGreatDoorCards
set_option linter.unusedVariables false
set_option linter.unusedSimpArgs false
namespace Go.Proofs.YtgdmdbdljmlkkaaGreatDoor
open Go.ChangeShapes Go.WideShapes
set_option maxRecDepth 100000
theorem wfLaid : laidOutB Tryz.prog = true := by kernel_rfl
theorem wfMaps : mapsRowed Tryz.prog = true := by kernel_rfl
theorem wfStops : (Tryz.prog.stops == []) = true := by kernel_rfl
theorem wfKnobs : (Tryz.prog.stopKnobs == []) = true := by kernel_rfl
theorem wfHeard : Tryz.prog.stopsHeard = true := by kernel_rfl
theorem wfEnter : Tryz.prog.mayEnter = true := by kernel_rfl
theorem wfLifts : Tryz.prog.liftsFinal = Rows.walMatchesRow.lifted := by kernel_rfl
theorem wfMake : Tryz.prog.make = some Rows.walMatchesRow.make := by kernel_rfl
theorem wfKeys : Tryz.prog.plainKeys = Rows.walMatchesRow.plainKeys := by kernel_rfl
theorem wfLooks : Tryz.prog.looks [] = false := by kernel_rfl
theorem wfMain : Tryz.prog.mainIs = some (Rows.walMatchesCard.stood.harness.1, Rows.walMatchesCard.stood.harness.2.toList) := by kernel_rfl
end Go.Proofs.YtgdmdbdljmlkkaaGreatDoor
