/- Texts for programTexts_holds, joined: WideFacts. -/
import Derived.Test.YtpijpeocdlnhiaaGreatDoorRows
import Derived.Test.YtpijpeocdlnhiaaGreatDoorCards
set_option linter.unusedVariables false
set_option linter.unusedSimpArgs false
namespace Go.Proofs.YtpijpeocdlnhiaaGreatDoor
open Go.ChangeShapes Go.WideShapes
set_option maxRecDepth 100000
theorem wfLaid : laidOutB Tryz.prog = true := by kernel_rfl
theorem wfMaps : mapsRowed Tryz.prog = true := by kernel_rfl
theorem wfStops : (Tryz.prog.stops == []) = true := by kernel_rfl
theorem wfKnobs : (Tryz.prog.stopKnobs == []) = true := by kernel_rfl
theorem wfHeard : Tryz.prog.stopsHeard = true := by kernel_rfl
theorem wfEnter : Tryz.prog.mayEnter = true := by kernel_rfl
theorem wfLifts : Tryz.prog.liftsFinal = Rows.valueParsesRow.lifted := by kernel_rfl
theorem wfMake : Tryz.prog.make = some Rows.valueParsesRow.make := by kernel_rfl
theorem wfKeys : Tryz.prog.plainKeys = Rows.valueParsesRow.plainKeys := by kernel_rfl
theorem wfLooks : Tryz.prog.looks [] = true := by kernel_rfl
theorem wfMain : Tryz.prog.mainIs = some (Rows.valueParsesCard.stood.harness.1, Rows.valueParsesCard.stood.harness.2.toList) := by kernel_rfl
end Go.Proofs.YtpijpeocdlnhiaaGreatDoor
