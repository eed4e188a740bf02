/- The given statements on the names of segments hold: what the three proofs share. -/
import Derived.Test.YtnpkjkbcmidbmaaDoorRows
import Derived.Test.YtnpkjkbcmidbmaaDoorCards
import Derived.Test.YtnpkjkbcmidbmaaDoorTie
import Derived.Test.YtnpkjkbcmidbmaaDoorSegLaws
import Derived.ProofKit
import Derived.LaidMore
import Derived.OpenShut
import Derived.ShutString
import Derived.Stop.Joined
import Derived.SevenTiedAt
namespace Go.Proofs.YtnpkjkbcmidbmaaDoor
open Go.ChangeShapes Go.WideShapes Go.ChangeAt Go.RowKit
open Go.ChangeMaps (open_string shut_string)
set_option linter.unusedVariables false

theorem own : ownKnob Tryd.prog.godebug = none := by kernel_rfl
theorem laidOut : laidOutB Tryd.prog = true := by kernel_rfl
theorem gPow : Tryd.prog.globalNamed powName = some 0 := by kernel_rfl
theorem gPowType : (Tryd.prog.globals[0]?).map (·.type) = some 93 := by kernel_rfl
theorem cellsU64 : Tryd.prog.cellsOf 65 = 1 := by kernel_rfl
theorem cellsPow : Tryd.prog.cellsOf 93 = 20 := by kernel_rfl
abbrev laid3 : List (String × DataW Unit) := Rows.segmentOrdersRow.laid

theorem door_met (os : Os) (args : Array Value) : laidMetH Tryd.prog laid3 ((World.doorLaid Tryd.prog 400 os).forCall (fun _ _ => 0) ⟨#[], args, []⟩).memory :=
  laidMetH_of_parts3 (fuel := 8) (laidMet_of_run' 8 (by kernel_rfl) (by kernel_rfl)) (by kernel_rfl) (by kernel_rfl)

theorem tab_of_laid {W : World} (h : laidMetH Tryd.prog laid3 W) : Tab W := by
  rw [MakeChecks.laidMetH_plain _ _ _ (by kernel_rfl)] at h
  have h3 := laidMet.filter (fun x => x.1 == powName) h
  exact Lib.tabIs_of_head gPow gPowType Tryd.underlying93 Tryd.underlying65 cellsU64 cellsPow (rest := []) (by exact h3)
end Go.Proofs.YtnpkjkbcmidbmaaDoor
