/- The closed facts of the row ScanNil, each a lemma of its own. -/
import Derived.Test.YtgdmdbdljmlkkaaGreatDoorWideFacts
import Derived.JoinedOf
namespace Go.Proofs.YtgdmdbdljmlkkaaGreatDoor
open Go.ChangeShapes Go.WideShapes
set_option maxRecDepth 100000

theorem andTwoScanNil {a b : Bool} (ha : a = true) (hb : b = true) : (a && b) = true := by rw [ha, hb]; rfl

theorem namedScanNil : Tryz.prog.funcNamed Rows.scanNilRow.func = some 6 := by kernel_rfl

set_option maxHeartbeats 0 in
theorem joinedScanNil : joinedFacts Tryz.prog 6 Tryz.f6 Rows.scanNilSpec Rows.scanNilRow = true := by
  unfold joinedFacts
  rw [wfLaid, wfMaps, wfStops, wfKnobs, wfHeard, wfEnter, wfLifts, wfMake, wfKeys]
  repeat' (with_reducible apply andTwoScanNil)
  all_goals (as_aux_lemma => kernel_rfl)

theorem instScanNil : Tryz.f6.isInstance Tryz.prog Rows.scanNilRow.origin Rows.scanNilRow.targs :=
  of_decide_eq_true (by kernel_rfl)

theorem readableScanNil : ∀ t ∈ Tryz.f6.params.toList, Tryz.prog.readableRec t = true ∧ t < Tryz.prog.types.size := by
  rw [Tryz.params6]
  intro t ht
  have hall : ([30].all fun u => Tryz.prog.readableRec u && decide (u < Tryz.prog.types.size)) = true := by kernel_rfl
  have h := List.all_eq_true.1 hall t (by simpa using ht)
  simpa using h

theorem standScanNil (j : Nat) (t : TypeId) (ht : Tryz.f6.params[j]? = some t) : Tryz.prog.wantsStandIn t = false := by
  rw [Tryz.params6] at ht
  have hm : t ∈ [30] := by simpa using Array.mem_of_getElem? ht
  have hall : ([30].all fun u => !Tryz.prog.wantsStandIn u) = true := by kernel_rfl
  simpa using List.all_eq_true.1 hall t hm

theorem goesScanNil : false = Rows.scanNilRow.goesBy Tryz.prog := by kernel_rfl

theorem byTextScanNil : Rows.scanNilRow.wfByText (OpenSpec.ofChange Rows.scanNilSpec) = true := by kernel_rfl

end Go.Proofs.YtgdmdbdljmlkkaaGreatDoor
