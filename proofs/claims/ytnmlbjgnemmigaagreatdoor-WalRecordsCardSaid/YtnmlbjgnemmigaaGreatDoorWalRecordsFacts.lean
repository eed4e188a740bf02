/- The closed facts of the row WalRecords, each a lemma of its own. -/
import Derived.Test.YtnmlbjgnemmigaaGreatDoorWideFacts
import Derived.JoinedOf
namespace Go.Proofs.YtnmlbjgnemmigaaGreatDoor
open Go.ChangeShapes Go.WideShapes
set_option maxRecDepth 100000

theorem andTwoWalRecords {a b : Bool} (ha : a = true) (hb : b = true) : (a && b) = true := by rw [ha, hb]; rfl

theorem namedWalRecords : Tryz.prog.funcNamed Rows.walRecordsRow.func = some 3 := by kernel_rfl

set_option maxHeartbeats 0 in
theorem joinedWalRecords : joinedFacts Tryz.prog 3 Tryz.f3 Rows.walRecordsSpec Rows.walRecordsRow = true := by
  unfold joinedFacts
  rw [wfLaid, wfMaps, wfStops, wfKnobs, wfHeard, wfEnter, wfLifts, wfMake, wfKeys]
  repeat' (with_reducible apply andTwoWalRecords)
  all_goals (as_aux_lemma => kernel_rfl)

theorem instWalRecords : Tryz.f3.isInstance Tryz.prog Rows.walRecordsRow.origin Rows.walRecordsRow.targs :=
  of_decide_eq_true (by kernel_rfl)

theorem readableWalRecords : ∀ t ∈ Tryz.f3.params.toList, Tryz.prog.readableRec t = true ∧ t < Tryz.prog.types.size := by
  rw [Tryz.params3]
  intro t ht
  have hall : ([22, 23].all fun u => Tryz.prog.readableRec u && decide (u < Tryz.prog.types.size)) = true := by kernel_rfl
  have h := List.all_eq_true.1 hall t (by simpa using ht)
  simpa using h

theorem standWalRecords (j : Nat) (t : TypeId) (ht : Tryz.f3.params[j]? = some t) : Tryz.prog.wantsStandIn t = false := by
  rw [Tryz.params3] at ht
  have hm : t ∈ [22, 23] := by simpa using Array.mem_of_getElem? ht
  have hall : ([22, 23].all fun u => !Tryz.prog.wantsStandIn u) = true := by kernel_rfl
  simpa using List.all_eq_true.1 hall t hm

theorem goesWalRecords : false = Rows.walRecordsRow.goesBy Tryz.prog := by kernel_rfl

theorem byTextWalRecords : Rows.walRecordsRow.wfByText (OpenSpec.ofChange Rows.walRecordsSpec) = true := by kernel_rfl

end Go.Proofs.YtnmlbjgnemmigaaGreatDoor
