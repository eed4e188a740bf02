/- The closed facts of the row WalRotates, each a lemma of its own. -/
import Derived.Test.YtnmlbjgnemmigaaGreatDoorWideFacts
import Derived.JoinedOf
namespace Go.Proofs.YtnmlbjgnemmigaaGreatDoor
open Go.ChangeShapes Go.WideShapes
set_option maxRecDepth 100000

theorem andTwoWalRotates {a b : Bool} (ha : a = true) (hb : b = true) : (a && b) = true := by rw [ha, hb]; rfl

theorem namedWalRotates : Tryz.prog.funcNamed Rows.walRotatesRow.func = some 4 := by kernel_rfl

set_option maxHeartbeats 0 in
theorem joinedWalRotates : joinedFacts Tryz.prog 4 Tryz.f4 Rows.walRotatesSpec Rows.walRotatesRow = true := by
  unfold joinedFacts
  rw [wfLaid, wfMaps, wfStops, wfKnobs, wfHeard, wfEnter, wfLifts, wfMake, wfKeys]
  repeat' (with_reducible apply andTwoWalRotates)
  all_goals (as_aux_lemma => kernel_rfl)

theorem instWalRotates : Tryz.f4.isInstance Tryz.prog Rows.walRotatesRow.origin Rows.walRotatesRow.targs :=
  of_decide_eq_true (by kernel_rfl)

theorem readableWalRotates : ∀ t ∈ Tryz.f4.params.toList, Tryz.prog.readableRec t = true ∧ t < Tryz.prog.types.size := by
  rw [Tryz.params4]
  intro t ht
  have hall : ([5, 23].all fun u => Tryz.prog.readableRec u && decide (u < Tryz.prog.types.size)) = true := by kernel_rfl
  have h := List.all_eq_true.1 hall t (by simpa using ht)
  simpa using h

theorem standWalRotates (j : Nat) (t : TypeId) (ht : Tryz.f4.params[j]? = some t) : Tryz.prog.wantsStandIn t = false := by
  rw [Tryz.params4] at ht
  have hm : t ∈ [5, 23] := by simpa using Array.mem_of_getElem? ht
  have hall : ([5, 23].all fun u => !Tryz.prog.wantsStandIn u) = true := by kernel_rfl
  simpa using List.all_eq_true.1 hall t hm

theorem goesWalRotates : false = Rows.walRotatesRow.goesBy Tryz.prog := by kernel_rfl

theorem byTextWalRotates : Rows.walRotatesRow.wfByText (OpenSpec.ofChange Rows.walRotatesSpec) = true := by kernel_rfl

end Go.Proofs.YtnmlbjgnemmigaaGreatDoor
