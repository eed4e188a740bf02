/- The closed facts of the row WalDurable, each a lemma of its own. -/
import Derived.Test.YtnmlbjgnemmigaaGreatDoorWideFacts
import Derived.JoinedOf
namespace Go.Proofs.YtnmlbjgnemmigaaGreatDoor
open Go.ChangeShapes Go.WideShapes
set_option maxRecDepth 100000

theorem andTwoWalDurable {a b : Bool} (ha : a = true) (hb : b = true) : (a && b) = true := by rw [ha, hb]; rfl

theorem namedWalDurable : Tryz.prog.funcNamed Rows.walDurableRow.func = some 5 := by kernel_rfl

set_option maxHeartbeats 0 in
theorem joinedWalDurable : joinedFacts Tryz.prog 5 Tryz.f5 Rows.walDurableSpec Rows.walDurableRow = true := by
  unfold joinedFacts
  rw [wfLaid, wfMaps, wfStops, wfKnobs, wfHeard, wfEnter, wfLifts, wfMake, wfKeys]
  repeat' (with_reducible apply andTwoWalDurable)
  all_goals (as_aux_lemma => kernel_rfl)

theorem instWalDurable : Tryz.f5.isInstance Tryz.prog Rows.walDurableRow.origin Rows.walDurableRow.targs :=
  of_decide_eq_true (by kernel_rfl)

theorem readableWalDurable : ∀ t ∈ Tryz.f5.params.toList, Tryz.prog.readableRec t = true ∧ t < Tryz.prog.types.size := by
  rw [Tryz.params5]
  intro t ht
  have hall : ([22, 57, 3].all fun u => Tryz.prog.readableRec u && decide (u < Tryz.prog.types.size)) = true := by kernel_rfl
  have h := List.all_eq_true.1 hall t (by simpa using ht)
  simpa using h

theorem standWalDurable (j : Nat) (t : TypeId) (ht : Tryz.f5.params[j]? = some t) : Tryz.prog.wantsStandIn t = false := by
  rw [Tryz.params5] at ht
  have hm : t ∈ [22, 57, 3] := by simpa using Array.mem_of_getElem? ht
  have hall : ([22, 57, 3].all fun u => !Tryz.prog.wantsStandIn u) = true := by kernel_rfl
  simpa using List.all_eq_true.1 hall t hm

theorem goesWalDurable : false = Rows.walDurableRow.goesBy Tryz.prog := by kernel_rfl

theorem byTextWalDurable : Rows.walDurableRow.wfByText (OpenSpec.ofChange Rows.walDurableSpec) = true := by kernel_rfl

end Go.Proofs.YtnmlbjgnemmigaaGreatDoor
