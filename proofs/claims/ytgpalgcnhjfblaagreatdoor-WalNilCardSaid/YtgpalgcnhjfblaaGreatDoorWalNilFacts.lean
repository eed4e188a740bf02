/- The closed facts of the row WalNil, each a lemma of its own. -/
import Derived.Test.YtgpalgcnhjfblaaGreatDoorWideFacts
import Derived.JoinedOf
namespace Go.Proofs.YtgpalgcnhjfblaaGreatDoor
open Go.ChangeShapes Go.WideShapes
set_option maxRecDepth 100000

theorem andTwoWalNil {a b : Bool} (ha : a = true) (hb : b = true) : (a && b) = true := by rw [ha, hb]; rfl

theorem namedWalNil : Tryz.prog.funcNamed Rows.walNilRow.func = some 3 := by kernel_rfl

set_option maxHeartbeats 0 in
theorem joinedWalNil : joinedFacts Tryz.prog 3 Tryz.f3 Rows.walNilSpec Rows.walNilRow = true := by
  unfold joinedFacts
  rw [wfLaid, wfMaps, wfStops, wfKnobs, wfHeard, wfEnter, wfLifts, wfMake, wfKeys]
  repeat' (with_reducible apply andTwoWalNil)
  all_goals (as_aux_lemma => kernel_rfl)

theorem instWalNil : Tryz.f3.isInstance Tryz.prog Rows.walNilRow.origin Rows.walNilRow.targs :=
  of_decide_eq_true (by kernel_rfl)

theorem readableWalNil : ∀ t ∈ Tryz.f3.params.toList, Tryz.prog.readableRec t = true ∧ t < Tryz.prog.types.size := by
  rw [Tryz.params3]
  intro t ht
  have hall : ([5, 22].all fun u => Tryz.prog.readableRec u && decide (u < Tryz.prog.types.size)) = true := by kernel_rfl
  have h := List.all_eq_true.1 hall t (by simpa using ht)
  simpa using h

theorem standWalNil (j : Nat) (t : TypeId) (ht : Tryz.f3.params[j]? = some t) : Tryz.prog.wantsStandIn t = false := by
  rw [Tryz.params3] at ht
  have hm : t ∈ [5, 22] := by simpa using Array.mem_of_getElem? ht
  have hall : ([5, 22].all fun u => !Tryz.prog.wantsStandIn u) = true := by kernel_rfl
  simpa using List.all_eq_true.1 hall t hm

theorem goesWalNil : false = Rows.walNilRow.goesBy Tryz.prog := by kernel_rfl

theorem byTextWalNil : Rows.walNilRow.wfByText (OpenSpec.ofChange Rows.walNilSpec) = true := by kernel_rfl

end Go.Proofs.YtgpalgcnhjfblaaGreatDoor
