/- The closed facts of the row WalMatches, each a lemma of its own. -/
import Derived.Test.YtgdmdbdljmlkkaaGreatDoorWideFacts
import Derived.JoinedOf
namespace Go.Proofs.YtgdmdbdljmlkkaaGreatDoor
open Go.ChangeShapes Go.WideShapes
set_option maxRecDepth 100000

theorem andTwoWalMatches {a b : Bool} (ha : a = true) (hb : b = true) : (a && b) = true := by rw [ha, hb]; rfl

theorem namedWalMatches : Tryz.prog.funcNamed Rows.walMatchesRow.func = some 3 := by kernel_rfl

set_option maxHeartbeats 0 in
theorem joinedWalMatches : joinedFacts Tryz.prog 3 Tryz.f3 Rows.walMatchesSpec Rows.walMatchesRow = true := by
  unfold joinedFacts
  rw [wfLaid, wfMaps, wfStops, wfKnobs, wfHeard, wfEnter, wfLifts, wfMake, wfKeys]
  repeat' (with_reducible apply andTwoWalMatches)
  all_goals (as_aux_lemma => kernel_rfl)

theorem instWalMatches : Tryz.f3.isInstance Tryz.prog Rows.walMatchesRow.origin Rows.walMatchesRow.targs :=
  of_decide_eq_true (by kernel_rfl)

theorem readableWalMatches : ∀ t ∈ Tryz.f3.params.toList, Tryz.prog.readableRec t = true ∧ t < Tryz.prog.types.size := by
  rw [Tryz.params3]
  intro t ht
  have hall : ([22, 22, 23].all fun u => Tryz.prog.readableRec u && decide (u < Tryz.prog.types.size)) = true := by kernel_rfl
  have h := List.all_eq_true.1 hall t (by simpa using ht)
  simpa using h

theorem standWalMatches (j : Nat) (t : TypeId) (ht : Tryz.f3.params[j]? = some t) : Tryz.prog.wantsStandIn t = false := by
  rw [Tryz.params3] at ht
  have hm : t ∈ [22, 22, 23] := by simpa using Array.mem_of_getElem? ht
  have hall : ([22, 22, 23].all fun u => !Tryz.prog.wantsStandIn u) = true := by kernel_rfl
  simpa using List.all_eq_true.1 hall t hm

theorem goesWalMatches : false = Rows.walMatchesRow.goesBy Tryz.prog := by kernel_rfl

theorem byTextWalMatches : Rows.walMatchesRow.wfByText (OpenSpec.ofChange Rows.walMatchesSpec) = true := by kernel_rfl

end Go.Proofs.YtgdmdbdljmlkkaaGreatDoor
