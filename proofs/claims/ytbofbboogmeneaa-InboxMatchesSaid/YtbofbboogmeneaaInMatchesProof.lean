/- The given statement InboxMatches holds: for every input the law returns true, and the input reads as it did. -/
import Derived.Test.YtbofbboogmeneaaInMatches
import Derived.Test.YtbofbboogmeneaaLift
namespace Go.Proofs.Ytbofbboogmeneaa
set_option linter.unusedVariables false
set_option linter.unusedSimpArgs false
open Go.ChangeShapes Go.WideShapes Go.ChangeAt Go.RowKit
open Go.ChangeMaps (open_string shut_string)

set_option maxRecDepth 100000 in
theorem readableInboxMatches : ∀ t ∈ Try.f6.params.toList, Try.prog.readableRec t = true ∧ t < Try.prog.types.size := by
  rw [Try.params6]
  intro t ht
  have hall : ([48].all fun u => Try.prog.readableRec u && decide (u < Try.prog.types.size)) = true := by kernel_rfl
  have h := List.all_eq_true.1 hall t (by simpa using ht)
  simpa using h

set_option maxRecDepth 100000 in
theorem liftedInboxMatches (os : Os) (started : os.Started) (H : Type) (enc : TypeId × Value → H) :
    ReturnsInHanded {} Try.checked os 6 .any (Rows.inboxMatchesSpec.pre6 enc Try.prog Try.f6 Rows.inboxMatchesRow.domain false) (Rows.inboxMatchesSpec.post enc Try.prog Try.f6 false true false false) := by
  refine returnsInHanded_of_change (C := Try.checked) own started (by kernel_rfl) Try.func6
    (ChangeSpec.witness6 (enc := enc) (C := Try.checked) false ⟨#[], #[.slice none 0 0], []⟩ 8 (by kernel_rfl) (by kernel_rfl) (by kernel_rfl) (by kernel_rfl)) ?_
  intro W base args ds gs before hval0 hW _ _
  have hval : ∀ (j : Nat) t v, Try.f6.params[j]? = some t → args[j]? = some v → Value.okWide Try.prog W .any base t v := hval0
  have hW' := hW
  obtain ⟨p, q, hA0, hV, -, hfz, hnd⟩ := hW
  have hA : DataW.TrodAll enc Try.prog W 0 (fun _ => true) true Try.f6.params.toList args.toList ds p := hA0
  rw [Try.params6] at hA hval
  obtain ⟨v0, d0, rfl, rfl, h0⟩ := trodAll_one hA
  obtain ⟨rfl, rfl⟩ := trodVars_none hV
  have hv0 : Value.okWide Try.prog W .any base 48 v0 := hval 0 48 v0 rfl rfl
  obtain ⟨l, hl⟩ := open_ops hv0 h0
  clear hA0 hval0
  refine (matches_any v0 l W hl).mono fun e W' ⟨he, bel⟩ => ?_
  subst he
  exact ⟨_, rfl, law_post rfl rfl rfl readableInboxMatches rfl hW' bel⟩

theorem inboxMatches_holds : Rows.InboxMatchesSaid :=
  OpenClaim.holds_of_wide 6 Try.f6 rfl rfl rfl rfl rfl rfl rfl ⟨rfl, rfl, rfl, rfl, rfl⟩ rfl rfl rfl rfl rfl (by kernel_rfl) Try.func6 (by kernel_rfl)
    (of_decide_eq_true (by kernel_rfl)) (by unfold Func.isWrapper; first | (rw [if_pos (by decide +kernel)]; kernel_rfl) | (rw [if_neg (by decide +kernel)]; exact ⟨rfl, rfl⟩))
    (fun os started H enc _ => liftedInboxMatches os started H enc)
#print axioms inboxMatches_holds
end Go.Proofs.Ytbofbboogmeneaa
