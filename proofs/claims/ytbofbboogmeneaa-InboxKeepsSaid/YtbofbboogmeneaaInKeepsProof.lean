/- The given statement InboxKeeps holds: for every input the law returns true, and the input reads as it did. -/
import Derived.Test.YtbofbboogmeneaaInKeeps
import Derived.Test.YtbofbboogmeneaaLift
import Derived.Test.YtbofbboogmeneaaOpenVal
namespace Go.Proofs.Ytbofbboogmeneaa
set_option linter.unusedVariables false
set_option linter.unusedSimpArgs false
open Go.ChangeShapes Go.WideShapes Go.ChangeAt Go.RowKit
open Go.ChangeMaps (open_string shut_string)

set_option maxRecDepth 100000 in
theorem readableInboxKeeps : ∀ t ∈ Try.f8.params.toList, Try.prog.readableRec t = true ∧ t < Try.prog.types.size := by
  rw [Try.params8]
  intro t ht
  have hall : ([31, 9].all fun u => Try.prog.readableRec u && decide (u < Try.prog.types.size)) = true := by kernel_rfl
  have h := List.all_eq_true.1 hall t (by simpa using ht)
  simpa using h

set_option maxRecDepth 100000 in
theorem liftedInboxKeeps (os : Os) (started : os.Started) (H : Type) (enc : TypeId × Value → H) :
    ReturnsInHanded {} Try.checked os 8 .any (Rows.inboxKeepsSpec.pre6 enc Try.prog Try.f8 Rows.inboxKeepsRow.domain false) (Rows.inboxKeepsSpec.post enc Try.prog Try.f8 false true false false) := by
  refine returnsInHanded_of_change (C := Try.checked) own started (by kernel_rfl) Try.func8
    (ChangeSpec.witness6 (enc := enc) (C := Try.checked) false ⟨#[], #[.agg #[.int .i64 0, .int .i64 0, .float .f64 0, .string ⟨#[]⟩, .slice none 0 0], .string ⟨#[]⟩], []⟩ 8 (by kernel_rfl) (by kernel_rfl) (by kernel_rfl) (by kernel_rfl)) ?_
  intro W base args ds gs before hval0 hW _ _
  have hval : ∀ (j : Nat) t v, Try.f8.params[j]? = some t → args[j]? = some v → Value.okWide Try.prog W .any base t v := hval0
  have hW' := hW
  obtain ⟨p, q, hA0, hV, -, hfz, hnd⟩ := hW
  have hA : DataW.TrodAll enc Try.prog W 0 (fun _ => true) true Try.f8.params.toList args.toList ds p := hA0
  rw [Try.params8] at hA hval
  obtain ⟨v0, v1, d0, d1, p0, p1, rfl, rfl, rfl, h0, h1⟩ := trodAll_two hA
  obtain ⟨rfl, rfl⟩ := trodVars_none hV
  have hv0 : Value.okWide Try.prog W .any base 31 v0 := hval 0 31 v0 rfl rfl
  have hv1 : Value.okWide Try.prog W .any base 9 v1 := hval 1 9 v1 rfl rfl
  obtain ⟨t, u, rfl, ht, hwf⟩ := open_val hv0 h0
  obtain ⟨s, rfl, -, -, hs⟩ := open_string Try.underlying9 hv1 h1
  clear hA0 hval0
  refine (keeps_any t u s W ht).mono fun e W' ⟨he, bel⟩ => ?_
  subst he
  exact ⟨_, rfl, law_post rfl rfl rfl readableInboxKeeps rfl hW' bel⟩

theorem inboxKeeps_holds : Rows.InboxKeepsSaid :=
  OpenClaim.holds_of_wide 8 Try.f8 rfl rfl rfl rfl rfl rfl rfl ⟨rfl, rfl, rfl, rfl, rfl⟩ rfl rfl rfl rfl rfl (by kernel_rfl) Try.func8 (by kernel_rfl)
    (of_decide_eq_true (by kernel_rfl)) (by unfold Func.isWrapper; first | (rw [if_pos (by decide +kernel)]; kernel_rfl) | (rw [if_neg (by decide +kernel)]; exact ⟨rfl, rfl⟩))
    (fun os started H enc _ => liftedInboxKeeps os started H enc)
#print axioms inboxKeeps_holds
end Go.Proofs.Ytbofbboogmeneaa
