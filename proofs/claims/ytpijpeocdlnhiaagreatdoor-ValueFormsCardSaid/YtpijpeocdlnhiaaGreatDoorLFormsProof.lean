/- The closed facts of the row ValueForms, each a lemma of its own; the given statement ValueForms holds: for every input the law returns true, the tables tied to the program's text. -/
import Derived.Test.YtpijpeocdlnhiaaGreatDoorLForms
import Derived.Test.YtpijpeocdlnhiaaGreatDoorLLift
import Derived.Test.YtpijpeocdlnhiaaGreatDoorWideFacts
import Derived.JoinedOf
namespace Go.Proofs.YtpijpeocdlnhiaaGreatDoor
open Go.ChangeShapes Go.WideShapes
set_option maxRecDepth 100000

theorem andTwoValueForms {a b : Bool} (ha : a = true) (hb : b = true) : (a && b) = true := by rw [ha, hb]; rfl

theorem namedValueForms : Tryz.prog.funcNamed Rows.valueFormsRow.func = some 5 := by kernel_rfl

set_option maxHeartbeats 0 in
theorem joinedValueForms : joinedFacts Tryz.prog 5 Tryz.f5 Rows.valueFormsSpec Rows.valueFormsRow = true := by
  unfold joinedFacts
  rw [wfLaid, wfMaps, wfStops, wfKnobs, wfHeard, wfEnter, wfLifts, wfMake, wfKeys]
  repeat' (with_reducible apply andTwoValueForms)
  all_goals (as_aux_lemma => kernel_rfl)

theorem instValueForms : Tryz.f5.isInstance Tryz.prog Rows.valueFormsRow.origin Rows.valueFormsRow.targs :=
  of_decide_eq_true (by kernel_rfl)

theorem readableValueForms : ∀ t ∈ Tryz.f5.params.toList, Tryz.prog.readableRec t = true ∧ t < Tryz.prog.types.size := by
  rw [Tryz.params5]
  intro t ht
  have hall : ([26].all fun u => Tryz.prog.readableRec u && decide (u < Tryz.prog.types.size)) = true := by kernel_rfl
  have h := List.all_eq_true.1 hall t (by simpa using ht)
  simpa using h

theorem standValueForms (j : Nat) (t : TypeId) (ht : Tryz.f5.params[j]? = some t) : Tryz.prog.wantsStandIn t = false := by
  rw [Tryz.params5] at ht
  have hm : t ∈ [26] := by simpa using Array.mem_of_getElem? ht
  have hall : ([26].all fun u => !Tryz.prog.wantsStandIn u) = true := by kernel_rfl
  simpa using List.all_eq_true.1 hall t hm

theorem goesValueForms : false = Rows.valueFormsRow.goesBy Tryz.prog := by kernel_rfl

theorem byTextValueForms : Rows.valueFormsRow.wfByText (OpenSpec.ofChange Rows.valueFormsSpec) = true := by kernel_rfl

end Go.Proofs.YtpijpeocdlnhiaaGreatDoor
namespace Go.Proofs.YtpijpeocdlnhiaaGreatDoor
set_option linter.unusedVariables false
set_option linter.unusedSimpArgs false
open Go.ChangeShapes Go.WideShapes Go.ChangeAt Go.RowKit

set_option maxRecDepth 100000 in
theorem liftedValueForms (os : Os) (started : os.Started) (H : Type) (enc : TypeId × Value → H) :
    ReturnsInHanded {} Tryz.checked os 5 .any (fun w args => (Rows.valueFormsSpec.pre enc Tryz.prog Tryz.f5 [] false w args ∧ laidMetH Tryz.prog laidD w) ∧ sizedMet enc Tryz.prog Tryz.f5 (OpenSpec.ofChange Rows.valueFormsSpec) false w args)
      (Rows.valueFormsSpec.post enc Tryz.prog Tryz.f5 false true false false) := by
  refine returnsInHanded_of_change_and (C := Tryz.checked) (X := fun w _ => laidMetH Tryz.prog laidD w) (fun _ _ _ hh h => h.of_heap hh) own started (by kernel_rfl) Tryz.func5
    (ChangeSpec.witness_shaped (enc := enc) (C := Tryz.checked) (os := os) (X := fun w _ => laidMetH Tryz.prog laidD w) false (World.laidAll Tryz.prog os laidD) #[.agg #[.int .i64 0, .int .i64 0, .float .f64 0, .string ByteArray.empty, .slice none 0 0]] 8 (World.laidAll_os _ _ _)
      (World.shaped_of_ZipB (by kernel_rfl) (by kernel_rfl)) (by kernel_rfl) (by kernel_rfl) (by kernel_rfl) (laid_met os _)) ?_
  intro W base args ds gs before hval0 hW _ hwt hL _
  have hval : ∀ (j : Nat) t v, Tryz.f5.params[j]? = some t → args[j]? = some v → Value.okWide Tryz.prog W .any base t v := hval0
  have hW' := hW
  obtain ⟨p, q, hA0, hV, -, hfz, hnd⟩ := hW'
  have hA : DataW.TrodAll enc Tryz.prog W 0 (fun _ => true) true Tryz.f5.params.toList args.toList ds p := hA0
  rw [Tryz.params5] at hA hval
  obtain ⟨v0, d0, rfl, rfl, h0⟩ := trodAll_one hA
  obtain ⟨rfl, rfl⟩ := trodVars_none hV
  obtain ⟨t, u, rfl, ht, hwft⟩ := open_val (hval 0 26 v0 rfl rfl) h0
  clear hA0 hval0
  refine (valueForms_any t u W ht hwft (base_of_laid hL) (tabs_of_laid hL)).mono fun e W' ⟨he, bel⟩ => ?_
  subst he
  exact ⟨_, rfl, law_post rfl rfl rfl readableValueForms rfl hW bel⟩

theorem rowValueForms : Rows.ValueFormsSaid :=
  OpenClaim.holds_of_wide 5 Tryz.f5 rfl rfl rfl rfl rfl rfl rfl ⟨rfl, rfl, rfl, rfl, rfl⟩ rfl rfl rfl rfl rfl namedValueForms Tryz.func5 joinedValueForms instValueForms
    (by unfold Func.isWrapper; rw [if_neg (by decide +kernel)]; exact ⟨rfl, rfl⟩)
    (fun os started H enc _ => liftedValueForms os started H enc)

theorem valueForms_holds : Rows.ValueFormsCardSaid :=
  Claim7.holds_tied_plain_at .later [] [.data, .data, .data, .data, .sentinel, .sentinel, .pinned] true _ true
    rowValueForms (fun _ h => by cases h) byTextValueForms (fun _ h => by cases h) valueForms_row_tie rfl ⟨rfl, rfl⟩ wfMain rfl
    (fun f fn hf hfn => by
      obtain rfl : f = 5 := Option.some.inj (namedValueForms.symm.trans hf) |>.symm
      obtain rfl : fn = Tryz.f5 := (Option.some.inj (Tryz.func5.symm.trans hfn)).symm
      exact ⟨wfLooks.symm, standValueForms⟩)
    goesValueForms
#print axioms valueForms_holds
end Go.Proofs.YtpijpeocdlnhiaaGreatDoor
