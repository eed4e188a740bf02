/- The closed facts of the row ValueParses, each a lemma of its own; the given statement ValueParses holds: for every input the law returns true, the tables tied to the program's text. -/
import Derived.Test.YtpijpeocdlnhiaaGreatDoorLParses
import Derived.Test.YtpijpeocdlnhiaaGreatDoorLLift
import Derived.Test.YtpijpeocdlnhiaaGreatDoorWideFacts
import Derived.JoinedOf
namespace Go.Proofs.YtpijpeocdlnhiaaGreatDoor
open Go.ChangeShapes Go.WideShapes
set_option maxRecDepth 100000

theorem andTwoValueParses {a b : Bool} (ha : a = true) (hb : b = true) : (a && b) = true := by rw [ha, hb]; rfl

theorem namedValueParses : Tryz.prog.funcNamed Rows.valueParsesRow.func = some 3 := by kernel_rfl

set_option maxHeartbeats 0 in
theorem joinedValueParses : joinedFacts Tryz.prog 3 Tryz.f3 Rows.valueParsesSpec Rows.valueParsesRow = true := by
  unfold joinedFacts
  rw [wfLaid, wfMaps, wfStops, wfKnobs, wfHeard, wfEnter, wfLifts, wfMake, wfKeys]
  repeat' (with_reducible apply andTwoValueParses)
  all_goals (as_aux_lemma => kernel_rfl)

theorem instValueParses : Tryz.f3.isInstance Tryz.prog Rows.valueParsesRow.origin Rows.valueParsesRow.targs :=
  of_decide_eq_true (by kernel_rfl)

theorem readableValueParses : ∀ t ∈ Tryz.f3.params.toList, Tryz.prog.readableRec t = true ∧ t < Tryz.prog.types.size := by
  rw [Tryz.params3]
  intro t ht
  have hall : ([9].all fun u => Tryz.prog.readableRec u && decide (u < Tryz.prog.types.size)) = true := by kernel_rfl
  have h := List.all_eq_true.1 hall t (by simpa using ht)
  simpa using h

theorem standValueParses (j : Nat) (t : TypeId) (ht : Tryz.f3.params[j]? = some t) : Tryz.prog.wantsStandIn t = false := by
  rw [Tryz.params3] at ht
  have hm : t ∈ [9] := by simpa using Array.mem_of_getElem? ht
  have hall : ([9].all fun u => !Tryz.prog.wantsStandIn u) = true := by kernel_rfl
  simpa using List.all_eq_true.1 hall t hm

theorem goesValueParses : false = Rows.valueParsesRow.goesBy Tryz.prog := by kernel_rfl

theorem byTextValueParses : Rows.valueParsesRow.wfByText (OpenSpec.ofChange Rows.valueParsesSpec) = true := by kernel_rfl

end Go.Proofs.YtpijpeocdlnhiaaGreatDoor
namespace Go.Proofs.YtpijpeocdlnhiaaGreatDoor
set_option linter.unusedVariables false
set_option linter.unusedSimpArgs false
open Go.ChangeShapes Go.WideShapes Go.ChangeAt Go.RowKit
open Go.ChangeMaps (open_string shut_string)

set_option maxRecDepth 100000 in
theorem liftedValueParses (os : Os) (started : os.Started) (H : Type) (enc : TypeId × Value → H) :
    ReturnsInHanded {} Tryz.checked os 3 .any (fun w args => (Rows.valueParsesSpec.pre enc Tryz.prog Tryz.f3 [] false w args ∧ laidMetH Tryz.prog laidD w) ∧ sizedMet enc Tryz.prog Tryz.f3 (OpenSpec.ofChange Rows.valueParsesSpec) false w args)
      (Rows.valueParsesSpec.post enc Tryz.prog Tryz.f3 false true false false) := by
  refine returnsInHanded_of_change_and (C := Tryz.checked) (X := fun w _ => laidMetH Tryz.prog laidD w) (fun _ _ _ hh h => h.of_heap hh) own started (by kernel_rfl) Tryz.func3
    (ChangeSpec.witness_shaped (enc := enc) (C := Tryz.checked) (os := os) (X := fun w _ => laidMetH Tryz.prog laidD w) false (World.laidAll Tryz.prog os laidD) #[.string ByteArray.empty] 8 (World.laidAll_os _ _ _)
      (World.shaped_of_ZipB (by kernel_rfl) (by kernel_rfl)) (by kernel_rfl) (by kernel_rfl) (by kernel_rfl) (laid_met os _)) ?_
  intro W base args ds gs before hval0 hW _ hwt hL _
  have hval : ∀ (j : Nat) t v, Tryz.f3.params[j]? = some t → args[j]? = some v → Value.okWide Tryz.prog W .any base t v := hval0
  have hW' := hW
  obtain ⟨p, q, hA0, hV, -, hfz, hnd⟩ := hW'
  have hA : DataW.TrodAll enc Tryz.prog W 0 (fun _ => true) true Tryz.f3.params.toList args.toList ds p := hA0
  rw [Tryz.params3] at hA hval
  obtain ⟨v0, d0, rfl, rfl, h0⟩ := trodAll_one hA
  obtain ⟨rfl, rfl⟩ := trodVars_none hV
  obtain ⟨a0, rfl, rfl, rfl, w0⟩ := open_string Tryz.underlying9 (hval 0 9 v0 rfl rfl) h0
  clear hA0 hval0
  refine (valueParses_any a0 W (base_of_laid hL) (tabs_of_laid hL)).mono fun e W' ⟨he, bel⟩ => ?_
  subst he
  exact ⟨_, rfl, law_post rfl rfl rfl readableValueParses rfl hW bel⟩

theorem rowValueParses : Rows.ValueParsesSaid :=
  OpenClaim.holds_of_wide 3 Tryz.f3 rfl rfl rfl rfl rfl rfl rfl ⟨rfl, rfl, rfl, rfl, rfl⟩ rfl rfl rfl rfl rfl namedValueParses Tryz.func3 joinedValueParses instValueParses
    (by unfold Func.isWrapper; rw [if_neg (by decide +kernel)]; exact ⟨rfl, rfl⟩)
    (fun os started H enc _ => liftedValueParses os started H enc)

theorem valueParses_holds : Rows.ValueParsesCardSaid :=
  Claim7.holds_tied_plain_at .later [] [.data, .data, .data, .data, .sentinel, .sentinel, .pinned] true _ true
    rowValueParses (fun _ h => by cases h) byTextValueParses (fun _ h => by cases h) valueParses_row_tie rfl ⟨rfl, rfl⟩ wfMain rfl
    (fun f fn hf hfn => by
      obtain rfl : f = 3 := Option.some.inj (namedValueParses.symm.trans hf) |>.symm
      obtain rfl : fn = Tryz.f3 := (Option.some.inj (Tryz.func3.symm.trans hfn)).symm
      exact ⟨wfLooks.symm, standValueParses⟩)
    goesValueParses
#print axioms valueParses_holds
end Go.Proofs.YtpijpeocdlnhiaaGreatDoor
