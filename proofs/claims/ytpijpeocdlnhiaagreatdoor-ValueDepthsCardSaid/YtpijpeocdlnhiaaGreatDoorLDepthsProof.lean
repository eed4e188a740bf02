/- The closed facts of the row ValueDepths, each a lemma of its own; the given statement ValueDepths holds: for every input the law returns true, the tables tied to the program's text. -/
import Derived.Test.YtpijpeocdlnhiaaGreatDoorLDepths
import Derived.Test.YtpijpeocdlnhiaaGreatDoorLLift
import Derived.Test.YtpijpeocdlnhiaaGreatDoorWideFacts
import Derived.JoinedOf
namespace Go.Proofs.YtpijpeocdlnhiaaGreatDoor
open Go.ChangeShapes Go.WideShapes
set_option maxRecDepth 100000

theorem andTwoValueDepths {a b : Bool} (ha : a = true) (hb : b = true) : (a && b) = true := by rw [ha, hb]; rfl

theorem namedValueDepths : Tryz.prog.funcNamed Rows.valueDepthsRow.func = some 4 := by kernel_rfl

set_option maxHeartbeats 0 in
theorem joinedValueDepths : joinedFacts Tryz.prog 4 Tryz.f4 Rows.valueDepthsSpec Rows.valueDepthsRow = true := by
  unfold joinedFacts
  rw [wfLaid, wfMaps, wfStops, wfKnobs, wfHeard, wfEnter, wfLifts, wfMake, wfKeys]
  repeat' (with_reducible apply andTwoValueDepths)
  all_goals (as_aux_lemma => kernel_rfl)

theorem instValueDepths : Tryz.f4.isInstance Tryz.prog Rows.valueDepthsRow.origin Rows.valueDepthsRow.targs :=
  of_decide_eq_true (by kernel_rfl)

theorem readableValueDepths : ∀ t ∈ Tryz.f4.params.toList, Tryz.prog.readableRec t = true ∧ t < Tryz.prog.types.size := by
  rw [Tryz.params4]
  intro t ht
  have hall : ([5, 26].all fun u => Tryz.prog.readableRec u && decide (u < Tryz.prog.types.size)) = true := by kernel_rfl
  have h := List.all_eq_true.1 hall t (by simpa using ht)
  simpa using h

theorem standValueDepths (j : Nat) (t : TypeId) (ht : Tryz.f4.params[j]? = some t) : Tryz.prog.wantsStandIn t = false := by
  rw [Tryz.params4] at ht
  have hm : t ∈ [5, 26] := by simpa using Array.mem_of_getElem? ht
  have hall : ([5, 26].all fun u => !Tryz.prog.wantsStandIn u) = true := by kernel_rfl
  simpa using List.all_eq_true.1 hall t hm

theorem goesValueDepths : false = Rows.valueDepthsRow.goesBy Tryz.prog := by kernel_rfl

theorem byTextValueDepths : Rows.valueDepthsRow.wfByText (OpenSpec.ofChange Rows.valueDepthsSpec) = true := by kernel_rfl

end Go.Proofs.YtpijpeocdlnhiaaGreatDoor
namespace Go.Proofs.YtpijpeocdlnhiaaGreatDoor
set_option linter.unusedVariables false
set_option linter.unusedSimpArgs false
open Go.ChangeShapes Go.WideShapes Go.ChangeAt Go.RowKit

set_option maxRecDepth 100000 in
theorem liftedValueDepths (os : Os) (started : os.Started) (H : Type) (enc : TypeId × Value → H) :
    ReturnsInHanded {} Tryz.checked os 4 .any (fun w args => (Rows.valueDepthsSpec.pre enc Tryz.prog Tryz.f4 [] false w args ∧ laidMetH Tryz.prog laidD w) ∧ sizedMet enc Tryz.prog Tryz.f4 (OpenSpec.ofChange Rows.valueDepthsSpec) false w args)
      (Rows.valueDepthsSpec.post enc Tryz.prog Tryz.f4 false true false false) := by
  refine returnsInHanded_of_change_and (C := Tryz.checked) (X := fun w _ => laidMetH Tryz.prog laidD w) (fun _ _ _ hh h => h.of_heap hh) own started (by kernel_rfl) Tryz.func4
    (ChangeSpec.witness_shaped (enc := enc) (C := Tryz.checked) (os := os) (X := fun w _ => laidMetH Tryz.prog laidD w) false (World.laidAll Tryz.prog os laidD) #[.int .u8 0, .agg #[.int .i64 0, .int .i64 0, .float .f64 0, .string ByteArray.empty, .slice none 0 0]] 8 (World.laidAll_os _ _ _)
      (World.shaped_of_ZipB (by kernel_rfl) (by kernel_rfl)) (by kernel_rfl) (by kernel_rfl) (by kernel_rfl) (laid_met os _)) ?_
  intro W base args ds gs before hval0 hW _ hwt hL _
  have hval : ∀ (j : Nat) t v, Tryz.f4.params[j]? = some t → args[j]? = some v → Value.okWide Tryz.prog W .any base t v := hval0
  have hW' := hW
  obtain ⟨p, q, hA0, hV, -, hfz, hnd⟩ := hW'
  have hA : DataW.TrodAll enc Tryz.prog W 0 (fun _ => true) true Tryz.f4.params.toList args.toList ds p := hA0
  rw [Tryz.params4] at hA hval
  obtain ⟨v0, v1, d0, d1, p0, p1, rfl, rfl, rfl, h0, h1⟩ := trodAll_two hA
  obtain ⟨rfl, rfl⟩ := trodVars_none hV
  obtain ⟨n0, rfl, rfl, rfl, w0⟩ := open_int Tryz.underlying5 (hval 0 5 v0 rfl rfl) h0
  have hb0 := bounds_u8 w0
  obtain ⟨t, u, rfl, ht, hwft⟩ := open_val (hval 1 26 v1 rfl rfl) h1
  obtain ⟨nb, rfl⟩ := Int.eq_ofNat_of_zero_le hb0.1
  clear hA0 hval0
  refine (valueDepths_any nb (by omega) t u W ht hwft (base_of_laid hL) (tabs_of_laid hL)).mono fun e W' ⟨he, bel⟩ => ?_
  subst he
  exact ⟨_, rfl, law_post rfl rfl rfl readableValueDepths rfl hW bel⟩

theorem rowValueDepths : Rows.ValueDepthsSaid :=
  OpenClaim.holds_of_wide 4 Tryz.f4 rfl rfl rfl rfl rfl rfl rfl ⟨rfl, rfl, rfl, rfl, rfl⟩ rfl rfl rfl rfl rfl namedValueDepths Tryz.func4 joinedValueDepths instValueDepths
    (by unfold Func.isWrapper; rw [if_neg (by decide +kernel)]; exact ⟨rfl, rfl⟩)
    (fun os started H enc _ => liftedValueDepths os started H enc)

theorem valueDepths_holds : Rows.ValueDepthsCardSaid :=
  Claim7.holds_tied_plain_at .later [] [.data, .data, .data, .data, .sentinel, .sentinel, .pinned] true _ true
    rowValueDepths (fun _ h => by cases h) byTextValueDepths (fun _ h => by cases h) valueDepths_row_tie rfl ⟨rfl, rfl⟩ wfMain rfl
    (fun f fn hf hfn => by
      obtain rfl : f = 4 := Option.some.inj (namedValueDepths.symm.trans hf) |>.symm
      obtain rfl : fn = Tryz.f4 := (Option.some.inj (Tryz.func4.symm.trans hfn)).symm
      exact ⟨wfLooks.symm, standValueDepths⟩)
    goesValueDepths
#print axioms valueDepths_holds
end Go.Proofs.YtpijpeocdlnhiaaGreatDoor
