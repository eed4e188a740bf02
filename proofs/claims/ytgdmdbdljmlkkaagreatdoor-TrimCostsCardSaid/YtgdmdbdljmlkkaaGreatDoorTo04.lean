/- TrimCostsProof: for trimCosts_holds. -/
import Derived.Test.YtgdmdbdljmlkkaaGreatDoorTo01
import Derived.Test.YtgdmdbdljmlkkaaGreatDoorTo03
import Derived.Test.YtgdmdbdljmlkkaaGreatDoorTt38
import Derived.Test.YtgdmdbdljmlkkaaGreatDoorTt42
import Derived.JoinedOf
set_option linter.unusedVariables false
set_option linter.unusedSimpArgs false
namespace Go.Proofs.YtgdmdbdljmlkkaaGreatDoor
open Go.ChangeShapes Go.WideShapes
set_option maxRecDepth 100000
theorem andTwoTrimCosts {a b : Bool} (ha : a = true) (hb : b = true) : (a && b) = true := by rw [ha, hb]; rfl
theorem namedTrimCosts : Tryz.prog.funcNamed Rows.trimCostsRow.func = some 11 := by kernel_rfl
set_option maxHeartbeats 0 in
theorem joinedTrimCosts : joinedFacts Tryz.prog 11 Tryz.f11 Rows.trimCostsSpec Rows.trimCostsRow = true := by
  unfold joinedFacts
  rw [wfLaid, wfMaps, wfStops, wfKnobs, wfHeard, wfEnter, wfLifts, wfMake, wfKeys]
  repeat' (with_reducible apply andTwoTrimCosts)
  all_goals (as_aux_lemma => kernel_rfl)
theorem instTrimCosts : Tryz.f11.isInstance Tryz.prog Rows.trimCostsRow.origin Rows.trimCostsRow.targs :=
  of_decide_eq_true (by kernel_rfl)
theorem readableTrimCosts : ∀ t ∈ Tryz.f11.params.toList, Tryz.prog.readableRec t = true ∧ t < Tryz.prog.types.size := by
  rw [Tryz.params11]
  intro t ht
  have hall : ([5, 80].all fun u => Tryz.prog.readableRec u && decide (u < Tryz.prog.types.size)) = true := by kernel_rfl
  have h := List.all_eq_true.1 hall t (by simpa using ht)
  simpa using h
theorem standTrimCosts (j : Nat) (t : TypeId) (ht : Tryz.f11.params[j]? = some t) : Tryz.prog.wantsStandIn t = false := by
  rw [Tryz.params11] at ht
  have hm : t ∈ [5, 80] := by simpa using Array.mem_of_getElem? ht
  have hall : ([5, 80].all fun u => !Tryz.prog.wantsStandIn u) = true := by kernel_rfl
  simpa using List.all_eq_true.1 hall t hm
theorem goesTrimCosts : false = Rows.trimCostsRow.goesBy Tryz.prog := by kernel_rfl
theorem byTextTrimCosts : Rows.trimCostsRow.wfByText (OpenSpec.ofChange Rows.trimCostsSpec) = true := by kernel_rfl
end Go.Proofs.YtgdmdbdljmlkkaaGreatDoor
namespace Go.Proofs.YtgdmdbdljmlkkaaGreatDoor
open Go.ChangeShapes Go.WideShapes Go.ChangeAt Go.RowKit
set_option maxRecDepth 100000 in
theorem liftedTrimCosts (os : Os) (started : os.Started) (H : Type) (enc : TypeId × Value → H) :
    ReturnsInHanded {} Tryz.checked os 11 .any (fun w args => (Rows.trimCostsSpec.pre enc Tryz.prog Tryz.f11 [] false w args ∧ laidMetH Tryz.prog laidD w) ∧ sizedMet enc Tryz.prog Tryz.f11 (OpenSpec.ofChange Rows.trimCostsSpec) false w args)
      (Rows.trimCostsSpec.post enc Tryz.prog Tryz.f11 false true false false) := by
  refine returnsInHanded_of_change_and (C := Tryz.checked) (X := fun w _ => laidMetH Tryz.prog laidD w) (fun _ _ _ hh h => h.of_heap hh) own started (by kernel_rfl) Tryz.func11
    (ChangeSpec.witness_shaped (enc := enc) (C := Tryz.checked) (os := os) (X := fun w _ => laidMetH Tryz.prog laidD w) false (World.laidAll Tryz.prog os laidD) #[.int .u8 0, .agg #[.slice none 0 0, .slice none 0 0]] 8 (World.laidAll_os _ _ _)
      (World.shaped_of_ZipB (by kernel_rfl) (by kernel_rfl)) (by kernel_rfl) (by kernel_rfl) (by kernel_rfl) (laid_met os _)) ?_
  intro W base args ds gs before hval0 hW _ hwt hL _
  have hval : ∀ (j : Nat) t v, Tryz.f11.params[j]? = some t → args[j]? = some v → Value.okWide Tryz.prog W .any base t v := hval0
  have hW' := hW
  obtain ⟨p, q, hA0, hV, -, hfz, hnd⟩ := hW'
  have hA : DataW.TrodAll enc Tryz.prog W 0 (fun _ => true) true Tryz.f11.params.toList args.toList ds p := hA0
  rw [Tryz.params11] at hA hval
  obtain ⟨v0, v1, d0, d1, p0, p1, rfl, rfl, rfl, h0, h1⟩ := trodAll_two hA
  obtain ⟨rfl, rfl⟩ := trodVars_none hV
  have hw1 : ∀ n ∈ d1.weights Tryz.prog 80, n ≤ 140737488351232 := fun n hn => by
    have h := List.all_eq_true.1 hwt n (by
      rw [Tryz.params11]
      show n ∈ DataW.weightsEach Tryz.prog (5 :: (80 :: _)) (_ :: (d1 :: _))
      rw [DataW.weightsEach, DataW.weightsEach]; exact List.mem_append_right _ (List.mem_append_left _ hn))
    exact of_decide_eq_true h
  obtain ⟨a0, rfl, rfl, rfl, w0⟩ := open_int Tryz.underlying5 (hval 0 5 v0 rfl rfl) h0
  obtain ⟨P, ba, bc, P2, ba2, bc2, rfl, ⟨hP, hPl, hPe⟩, ⟨hP2, hPl2, hPe2⟩⟩ := open_pair (hval 1 80 v1 rfl rfl) h1 hw1
  have hb0 := bounds_u8 w0
  clear hA0 hval0
  refine (trimCosts_any a0 hb0 ba bc P ba2 bc2 P2 W hP hPl hPe hP2 hPl2 hPe2 (tab_of_laid hL)).mono fun e W' ⟨he, bel⟩ => ?_
  subst he
  exact ⟨_, rfl, law_post rfl rfl rfl readableTrimCosts rfl hW bel⟩
theorem rowTrimCosts : Rows.TrimCostsSaid :=
  OpenClaim.holds_of_wide 11 Tryz.f11 rfl rfl rfl rfl rfl rfl rfl ⟨rfl, rfl, rfl, rfl, rfl⟩ rfl rfl rfl rfl rfl namedTrimCosts Tryz.func11 joinedTrimCosts instTrimCosts
    (by unfold Func.isWrapper; rw [if_neg (by decide +kernel)]; exact ⟨rfl, rfl⟩)
    (fun os started H enc _ => liftedTrimCosts os started H enc)
theorem trimCosts_holds : Rows.TrimCostsCardSaid :=
  Claim7.holds_tied_plain_at .later [] [.data, .data, .data, .data, .pinned] true _ false
    rowTrimCosts (fun _ h => by cases h) byTextTrimCosts (fun _ h => by cases h) trimCosts_row_tie rfl ⟨rfl, rfl⟩ wfMain rfl
    (fun f fn hf hfn => by
      obtain rfl : f = 11 := Option.some.inj (namedTrimCosts.symm.trans hf) |>.symm
      obtain rfl : fn = Tryz.f11 := (Option.some.inj (Tryz.func11.symm.trans hfn)).symm
      exact ⟨wfLooks.symm, standTrimCosts⟩)
    goesTrimCosts
#print axioms trimCosts_holds
end Go.Proofs.YtgdmdbdljmlkkaaGreatDoor
