/- Texts for programTexts_holds, joined: TextsProof. -/
import Derived.Test.YtpijpeocdlnhiaaGreatDoorTp19
import Derived.Test.YtpijpeocdlnhiaaGreatDoorTp20
import Derived.Test.YtpijpeocdlnhiaaGreatDoorTp21
import Derived.JoinedOf
set_option linter.unusedVariables false
set_option linter.unusedSimpArgs false
namespace Go.Proofs.YtpijpeocdlnhiaaGreatDoor
open Go.ChangeShapes Go.WideShapes
set_option maxRecDepth 100000
theorem andTwoProgramTexts {a b : Bool} (ha : a = true) (hb : b = true) : (a && b) = true := by rw [ha, hb]; rfl
theorem namedProgramTexts : Tryz.prog.funcNamed Rows.programTextsRow.func = some 6 := by kernel_rfl
set_option maxHeartbeats 0 in
theorem joinedProgramTexts : joinedFacts Tryz.prog 6 Tryz.f6 Rows.programTextsSpec Rows.programTextsRow = true := by
  unfold joinedFacts
  rw [wfLaid, wfMaps, wfStops, wfKnobs, wfHeard, wfEnter, wfLifts, wfMake, wfKeys]
  repeat' (with_reducible apply andTwoProgramTexts)
  all_goals (as_aux_lemma => kernel_rfl)
theorem instProgramTexts : Tryz.f6.isInstance Tryz.prog Rows.programTextsRow.origin Rows.programTextsRow.targs :=
  of_decide_eq_true (by kernel_rfl)
theorem readableProgramTexts : ∀ t ∈ Tryz.f6.params.toList, Tryz.prog.readableRec t = true ∧ t < Tryz.prog.types.size := by
  rw [Tryz.params6]
  intro t ht
  have hall : ([42].all fun u => Tryz.prog.readableRec u && decide (u < Tryz.prog.types.size)) = true := by kernel_rfl
  have h := List.all_eq_true.1 hall t (by simpa using ht)
  simpa using h
theorem standProgramTexts (j : Nat) (t : TypeId) (ht : Tryz.f6.params[j]? = some t) : Tryz.prog.wantsStandIn t = false := by
  rw [Tryz.params6] at ht
  have hm : t ∈ [42] := by simpa using Array.mem_of_getElem? ht
  have hall : ([42].all fun u => !Tryz.prog.wantsStandIn u) = true := by kernel_rfl
  simpa using List.all_eq_true.1 hall t hm
theorem goesProgramTexts : false = Rows.programTextsRow.goesBy Tryz.prog := by kernel_rfl
theorem byTextProgramTexts : Rows.programTextsRow.wfByText (OpenSpec.ofChange Rows.programTextsSpec) = true := by kernel_rfl
end Go.Proofs.YtpijpeocdlnhiaaGreatDoor
namespace Go.Proofs.YtpijpeocdlnhiaaGreatDoor
open Go.ChangeShapes Go.WideShapes Go.ChangeAt Go.RowKit
set_option maxRecDepth 100000 in
theorem liftedProgramTexts (os : Os) (started : os.Started) (H : Type) (enc : TypeId × Value → H) :
    ReturnsInHanded {} Tryz.checked os 6 .any (fun w args => (Rows.programTextsSpec.pre enc Tryz.prog Tryz.f6 [] false w args ∧ laidMetH Tryz.prog laidP w) ∧ sizedMet enc Tryz.prog Tryz.f6 (OpenSpec.ofChange Rows.programTextsSpec) false w args)
      (Rows.programTextsSpec.post enc Tryz.prog Tryz.f6 false true false false) := by
  refine handed_shaped (C := Tryz.checked) (X := fun w _ => laidMetH Tryz.prog laidP w) (fun _ _ _ hh h => h.of_heap hh) own started (by kernel_rfl) Tryz.func6
    (ChangeSpec.witness_shaped (enc := enc) (C := Tryz.checked) (os := os) (X := fun w _ => laidMetH Tryz.prog laidP w) false (World.laidAll Tryz.prog os laidP) #[.slice none 0 0] 8 (World.laidAll_os _ _ _)
      (World.shaped_of_ZipB (by kernel_rfl) (by kernel_rfl)) (by kernel_rfl) (by kernel_rfl) (by kernel_rfl) (laid_met os _)) ?_
  intro W base args ds gs before hval0 hW hwt hL hS
  have hval : ∀ (j : Nat) t v, Tryz.f6.params[j]? = some t → args[j]? = some v → Value.okWide Tryz.prog W .any base t v := hval0
  have hW' := hW
  obtain ⟨p, q, hA0, hV, -, hfz, hnd⟩ := hW'
  have hA : DataW.TrodAll enc Tryz.prog W 0 (fun _ => true) true Tryz.f6.params.toList args.toList ds p := hA0
  rw [Tryz.params6] at hA hval
  obtain ⟨v0, d0, rfl, rfl, h0⟩ := trodAll_one hA
  obtain ⟨rfl, rfl⟩ := trodVars_none hV
  have hw0 : ∀ n ∈ d0.weights Tryz.prog 42, n ≤ 140737488351232 := fun n hn => by
    have h := List.all_eq_true.1 hwt n (by
      rw [Tryz.params6]
      show n ∈ DataW.weightsEach Tryz.prog (42 :: _) (d0 :: _)
      rw [DataW.weightsEach]; exact List.mem_append_left _ hn)
    exact of_decide_eq_true h
  obtain ⟨P, a1, c1, rfl, hP⟩ := open_prg (hval 0 42 v0 rfl rfl) h0 hw0
  clear hA0 hval0
  refine (texts_law a1 c1 P W hP (pw_of_laid hL hS)).mono fun e W' ⟨he, bel⟩ => ?_
  subst he
  exact ⟨_, rfl, law_post rfl rfl rfl readableProgramTexts rfl hW bel⟩
theorem rowProgramTexts : Rows.ProgramTextsSaid :=
  OpenClaim.holds_of_wide 6 Tryz.f6 rfl rfl rfl rfl rfl rfl rfl ⟨rfl, rfl, rfl, rfl, rfl⟩ rfl rfl rfl rfl rfl namedProgramTexts Tryz.func6 joinedProgramTexts instProgramTexts
    (by unfold Func.isWrapper; rw [if_neg (by decide +kernel)]; exact ⟨rfl, rfl⟩)
    (fun os started H enc _ => liftedProgramTexts os started H enc)
theorem programTexts_holds : Rows.ProgramTextsCardSaid :=
  Claim7.holds_tied_plain_at .later [] [.data, .data, .data, .data, .sentinel, .sentinel, .widerDeep, .pinned] true _ true
    rowProgramTexts (fun _ h => by cases h) byTextProgramTexts (fun _ h => by cases h) programTexts_row_tie rfl ⟨rfl, rfl⟩ wfMain rfl
    (fun f fn hf hfn => by
      obtain rfl : f = 6 := Option.some.inj (namedProgramTexts.symm.trans hf) |>.symm
      obtain rfl : fn = Tryz.f6 := (Option.some.inj (Tryz.func6.symm.trans hfn)).symm
      exact ⟨wfLooks.symm, standProgramTexts⟩)
    goesProgramTexts
#print axioms programTexts_holds
end Go.Proofs.YtpijpeocdlnhiaaGreatDoor
