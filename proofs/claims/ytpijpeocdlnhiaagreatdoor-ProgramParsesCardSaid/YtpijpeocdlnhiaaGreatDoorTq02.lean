/- ParsesProof: for programParses_holds. -/
import Derived.Test.YtpijpeocdlnhiaaGreatDoorTq01
import Derived.Test.YtpijpeocdlnhiaaGreatDoorTp19
import Derived.Test.YtpijpeocdlnhiaaGreatDoorTp20
import Derived.Test.YtpijpeocdlnhiaaGreatDoorTp21
import Derived.JoinedOf
set_option linter.unusedVariables false
set_option linter.unusedSimpArgs false
namespace Go.Proofs.YtpijpeocdlnhiaaGreatDoor
open Go.ChangeShapes Go.WideShapes
set_option maxRecDepth 100000
theorem andTwoProgramParses {a b : Bool} (ha : a = true) (hb : b = true) : (a && b) = true := by rw [ha, hb]; rfl
theorem namedProgramParses : Tryz.prog.funcNamed Rows.programParsesRow.func = some 7 := by kernel_rfl
set_option maxHeartbeats 0 in
theorem joinedProgramParses : joinedFacts Tryz.prog 7 Tryz.f7 Rows.programParsesSpec Rows.programParsesRow = true := by
  unfold joinedFacts
  rw [wfLaid, wfMaps, wfStops, wfKnobs, wfHeard, wfEnter, wfLifts, wfMake, wfKeys]
  repeat' (with_reducible apply andTwoProgramParses)
  all_goals (as_aux_lemma => kernel_rfl)
theorem instProgramParses : Tryz.f7.isInstance Tryz.prog Rows.programParsesRow.origin Rows.programParsesRow.targs :=
  of_decide_eq_true (by kernel_rfl)
theorem readableProgramParses : ∀ t ∈ Tryz.f7.params.toList, Tryz.prog.readableRec t = true ∧ t < Tryz.prog.types.size := by
  rw [Tryz.params7]
  intro t ht
  have hall : ([9].all fun u => Tryz.prog.readableRec u && decide (u < Tryz.prog.types.size)) = true := by kernel_rfl
  have h := List.all_eq_true.1 hall t (by simpa using ht)
  simpa using h
theorem standProgramParses (j : Nat) (t : TypeId) (ht : Tryz.f7.params[j]? = some t) : Tryz.prog.wantsStandIn t = false := by
  rw [Tryz.params7] at ht
  have hm : t ∈ [9] := by simpa using Array.mem_of_getElem? ht
  have hall : ([9].all fun u => !Tryz.prog.wantsStandIn u) = true := by kernel_rfl
  simpa using List.all_eq_true.1 hall t hm
theorem goesProgramParses : false = Rows.programParsesRow.goesBy Tryz.prog := by kernel_rfl
theorem byTextProgramParses : Rows.programParsesRow.wfByText (OpenSpec.ofChange Rows.programParsesSpec) = true := by kernel_rfl
end Go.Proofs.YtpijpeocdlnhiaaGreatDoor
namespace Go.Proofs.YtpijpeocdlnhiaaGreatDoor
open Go.ChangeShapes Go.WideShapes Go.ChangeAt Go.RowKit
open Go.ChangeMaps (open_string shut_string)
set_option maxRecDepth 100000 in
theorem liftedProgramParses (os : Os) (started : os.Started) (H : Type) (enc : TypeId × Value → H) :
    ReturnsInHanded {} Tryz.checked os 7 .any (fun w args => (Rows.programParsesSpec.pre enc Tryz.prog Tryz.f7 [] false w args ∧ laidMetH Tryz.prog laidP w) ∧ sizedMet enc Tryz.prog Tryz.f7 (OpenSpec.ofChange Rows.programParsesSpec) false w args)
      (Rows.programParsesSpec.post enc Tryz.prog Tryz.f7 false true false false) := by
  refine handed_shaped (C := Tryz.checked) (X := fun w _ => laidMetH Tryz.prog laidP w) (fun _ _ _ hh h => h.of_heap hh) own started (by kernel_rfl) Tryz.func7
    (ChangeSpec.witness_shaped (enc := enc) (C := Tryz.checked) (os := os) (X := fun w _ => laidMetH Tryz.prog laidP w) false (World.laidAll Tryz.prog os laidP) #[.string ByteArray.empty] 8 (World.laidAll_os _ _ _)
      (World.shaped_of_ZipB (by kernel_rfl) (by kernel_rfl)) (by kernel_rfl) (by kernel_rfl) (by kernel_rfl) (laid_met os _)) ?_
  intro W base args ds gs before hval0 hW hwt hL hS
  have hval : ∀ (j : Nat) t v, Tryz.f7.params[j]? = some t → args[j]? = some v → Value.okWide Tryz.prog W .any base t v := hval0
  have hW' := hW
  obtain ⟨p, q, hA0, hV, -, hfz, hnd⟩ := hW'
  have hA : DataW.TrodAll enc Tryz.prog W 0 (fun _ => true) true Tryz.f7.params.toList args.toList ds p := hA0
  rw [Tryz.params7] at hA hval
  obtain ⟨v0, d0, rfl, rfl, h0⟩ := trodAll_one hA
  obtain ⟨rfl, rfl⟩ := trodVars_none hV
  obtain ⟨a0, rfl, rfl, rfl, w0⟩ := open_string Tryz.underlying9 (hval 0 9 v0 rfl rfl) h0
  clear hA0 hval0
  refine (parses_law a0 w0 W (pw_of_laid hL hS)).mono fun e W' ⟨he, bel⟩ => ?_
  subst he
  exact ⟨_, rfl, law_post rfl rfl rfl readableProgramParses rfl hW bel⟩
theorem rowProgramParses : Rows.ProgramParsesSaid :=
  OpenClaim.holds_of_wide 7 Tryz.f7 rfl rfl rfl rfl rfl rfl rfl ⟨rfl, rfl, rfl, rfl, rfl⟩ rfl rfl rfl rfl rfl namedProgramParses Tryz.func7 joinedProgramParses instProgramParses
    (by unfold Func.isWrapper; rw [if_neg (by decide +kernel)]; exact ⟨rfl, rfl⟩)
    (fun os started H enc _ => liftedProgramParses os started H enc)
theorem programParses_holds : Rows.ProgramParsesCardSaid :=
  Claim7.holds_tied_plain_at .later [] [.data, .data, .data, .data, .sentinel, .sentinel, .widerDeep, .pinned] true _ true
    rowProgramParses (fun _ h => by cases h) byTextProgramParses (fun _ h => by cases h) programParses_row_tie rfl ⟨rfl, rfl⟩ wfMain rfl
    (fun f fn hf hfn => by
      obtain rfl : f = 7 := Option.some.inj (namedProgramParses.symm.trans hf) |>.symm
      obtain rfl : fn = Tryz.f7 := (Option.some.inj (Tryz.func7.symm.trans hfn)).symm
      exact ⟨wfLooks.symm, standProgramParses⟩)
    goesProgramParses
#print axioms programParses_holds
end Go.Proofs.YtpijpeocdlnhiaaGreatDoor
