/- The given statement ProgramCalls holds: for every input the law returns true, the four tables tied to the program's text. -/
import Derived.Test.YtccnmoicckjfbaaGreatDoorPCallsLaw
import Derived.Test.YtccnmoicckjfbaaGreatDoorPOpen
namespace Go.Proofs.YtccnmoicckjfbaaGreatDoor
set_option linter.unusedVariables false
set_option linter.unusedSimpArgs false
open Go.ChangeShapes Go.WideShapes Go.ChangeAt Go.RowKit

set_option maxRecDepth 100000 in
theorem readableProgramCalls : ∀ t ∈ Tryz.f3.params.toList, Tryz.prog.readableRec t = true ∧ t < Tryz.prog.types.size := by
  rw [Tryz.params3]
  intro t ht
  have hall : ([22].all fun u => Tryz.prog.readableRec u && decide (u < Tryz.prog.types.size)) = true := by kernel_rfl
  have h := List.all_eq_true.1 hall t (by simpa using ht)
  simpa using h

set_option maxRecDepth 100000 in
theorem liftedProgramCalls (os : Os) (started : os.Started) (H : Type) (enc : TypeId × Value → H) :
    ReturnsInHanded {} Tryz.checked os 3 .any (fun w args => (Rows.programCallsSpec.pre enc Tryz.prog Tryz.f3 [] false w args ∧ laidMetH Tryz.prog laidP w) ∧ sizedMet enc Tryz.prog Tryz.f3 (OpenSpec.ofChange Rows.programCallsSpec) false w args)
      (Rows.programCallsSpec.post enc Tryz.prog Tryz.f3 false true false false) := by
  refine returnsInHanded_of_change_and (C := Tryz.checked) (X := fun w _ => laidMetH Tryz.prog laidP w) (fun _ _ _ hh h => h.of_heap hh) own started (by kernel_rfl) Tryz.func3
    (ChangeSpec.witness_shaped (enc := enc) (C := Tryz.checked) (os := os) (X := fun w _ => laidMetH Tryz.prog laidP w) false (World.laidAll Tryz.prog os laidP) #[.slice none 0 0] 8 (World.laidAll_os _ _ _)
      (World.shaped_of_ZipB (by kernel_rfl) (by kernel_rfl)) (by kernel_rfl) (by kernel_rfl) (by kernel_rfl) (laid_met os _)) ?_
  intro W base args ds gs before hval0 hW _ hwt hL _
  have hval : ∀ (j : Nat) t v, Tryz.f3.params[j]? = some t → args[j]? = some v → Value.okWide Tryz.prog W .any base t v := hval0
  have hW' := hW
  obtain ⟨p, q, hA0, hV, -, hfz, hnd⟩ := hW'
  have hA : DataW.TrodAll enc Tryz.prog W 0 (fun _ => true) true Tryz.f3.params.toList args.toList ds p := hA0
  rw [Tryz.params3] at hA hval
  obtain ⟨v0, d0, rfl, rfl, h0⟩ := trodAll_one hA
  obtain ⟨rfl, rfl⟩ := trodVars_none hV
  have hw0 : ∀ n ∈ d0.weights Tryz.prog 22, n ≤ 140737488351232 := fun n hn => by
    have h := List.all_eq_true.1 hwt n (by
      rw [Tryz.params3]
      show n ∈ DataW.weightsEach Tryz.prog (22 :: _) (d0 :: _)
      rw [DataW.weightsEach]; exact List.mem_append_left _ hn)
    exact of_decide_eq_true h
  obtain ⟨P, a1, c1, rfl, hP⟩ := open_prg (hval 0 22 v0 rfl rfl) h0 hw0
  clear hA0 hval0
  refine (calls_law a1 c1 P W hP (words_of_laid hL)).mono fun e W' ⟨he, bel⟩ => ?_
  subst he
  exact ⟨_, rfl, law_post rfl rfl rfl readableProgramCalls rfl hW bel⟩

theorem rowProgramCalls : Rows.ProgramCallsSaid :=
  OpenClaim.holds_of_wide 3 Tryz.f3 rfl rfl rfl rfl rfl rfl rfl ⟨rfl, rfl, rfl, rfl, rfl⟩ rfl rfl rfl rfl rfl (by kernel_rfl) Tryz.func3 (by kernel_rfl)
    (of_decide_eq_true (by kernel_rfl)) (by unfold Func.isWrapper; first | (rw [if_pos (by decide +kernel)]; kernel_rfl) | (rw [if_neg (by decide +kernel)]; exact ⟨rfl, rfl⟩))
    (fun os started H enc _ => liftedProgramCalls os started H enc)

theorem programCalls_holds : Rows.ProgramCallsCardSaid :=
  Claim7.holds_tied_plain_at .later [] [.data, .data, .data, .widerDeep] true _ true
    rowProgramCalls (fun _ h => by cases h) (by kernel_rfl) (fun _ h => by cases h) programCalls_row_tie rfl ⟨rfl, rfl⟩ (by kernel_rfl) rfl
    (fun f fn hf hfn => by
      obtain rfl : f = 3 := Option.some.inj ((show Tryz.prog.funcNamed Rows.programCallsRow.func = some 3 by kernel_rfl).symm.trans hf) |>.symm
      obtain rfl : fn = Tryz.f3 := (Option.some.inj (Tryz.func3.symm.trans hfn)).symm
      exact ⟨by kernel_rfl, fun j t ht => by
        rw [Tryz.params3] at ht
        have hm : t ∈ [22] := by simpa using Array.mem_of_getElem? ht
        have hall : ([22].all fun u => !Tryz.prog.wantsStandIn u) = true := by kernel_rfl
        exact (show Tryz.prog.wantsStandIn t = false by simpa using List.all_eq_true.1 hall t hm)⟩)
    (by kernel_rfl)
#print axioms programCalls_holds
end Go.Proofs.YtccnmoicckjfbaaGreatDoor
