/- TrimKeepsProof: for trimKeeps_holds. -/
import Derived.Test.YtgdmdbdljmlkkaaGreatDoorTk01
import Derived.Test.YtgdmdbdljmlkkaaGreatDoorTk02
import Derived.Test.YtgdmdbdljmlkkaaGreatDoorTt38
import Derived.Test.YtgdmdbdljmlkkaaGreatDoorTt42
import Derived.JoinedOf
set_option linter.unusedVariables false
set_option linter.unusedSimpArgs false
namespace Go.Proofs.YtgdmdbdljmlkkaaGreatDoor
open Go.ChangeShapes Go.WideShapes
set_option maxRecDepth 100000
theorem andTwoTrimKeeps {a b : Bool} (ha : a = true) (hb : b = true) : (a && b) = true := by rw [ha, hb]; rfl
theorem namedTrimKeeps : Tryz.prog.funcNamed Rows.trimKeepsRow.func = some 12 := by kernel_rfl
set_option maxHeartbeats 0 in
theorem joinedTrimKeeps : joinedFacts Tryz.prog 12 Tryz.f12 Rows.trimKeepsSpec Rows.trimKeepsRow = true := by
  unfold joinedFacts
  rw [wfLaid, wfMaps, wfStops, wfKnobs, wfHeard, wfEnter, wfLifts, wfMake, wfKeys]
  repeat' (with_reducible apply andTwoTrimKeeps)
  all_goals (as_aux_lemma => kernel_rfl)
theorem instTrimKeeps : Tryz.f12.isInstance Tryz.prog Rows.trimKeepsRow.origin Rows.trimKeepsRow.targs :=
  of_decide_eq_true (by kernel_rfl)
theorem readableTrimKeeps : ∀ t ∈ Tryz.f12.params.toList, Tryz.prog.readableRec t = true ∧ t < Tryz.prog.types.size := by
  rw [Tryz.params12]
  intro t ht
  have hall : ([5, 80, 72].all fun u => Tryz.prog.readableRec u && decide (u < Tryz.prog.types.size)) = true := by kernel_rfl
  have h := List.all_eq_true.1 hall t (by simpa using ht)
  simpa using h
theorem standTrimKeeps (j : Nat) (t : TypeId) (ht : Tryz.f12.params[j]? = some t) : Tryz.prog.wantsStandIn t = false := by
  rw [Tryz.params12] at ht
  have hm : t ∈ [5, 80, 72] := by simpa using Array.mem_of_getElem? ht
  have hall : ([5, 80, 72].all fun u => !Tryz.prog.wantsStandIn u) = true := by kernel_rfl
  simpa using List.all_eq_true.1 hall t hm
theorem goesTrimKeeps : false = Rows.trimKeepsRow.goesBy Tryz.prog := by kernel_rfl
theorem byTextTrimKeeps : Rows.trimKeepsRow.wfByText (OpenSpec.ofChange Rows.trimKeepsSpec) = true := by kernel_rfl
end Go.Proofs.YtgdmdbdljmlkkaaGreatDoor
namespace Go.Proofs.YtgdmdbdljmlkkaaGreatDoor
open Go.ChangeShapes Go.WideShapes Go.ChangeAt Go.RowKit
set_option maxRecDepth 100000 in
theorem liftedTrimKeeps (os : Os) (started : os.Started) (H : Type) (enc : TypeId × Value → H) :
    ReturnsInHanded {} Tryz.checked os 12 .any (fun w args => (Rows.trimKeepsSpec.pre enc Tryz.prog Tryz.f12 [] false w args ∧ laidMetH Tryz.prog laidD w) ∧ sizedMet enc Tryz.prog Tryz.f12 (OpenSpec.ofChange Rows.trimKeepsSpec) false w args)
      (Rows.trimKeepsSpec.post enc Tryz.prog Tryz.f12 false true false false) := by
  refine returnsInHanded_of_change_and (C := Tryz.checked) (X := fun w _ => laidMetH Tryz.prog laidD w) (fun _ _ _ hh h => h.of_heap hh) own started (by kernel_rfl) Tryz.func12
    (ChangeSpec.witness_shaped (enc := enc) (C := Tryz.checked) (os := os) (X := fun w _ => laidMetH Tryz.prog laidD w) false (World.laidAll Tryz.prog os laidD) #[.int .u8 0, .agg #[.slice none 0 0, .slice none 0 0], .slice none 0 0] 8 (World.laidAll_os _ _ _)
      (World.shaped_of_ZipB (by kernel_rfl) (by kernel_rfl)) (by kernel_rfl) (by kernel_rfl) (by kernel_rfl) (laid_met os _)) ?_
  intro W base args ds gs before hval0 hW _ hwt hL _
  have hval : ∀ (j : Nat) t v, Tryz.f12.params[j]? = some t → args[j]? = some v → Value.okWide Tryz.prog W .any base t v := hval0
  have hW' := hW
  obtain ⟨p, q, hA0, hV, -, hfz, hnd⟩ := hW'
  have hA : DataW.TrodAll enc Tryz.prog W 0 (fun _ => true) true Tryz.f12.params.toList args.toList ds p := hA0
  rw [Tryz.params12] at hA hval
  obtain ⟨v0, v1, v2, d0, d1, d2, p0, p1, p2, rfl, rfl, rfl, h0, h1, h2⟩ := trodAll_three hA
  obtain ⟨rfl, rfl⟩ := trodVars_none hV
  have hw1 : ∀ n ∈ d1.weights Tryz.prog 80, n ≤ 140737488351232 := fun n hn => by
    have h := List.all_eq_true.1 hwt n (by
      rw [Tryz.params12]
      show n ∈ DataW.weightsEach Tryz.prog (5 :: (80 :: _)) (_ :: (d1 :: _))
      rw [DataW.weightsEach, DataW.weightsEach]; exact List.mem_append_right _ (List.mem_append_left _ hn))
    exact of_decide_eq_true h
  obtain ⟨a0, rfl, rfl, rfl, w0⟩ := open_int Tryz.underlying5 (hval 0 5 v0 rfl rfl) h0
  obtain ⟨P, ba, bc, P2, ba2, bc2, rfl, ⟨hP, hPl, hPe⟩, ⟨hP2, hPl2, hPe2⟩⟩ := open_pair (hval 1 80 v1 rfl rfl) h1 hw1
  obtain ⟨pl, ea, ec, rfl, hrd, -, hpl⟩ := openBy (hval 2 72 v2 rfl rfl) h2
  have hb0 := bounds_u8 w0
  clear hA0 hval0
  refine (trimKeeps_any a0 hb0 ba bc P ba2 bc2 P2 ea ec pl W hP hPl hPe hP2 hPl2 hPe2 hrd (by unfold maxLen at hpl; omega) (tab_of_laid hL)).mono fun e W' ⟨he, bel⟩ => ?_
  subst he
  exact ⟨_, rfl, law_post rfl rfl rfl readableTrimKeeps rfl hW bel⟩
theorem rowTrimKeeps : Rows.TrimKeepsSaid :=
  OpenClaim.holds_of_wide 12 Tryz.f12 rfl rfl rfl rfl rfl rfl rfl ⟨rfl, rfl, rfl, rfl, rfl⟩ rfl rfl rfl rfl rfl namedTrimKeeps Tryz.func12 joinedTrimKeeps instTrimKeeps
    (by unfold Func.isWrapper; rw [if_neg (by decide +kernel)]; exact ⟨rfl, rfl⟩)
    (fun os started H enc _ => liftedTrimKeeps os started H enc)
theorem trimKeeps_holds : Rows.TrimKeepsCardSaid :=
  Claim7.holds_tied_plain_at .later [] [.data, .data, .data, .data, .pinned] true _ false
    rowTrimKeeps (fun _ h => by cases h) byTextTrimKeeps (fun _ h => by cases h) trimKeeps_row_tie rfl ⟨rfl, rfl⟩ wfMain rfl
    (fun f fn hf hfn => by
      obtain rfl : f = 12 := Option.some.inj (namedTrimKeeps.symm.trans hf) |>.symm
      obtain rfl : fn = Tryz.f12 := (Option.some.inj (Tryz.func12.symm.trans hfn)).symm
      exact ⟨wfLooks.symm, standTrimKeeps⟩)
    goesTrimKeeps
#print axioms trimKeeps_holds
end Go.Proofs.YtgdmdbdljmlkkaaGreatDoor
