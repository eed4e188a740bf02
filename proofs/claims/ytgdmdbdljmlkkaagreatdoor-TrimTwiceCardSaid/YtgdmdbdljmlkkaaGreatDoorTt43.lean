/- Texts for trimTwice_holds, joined: TrimTwiceProof. -/
import Derived.Test.YtgdmdbdljmlkkaaGreatDoorTt41
import Derived.Test.YtgdmdbdljmlkkaaGreatDoorTt38
import Derived.Test.YtgdmdbdljmlkkaaGreatDoorTt42
import Derived.JoinedOf
set_option linter.unusedVariables false
set_option linter.unusedSimpArgs false
namespace Go.Proofs.YtgdmdbdljmlkkaaGreatDoor
open Go.ChangeShapes Go.WideShapes
set_option maxRecDepth 100000
theorem andTwoTrimTwice {a b : Bool} (ha : a = true) (hb : b = true) : (a && b) = true := by rw [ha, hb]; rfl
theorem namedTrimTwice : Tryz.prog.funcNamed Rows.trimTwiceRow.func = some 9 := by kernel_rfl
set_option maxHeartbeats 0 in
theorem joinedTrimTwice : joinedFacts Tryz.prog 9 Tryz.f9 Rows.trimTwiceSpec Rows.trimTwiceRow = true := by
  unfold joinedFacts
  rw [wfLaid, wfMaps, wfStops, wfKnobs, wfHeard, wfEnter, wfLifts, wfMake, wfKeys]
  repeat' (with_reducible apply andTwoTrimTwice)
  all_goals (as_aux_lemma => kernel_rfl)
theorem instTrimTwice : Tryz.f9.isInstance Tryz.prog Rows.trimTwiceRow.origin Rows.trimTwiceRow.targs :=
  of_decide_eq_true (by kernel_rfl)
theorem readableTrimTwice : ∀ t ∈ Tryz.f9.params.toList, Tryz.prog.readableRec t = true ∧ t < Tryz.prog.types.size := by
  rw [Tryz.params9]
  intro t ht
  have hall : ([80].all fun u => Tryz.prog.readableRec u && decide (u < Tryz.prog.types.size)) = true := by kernel_rfl
  have h := List.all_eq_true.1 hall t (by simpa using ht)
  simpa using h
theorem standTrimTwice (j : Nat) (t : TypeId) (ht : Tryz.f9.params[j]? = some t) : Tryz.prog.wantsStandIn t = false := by
  rw [Tryz.params9] at ht
  have hm : t ∈ [80] := by simpa using Array.mem_of_getElem? ht
  have hall : ([80].all fun u => !Tryz.prog.wantsStandIn u) = true := by kernel_rfl
  simpa using List.all_eq_true.1 hall t hm
theorem goesTrimTwice : false = Rows.trimTwiceRow.goesBy Tryz.prog := by kernel_rfl
theorem byTextTrimTwice : Rows.trimTwiceRow.wfByText (OpenSpec.ofChange Rows.trimTwiceSpec) = true := by kernel_rfl
end Go.Proofs.YtgdmdbdljmlkkaaGreatDoor
namespace Go.Proofs.YtgdmdbdljmlkkaaGreatDoor
open Go.ChangeShapes Go.WideShapes Go.ChangeAt Go.RowKit
set_option maxRecDepth 100000 in
theorem liftedTrimTwice (os : Os) (started : os.Started) (H : Type) (enc : TypeId × Value → H) :
    ReturnsInHanded {} Tryz.checked os 9 .any (fun w args => (Rows.trimTwiceSpec.pre enc Tryz.prog Tryz.f9 [] false w args ∧ laidMetH Tryz.prog laidD w) ∧ sizedMet enc Tryz.prog Tryz.f9 (OpenSpec.ofChange Rows.trimTwiceSpec) false w args)
      (Rows.trimTwiceSpec.post enc Tryz.prog Tryz.f9 false true false false) := by
  refine returnsInHanded_of_change_and (C := Tryz.checked) (X := fun w _ => laidMetH Tryz.prog laidD w) (fun _ _ _ hh h => h.of_heap hh) own started (by kernel_rfl) Tryz.func9
    (ChangeSpec.witness_shaped (enc := enc) (C := Tryz.checked) (os := os) (X := fun w _ => laidMetH Tryz.prog laidD w) false (World.laidAll Tryz.prog os laidD) #[.agg #[.slice none 0 0, .slice none 0 0]] 8 (World.laidAll_os _ _ _)
      (World.shaped_of_ZipB (by kernel_rfl) (by kernel_rfl)) (by kernel_rfl) (by kernel_rfl) (by kernel_rfl) (laid_met os _)) ?_
  intro W base args ds gs before hval0 hW _ hwt hL _
  have hval : ∀ (j : Nat) t v, Tryz.f9.params[j]? = some t → args[j]? = some v → Value.okWide Tryz.prog W .any base t v := hval0
  have hW' := hW
  obtain ⟨p, q, hA0, hV, -, hfz, hnd⟩ := hW'
  have hA : DataW.TrodAll enc Tryz.prog W 0 (fun _ => true) true Tryz.f9.params.toList args.toList ds p := hA0
  rw [Tryz.params9] at hA hval
  obtain ⟨v0, d0, rfl, rfl, h0⟩ := trodAll_one hA
  obtain ⟨rfl, rfl⟩ := trodVars_none hV
  have hw0 : ∀ n ∈ d0.weights Tryz.prog 80, n ≤ 140737488351232 := fun n hn => by
    have h := List.all_eq_true.1 hwt n (by
      rw [Tryz.params9]
      show n ∈ DataW.weightsEach Tryz.prog (80 :: _) (d0 :: _)
      rw [DataW.weightsEach]; exact List.mem_append_left _ hn)
    exact of_decide_eq_true h
  obtain ⟨P, ba, bc, P2, ba2, bc2, rfl, ⟨hP, hPl, hPe⟩, ⟨hP2, hPl2, hPe2⟩⟩ := open_pair (hval 0 80 v0 rfl rfl) h0 hw0
  clear hA0 hval0
  refine (trimTwice_any ba bc P ba2 bc2 P2 W hP hPl hPe hP2 hPl2 hPe2 (tab_of_laid hL)).mono fun e W' ⟨he, bel⟩ => ?_
  subst he
  exact ⟨_, rfl, law_post rfl rfl rfl readableTrimTwice rfl hW bel⟩
theorem rowTrimTwice : Rows.TrimTwiceSaid :=
  OpenClaim.holds_of_wide 9 Tryz.f9 rfl rfl rfl rfl rfl rfl rfl ⟨rfl, rfl, rfl, rfl, rfl⟩ rfl rfl rfl rfl rfl namedTrimTwice Tryz.func9 joinedTrimTwice instTrimTwice
    (by unfold Func.isWrapper; rw [if_neg (by decide +kernel)]; exact ⟨rfl, rfl⟩)
    (fun os started H enc _ => liftedTrimTwice os started H enc)
theorem trimTwice_holds : Rows.TrimTwiceCardSaid :=
  Claim7.holds_tied_plain_at .later [] [.data, .data, .data, .data, .pinned] true _ false
    rowTrimTwice (fun _ h => by cases h) byTextTrimTwice (fun _ h => by cases h) trimTwice_row_tie rfl ⟨rfl, rfl⟩ wfMain rfl
    (fun f fn hf hfn => by
      obtain rfl : f = 9 := Option.some.inj (namedTrimTwice.symm.trans hf) |>.symm
      obtain rfl : fn = Tryz.f9 := (Option.some.inj (Tryz.func9.symm.trans hfn)).symm
      exact ⟨wfLooks.symm, standTrimTwice⟩)
    goesTrimTwice
#print axioms trimTwice_holds
end Go.Proofs.YtgdmdbdljmlkkaaGreatDoor
