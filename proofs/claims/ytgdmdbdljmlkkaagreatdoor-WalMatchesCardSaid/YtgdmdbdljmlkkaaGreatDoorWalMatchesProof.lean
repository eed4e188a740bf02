/- The given statement WalMatches holds: for every input the law returns true, the five tables tied to the program's text. -/
import Derived.Test.YtgdmdbdljmlkkaaGreatDoorOpenOps8
import Derived.Test.YtgdmdbdljmlkkaaGreatDoorWalMatches
import Derived.Test.YtgdmdbdljmlkkaaGreatDoorWalMatchesFacts
namespace Go.Proofs.YtgdmdbdljmlkkaaGreatDoor
set_option linter.unusedVariables false
set_option linter.unusedSimpArgs false
open Go.ChangeShapes Go.WideShapes Go.ChangeAt Go.RowKit

set_option maxRecDepth 100000 in
theorem liftedWalMatches (os : Os) (started : os.Started) (H : Type) (enc : TypeId × Value → H) :
    ReturnsInHanded {} Tryz.checked os 3 .any (fun w args => (Rows.walMatchesSpec.pre enc Tryz.prog Tryz.f3 [] false w args ∧ laidMetH Tryz.prog laidD w) ∧ sizedMet enc Tryz.prog Tryz.f3 (OpenSpec.ofChange Rows.walMatchesSpec) false w args)
      (Rows.walMatchesSpec.post enc Tryz.prog Tryz.f3 false true false false) := by
  refine returnsInHanded_of_change_and (C := Tryz.checked) (X := fun w _ => laidMetH Tryz.prog laidD w) (fun _ _ _ hh h => h.of_heap hh) own started (by kernel_rfl) Tryz.func3
    (ChangeSpec.witness_shaped (enc := enc) (C := Tryz.checked) (os := os) (X := fun w _ => laidMetH Tryz.prog laidD w) false (World.laidAll Tryz.prog os laidD) #[.int .u16 0, .int .u16 0, .slice none 0 0] 8 (World.laidAll_os _ _ _)
      (World.shaped_of_ZipB (by kernel_rfl) (by kernel_rfl)) (by kernel_rfl) (by kernel_rfl) (by kernel_rfl) (laid_met os _)) ?_
  intro W base args ds gs before hval0 hW _ hwt hL _
  have hval : ∀ (j : Nat) t v, Tryz.f3.params[j]? = some t → args[j]? = some v → Value.okWide Tryz.prog W .any base t v := hval0
  have hW' := hW
  obtain ⟨p, q, hA0, hV, -, hfz, hnd⟩ := hW'
  have hA : DataW.TrodAll enc Tryz.prog W 0 (fun _ => true) true Tryz.f3.params.toList args.toList ds p := hA0
  rw [Tryz.params3] at hA hval
  obtain ⟨v0, v1, v2, d0, d1, d2, p0, p1, p2, rfl, rfl, rfl, h0, h1, h2⟩ := trodAll_three hA
  obtain ⟨rfl, rfl⟩ := trodVars_none hV
  obtain ⟨a0, rfl, rfl, rfl, w0⟩ := open_int Tryz.underlying22 (hval 0 22 v0 rfl rfl) h0
  obtain ⟨a1, rfl, rfl, rfl, w1⟩ := open_int Tryz.underlying22 (hval 1 22 v1 rfl rfl) h1
  have hw2 : ∀ n ∈ d2.weights Tryz.prog 23, n ≤ 140737488351232 := fun n hn => by
    have h := List.all_eq_true.1 hwt n (by
      rw [Tryz.params3]
      show n ∈ DataW.weightsEach Tryz.prog (22 :: (22 :: (23 :: _))) (_ :: (_ :: (d2 :: _)))
      rw [DataW.weightsEach, DataW.weightsEach, DataW.weightsEach]; exact List.mem_append_right _ (List.mem_append_right _ (List.mem_append_left _ hn)))
    exact of_decide_eq_true h
  obtain ⟨P, ba, bc, rfl, hP, hPl, hPe⟩ := open_ops (hval 2 23 v2 rfl rfl) h2 hw2
  have hb0 := bounds_u16 w0
  have hb1 := bounds_u16 w1
  obtain ⟨k0, rfl⟩ : ∃ k : Nat, a0 = k := ⟨a0.toNat, by omega⟩
  obtain ⟨k1, rfl⟩ : ∃ k : Nat, a1 = k := ⟨a1.toNat, by omega⟩
  clear hA0 hval0
  refine (walMatches_any k0 k1 (by omega) (by omega) ba bc P W hP hPl hPe (tab_of_laid hL)).mono fun e W' ⟨he, bel⟩ => ?_
  subst he
  exact ⟨_, rfl, law_post rfl rfl rfl readableWalMatches rfl hW bel⟩

theorem rowWalMatches : Rows.WalMatchesSaid :=
  OpenClaim.holds_of_wide 3 Tryz.f3 rfl rfl rfl rfl rfl rfl rfl ⟨rfl, rfl, rfl, rfl, rfl⟩ rfl rfl rfl rfl rfl namedWalMatches Tryz.func3 joinedWalMatches instWalMatches
    (by unfold Func.isWrapper; rw [if_neg (by decide +kernel)]; exact ⟨rfl, rfl⟩)
    (fun os started H enc _ => liftedWalMatches os started H enc)

theorem walMatches_holds : Rows.WalMatchesCardSaid :=
  Claim7.holds_tied_plain_at .later [] [.data, .data, .data, .data, .pinned] true _ false
    rowWalMatches (fun _ h => by cases h) byTextWalMatches (fun _ h => by cases h) walMatches_row_tie rfl ⟨rfl, rfl⟩ wfMain rfl
    (fun f fn hf hfn => by
      obtain rfl : f = 3 := Option.some.inj (namedWalMatches.symm.trans hf) |>.symm
      obtain rfl : fn = Tryz.f3 := (Option.some.inj (Tryz.func3.symm.trans hfn)).symm
      exact ⟨wfLooks.symm, standWalMatches⟩)
    goesWalMatches
#print axioms walMatches_holds
end Go.Proofs.YtgdmdbdljmlkkaaGreatDoor
