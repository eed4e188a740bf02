/- The given statement WalDurable holds: for every input the law returns true, the five tables tied to the program's text. -/
import Derived.Test.YtnmlbjgnemmigaaGreatDoorOpenLists
import Derived.Test.YtnmlbjgnemmigaaGreatDoorWalDurable
import Derived.Test.YtnmlbjgnemmigaaGreatDoorWalDurableFacts
namespace Go.Proofs.YtnmlbjgnemmigaaGreatDoor
set_option linter.unusedVariables false
set_option linter.unusedSimpArgs false
open Go.ChangeShapes Go.WideShapes Go.ChangeAt Go.RowKit

set_option maxRecDepth 100000 in
theorem liftedWalDurable (os : Os) (started : os.Started) (H : Type) (enc : TypeId × Value → H) :
    ReturnsInHanded {} Tryz.checked os 5 .any (fun w args => (Rows.walDurableSpec.pre enc Tryz.prog Tryz.f5 [] false w args ∧ laidMetH Tryz.prog laidD w) ∧ sizedMet enc Tryz.prog Tryz.f5 (OpenSpec.ofChange Rows.walDurableSpec) false w args)
      (Rows.walDurableSpec.post enc Tryz.prog Tryz.f5 false true false false) := by
  refine returnsInHanded_of_change_and (C := Tryz.checked) (X := fun w _ => laidMetH Tryz.prog laidD w) (fun _ _ _ hh h => h.of_heap hh) own started (by kernel_rfl) Tryz.func5
    (ChangeSpec.witness_shaped (enc := enc) (C := Tryz.checked) (os := os) (X := fun w _ => laidMetH Tryz.prog laidD w) false (World.laidAll Tryz.prog os laidD) #[.int .u16 0, .agg #[.slice none 0 0, .slice none 0 0], .int .i64 0] 8 (World.laidAll_os _ _ _)
      (World.shaped_of_ZipB (by kernel_rfl) (by kernel_rfl)) (by kernel_rfl) (by kernel_rfl) (by kernel_rfl) (laid_met os _)) ?_
  intro W base args ds gs before hval0 hW _ hwt hL _
  have hval : ∀ (j : Nat) t v, Tryz.f5.params[j]? = some t → args[j]? = some v → Value.okWide Tryz.prog W .any base t v := hval0
  have hW' := hW
  obtain ⟨p, q, hA0, hV, -, hfz, hnd⟩ := hW'
  have hA : DataW.TrodAll enc Tryz.prog W 0 (fun _ => true) true Tryz.f5.params.toList args.toList ds p := hA0
  rw [Tryz.params5] at hA hval
  obtain ⟨v0, v1, v2, d0, d1, d2, p0, p1, p2, rfl, rfl, rfl, h0, h1, h2⟩ := trodAll_three hA
  obtain ⟨rfl, rfl⟩ := trodVars_none hV
  obtain ⟨a0, rfl, rfl, rfl, w0⟩ := open_int Tryz.underlying22 (hval 0 22 v0 rfl rfl) h0
  have hw1 : ∀ n ∈ d1.weights Tryz.prog 57, n ≤ 140737488351232 := fun n hn => by
    have h := List.all_eq_true.1 hwt n (by
      rw [Tryz.params5]
      show n ∈ DataW.weightsEach Tryz.prog (22 :: (57 :: _)) (_ :: (d1 :: _))
      rw [DataW.weightsEach, DataW.weightsEach]; exact List.mem_append_right _ (List.mem_append_left _ hn))
    exact of_decide_eq_true h
  obtain ⟨P, ba, bc, P2, ba2, bc2, rfl, ⟨hP, hPl, hPe⟩, ⟨hP2, hPl2, hPe2⟩⟩ := open_pair (hval 1 57 v1 rfl rfl) h1 hw1
  obtain ⟨kp, rfl, rfl, rfl, w2⟩ := open_int Tryz.underlying3 (hval 2 3 v2 rfl rfl) h2
  have hb0 := bounds_u16 w0
  obtain ⟨k0, rfl⟩ : ∃ k : Nat, a0 = k := ⟨a0.toNat, by omega⟩
  clear hA0 hval0
  refine (walDurable_any k0 (by omega) ba bc P ba2 bc2 P2 kp W hP hPl hPe hP2 hPl2 hPe2 (tab_of_laid hL)).mono fun e W' ⟨he, bel⟩ => ?_
  subst he
  exact ⟨_, rfl, law_post rfl rfl rfl readableWalDurable rfl hW bel⟩

theorem rowWalDurable : Rows.WalDurableSaid :=
  OpenClaim.holds_of_wide 5 Tryz.f5 rfl rfl rfl rfl rfl rfl rfl ⟨rfl, rfl, rfl, rfl, rfl⟩ rfl rfl rfl rfl rfl namedWalDurable Tryz.func5 joinedWalDurable instWalDurable
    (by unfold Func.isWrapper; rw [if_neg (by decide +kernel)]; exact ⟨rfl, rfl⟩)
    (fun os started H enc _ => liftedWalDurable os started H enc)

theorem walDurable_holds : Rows.WalDurableCardSaid :=
  Claim7.holds_tied_plain_at .later [] [.data, .data, .data, .data, .pinned] true _ false
    rowWalDurable (fun _ h => by cases h) byTextWalDurable (fun _ h => by cases h) walDurable_row_tie rfl ⟨rfl, rfl⟩ wfMain rfl
    (fun f fn hf hfn => by
      obtain rfl : f = 5 := Option.some.inj (namedWalDurable.symm.trans hf) |>.symm
      obtain rfl : fn = Tryz.f5 := (Option.some.inj (Tryz.func5.symm.trans hfn)).symm
      exact ⟨wfLooks.symm, standWalDurable⟩)
    goesWalDurable
#print axioms walDurable_holds
end Go.Proofs.YtnmlbjgnemmigaaGreatDoor
