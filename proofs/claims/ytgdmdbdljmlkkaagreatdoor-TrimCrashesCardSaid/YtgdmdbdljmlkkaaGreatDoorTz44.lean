/- TrimCrashesProof -/
import Derived.Test.YtgdmdbdljmlkkaaGreatDoorTz42
import Derived.Test.YtgdmdbdljmlkkaaGreatDoorTz43
import Derived.ChangeArms
import Derived.Deep.Slices
import Derived.JoinedOf
set_option maxRecDepth 100000
set_option linter.unusedVariables false
set_option linter.unusedSimpArgs false
namespace Go.Proofs.YtgdmdbdljmlkkaaGreatDoor
open Go.ChangeShapes Go.WideShapes
theorem andTwoTrimCrashes {a b : Bool} (ha : a = true) (hb : b = true) : (a && b) = true := by rw [ha, hb]; rfl
theorem namedTrimCrashes : Tryz.prog.funcNamed Rows.trimCrashesRow.func = some 13 := by kernel_rfl
set_option maxHeartbeats 0 in
theorem joinedTrimCrashes : joinedFacts Tryz.prog 13 Tryz.f13 Rows.trimCrashesSpec Rows.trimCrashesRow = true := by
 unfold joinedFacts
 rw [wfLaid, wfMaps, wfStops, wfKnobs, wfHeard, wfEnter, wfLifts, wfMake, wfKeys]
 repeat' (with_reducible apply andTwoTrimCrashes)
 all_goals (as_aux_lemma => kernel_rfl)
theorem instTrimCrashes : Tryz.f13.isInstance Tryz.prog Rows.trimCrashesRow.origin Rows.trimCrashesRow.targs :=
 of_decide_eq_true (by kernel_rfl)
theorem readableTrimCrashes : ∀ t ∈ Tryz.f13.params.toList, Tryz.prog.readableRec t = true ∧ t < Tryz.prog.types.size := by
 rw [Tryz.params13]
 intro t ht
 have hall : ([80, 5, 40].all fun u => Tryz.prog.readableRec u && decide (u < Tryz.prog.types.size)) = true := by kernel_rfl
 have h := List.all_eq_true.1 hall t (by simpa using ht)
 simpa using h
theorem standTrimCrashes (j : Nat) (t : TypeId) (ht : Tryz.f13.params[j]? = some t) : Tryz.prog.wantsStandIn t = false := by
 rw [Tryz.params13] at ht
 have hm : t ∈ [80, 5, 40] := by simpa using Array.mem_of_getElem? ht
 have hall : ([80, 5, 40].all fun u => !Tryz.prog.wantsStandIn u) = true := by kernel_rfl
 simpa using List.all_eq_true.1 hall t hm
theorem goesTrimCrashes : false = Rows.trimCrashesRow.goesBy Tryz.prog := by kernel_rfl
theorem byTextTrimCrashes : Rows.trimCrashesRow.wfByText (OpenSpec.ofChange Rows.trimCrashesSpec) = true := by kernel_rfl
end Go.Proofs.YtgdmdbdljmlkkaaGreatDoor
namespace Go.Proofs.YtgdmdbdljmlkkaaGreatDoor
open Go.ChangeShapes Go.WideShapes Go.ChangeAt Go.RowKit
theorem cellsInt : Tryz.prog.cellsOf 3 = 1 := by kernel_rfl
theorem open_nums {H : Type} {enc : TypeId × Value → H} {W : World} {sp : Nat → Bool} {held : Bool} {base fuel : Nat} {c : Value} {x : DataW H × List MemPlace} (hf : DataW.trod enc Tryz.prog W base sp held fuel 40 [c] = some x) :
   ∃ (b : List Int) (a : Option Addr) (k : Nat), c = .slice a b.length k ∧ Reads W (.slice a b.length k) b.length 1 (b.map (Value.int .i64)) ∧ (∀ ad, a = some ad → 0 < b.length → ad.block < W.heap.size) ∧ b.length ≤ maxLen := by
 rcases open_ints Tryz.underlying40 Tryz.underlying3 cellsInt hf with ⟨hcs, hx⟩ | ⟨a, len, cap, zs, hcs, _, hl, hm, hz, hx, hcell, hwz⟩
 · simp only [List.cons.injEq, and_true] at hcs
   subst hcs
   exact ⟨[], none, 0, rfl, Reads.nil _ _, (fun ad h _ => by cases h), Nat.zero_le _⟩
 · simp only [List.cons.injEq, and_true] at hcs
   subst hcs
   have hzl : len ≤ zs.length := by rw [hz]; split <;> omega
   have hlen : (zs.take len).length = len := by simp; omega
   have hrd : Reads W (.slice (some a) len cap) len 1 ((zs.take len).map (Value.int .i64)) := by
     refine ⟨by rw [List.length_map, hlen, Nat.mul_one], _, cap, rfl, hl, (fun h => by cases h), fun ad had j u hu => ?_⟩
     cases had
     have hj : j < len := by have := (List.getElem?_eq_some_iff.1 hu).1; rw [List.length_map, hlen] at this; exact this
     rw [hcell j (by omega), ← hu, List.getElem?_map, List.getElem?_take_of_lt hj, List.getElem?_eq_getElem (show j < zs.length by omega)]
     simp only [Option.map_some, List.getD_eq_getElem?_getD, List.getElem?_eq_getElem (show j < zs.length by omega), Option.getD_some]
   refine ⟨zs.take len, some a, cap, by rw [hlen], by rw [hlen]; exact hrd, fun ad had h0 => ?_, by rw [hlen]; omega⟩
   cases had
   rw [hlen] at h0
   exact World.block_lt_of_cell? W a (by have := hcell 0 (by omega); simpa [Addr.add] using this)
theorem open_keep {H : Type} {enc : TypeId × Value → H} {W : World} {base b0 : Nat} {sp : Nat → Bool} {held : Bool} {v : Value} {d : DataW H} {p : List MemPlace} (hval : Value.okWide Tryz.prog W .any b0 40 v) (h : DataW.Trod enc Tryz.prog W base sp held 40 v d p) :
   ∃ (ks : List Int) (a : Option Addr) (c : Nat), v = .slice a ks.length c ∧ Reads W (.slice a ks.length c) ks.length 1 (ks.map (Value.int .i64)) ∧ ks.length ≤ maxLen := by
 obtain ⟨a0, len0, cap0, rfl⟩ := okWide_slice Tryz.underlying40 hval
 obtain ⟨fuel, hf⟩ := h
 obtain ⟨b, a, k, h1, h2, -, h4⟩ := open_nums hf
 exact ⟨b, a, k, h1, h2, h4⟩
theorem liftedTrimCrashes (os : Os) (started : os.Started) (H : Type) (enc : TypeId × Value → H) :
   ReturnsInHanded {} Tryz.checked os 13 .any (fun w args => (Rows.trimCrashesSpec.pre enc Tryz.prog Tryz.f13 [] false w args ∧ laidMetH Tryz.prog laidD w) ∧ sizedMet enc Tryz.prog Tryz.f13 (OpenSpec.ofChange Rows.trimCrashesSpec) false w args)
     (Rows.trimCrashesSpec.post enc Tryz.prog Tryz.f13 false true false false) := by
 refine returnsInHanded_of_change_and (C := Tryz.checked) (X := fun w _ => laidMetH Tryz.prog laidD w) (fun _ _ _ hh h => h.of_heap hh) own started (by kernel_rfl) Tryz.func13
   (ChangeSpec.witness_shaped (enc := enc) (C := Tryz.checked) (os := os) (X := fun w _ => laidMetH Tryz.prog laidD w) false (World.laidAll Tryz.prog os laidD) #[.agg #[.slice none 0 0, .slice none 0 0], .int .u8 0, .slice none 0 0] 8 (World.laidAll_os _ _ _)
     (World.shaped_of_ZipB (by kernel_rfl) (by kernel_rfl)) (by kernel_rfl) (by kernel_rfl) (by kernel_rfl) (laid_met os _)) ?_
 intro W base args ds gs before hval0 hW _ hwt hL _
 have hval : ∀ (j : Nat) t v, Tryz.f13.params[j]? = some t → args[j]? = some v → Value.okWide Tryz.prog W .any base t v := hval0
 have hW' := hW
 obtain ⟨p, q, hA0, hV, -, hfz, hnd⟩ := hW'
 have hA : DataW.TrodAll enc Tryz.prog W 0 (fun _ => true) true Tryz.f13.params.toList args.toList ds p := hA0
 rw [Tryz.params13] at hA hval
 obtain ⟨v0, v1, v2, d0, d1, d2, p0, p1, p2, rfl, rfl, rfl, h0, h1, h2⟩ := trodAll_three hA
 obtain ⟨rfl, rfl⟩ := trodVars_none hV
 have hw0 : ∀ n ∈ d0.weights Tryz.prog 80, n ≤ 140737488351232 := fun n hn => by
   have h := List.all_eq_true.1 hwt n (by
     rw [Tryz.params13]
     show n ∈ DataW.weightsEach Tryz.prog (80 :: _) (d0 :: _)
     rw [DataW.weightsEach]; exact List.mem_append_left _ hn)
   exact of_decide_eq_true h
 obtain ⟨P, ba, bc, P2, ba2, bc2, rfl, ⟨hP, hPl, hPe⟩, ⟨hP2, hPl2, hPe2⟩⟩ := open_pair (hval 0 80 v0 rfl rfl) h0 hw0
 obtain ⟨a0, rfl, rfl, rfl, w0⟩ := open_int Tryz.underlying5 (hval 1 5 v1 rfl rfl) h1
 obtain ⟨ks, ka, kc, rfl, hK, hKl⟩ := open_keep (hval 2 40 v2 rfl rfl) h2
 have hb0 := bounds_u8 w0
 clear hA0 hval0
 refine (trimCrashes_any a0 hb0 ba bc P ba2 bc2 P2 ka kc ks W hP hPl hPe hP2 hPl2 hPe2 hK (by unfold maxLen at hKl; omega) (tab_of_laid hL)).mono fun e W' ⟨he, bel⟩ => ?_
 subst he
 exact ⟨_, rfl, law_post rfl rfl rfl readableTrimCrashes rfl hW bel⟩
theorem rowTrimCrashes : Rows.TrimCrashesSaid :=
 OpenClaim.holds_of_wide 13 Tryz.f13 rfl rfl rfl rfl rfl rfl rfl ⟨rfl, rfl, rfl, rfl, rfl⟩ rfl rfl rfl rfl rfl namedTrimCrashes Tryz.func13 joinedTrimCrashes instTrimCrashes
   (by unfold Func.isWrapper; rw [if_neg (by decide +kernel)]; exact ⟨rfl, rfl⟩)
   (fun os started H enc _ => liftedTrimCrashes os started H enc)
theorem trimCrashes_holds : Rows.TrimCrashesCardSaid :=
 Claim7.holds_tied_plain_at .later [] [.data, .data, .data, .data, .pinned] true _ false
   rowTrimCrashes (fun _ h => by cases h) byTextTrimCrashes (fun _ h => by cases h) trimCrashes_row_tie rfl ⟨rfl, rfl⟩ wfMain rfl
   (fun f fn hf hfn => by
     obtain rfl : f = 13 := Option.some.inj (namedTrimCrashes.symm.trans hf) |>.symm
     obtain rfl : fn = Tryz.f13 := (Option.some.inj (Tryz.func13.symm.trans hfn)).symm
     exact ⟨wfLooks.symm, standTrimCrashes⟩)
   goesTrimCrashes
#print axioms trimCrashes_holds
end Go.Proofs.YtgdmdbdljmlkkaaGreatDoor
