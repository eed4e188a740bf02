/- TrimCompactsProof: for trimCompacts_holds. -/
import Derived.Test.YtgdmdbdljmlkkaaGreatDoorTc01
import Derived.Test.YtgdmdbdljmlkkaaGreatDoorTc02
import Derived.Test.YtgdmdbdljmlkkaaGreatDoorTt38
import Derived.Test.YtgdmdbdljmlkkaaGreatDoorTt42
import Derived.JoinedOf
set_option linter.unusedVariables false
set_option linter.unusedSimpArgs false
namespace Go.Proofs.YtgdmdbdljmlkkaaGreatDoor
open Go.ChangeShapes Go.WideShapes
set_option maxRecDepth 100000
theorem andTwoTrimCompacts {a b : Bool} (ha : a = true) (hb : b = true) : (a && b) = true := by rw [ha, hb]; rfl
theorem namedTrimCompacts : Tryz.prog.funcNamed Rows.trimCompactsRow.func = some 10 := by kernel_rfl
set_option maxHeartbeats 0 in
theorem joinedTrimCompacts : joinedFacts Tryz.prog 10 Tryz.f10 Rows.trimCompactsSpec Rows.trimCompactsRow = true := by
  unfold joinedFacts
  rw [wfLaid, wfMaps, wfStops, wfKnobs, wfHeard, wfEnter, wfLifts, wfMake, wfKeys]
  repeat' (with_reducible apply andTwoTrimCompacts)
  all_goals (as_aux_lemma => kernel_rfl)
theorem instTrimCompacts : Tryz.f10.isInstance Tryz.prog Rows.trimCompactsRow.origin Rows.trimCompactsRow.targs :=
  of_decide_eq_true (by kernel_rfl)
theorem readableTrimCompacts : ∀ t ∈ Tryz.f10.params.toList, Tryz.prog.readableRec t = true ∧ t < Tryz.prog.types.size := by
  rw [Tryz.params10]
  intro t ht
  have hall : ([87, 80, 5].all fun u => Tryz.prog.readableRec u && decide (u < Tryz.prog.types.size)) = true := by kernel_rfl
  have h := List.all_eq_true.1 hall t (by simpa using ht)
  simpa using h
theorem standTrimCompacts (j : Nat) (t : TypeId) (ht : Tryz.f10.params[j]? = some t) : Tryz.prog.wantsStandIn t = false := by
  rw [Tryz.params10] at ht
  have hm : t ∈ [87, 80, 5] := by simpa using Array.mem_of_getElem? ht
  have hall : ([87, 80, 5].all fun u => !Tryz.prog.wantsStandIn u) = true := by kernel_rfl
  simpa using List.all_eq_true.1 hall t hm
theorem goesTrimCompacts : false = Rows.trimCompactsRow.goesBy Tryz.prog := by kernel_rfl
theorem byTextTrimCompacts : Rows.trimCompactsRow.wfByText (OpenSpec.ofChange Rows.trimCompactsSpec) = true := by kernel_rfl
end Go.Proofs.YtgdmdbdljmlkkaaGreatDoor
namespace Go.Proofs.YtgdmdbdljmlkkaaGreatDoor
open Go.ChangeShapes Go.WideShapes Go.ChangeAt Go.RowKit
set_option maxRecDepth 100000 in
theorem open_two_u16 {H : Type} {enc : TypeId × Value → H} {W : World} {base b0 : Nat} {sp : Nat → Bool} {held : Bool} {v : Value} {d : DataW H} {p : List MemPlace} (hval : Value.okWide Tryz.prog W .any b0 87 v)
    (h : DataW.Trod enc Tryz.prog W base sp held 87 v d p) :
    ∃ a b : Int, v = .agg #[.int .u16 a, .int .u16 b] ∧ (Lit.int .u16 a).wf = true ∧ (Lit.int .u16 b).wf = true := by
  obtain ⟨cs, rfl, hcs⟩ : ∃ cs, v = .agg cs ∧ cs.size = Tryz.prog.cellsOf 87 := by
    simp only [Value.okWide, Tryz.underlying87] at hval
    obtain ⟨cs, h1, h2, _⟩ := hval
    exact ⟨cs, h1, h2⟩
  have hC : Tryz.prog.cellsOf 87 = 2 := by kernel_rfl
  have hC1 : Tryz.prog.cellsOf 22 = 1 := by kernel_rfl
  rw [hC] at hcs
  obtain ⟨c0, c1, rfl⟩ : ∃ c0 c1, cs = #[c0, c1] := by
    obtain ⟨l⟩ := cs
    match l, hcs with
    | [c0, c1], _ => exact ⟨c0, c1, rfl⟩
  obtain ⟨fuel, hf⟩ := h
  obtain ⟨xs, m, rfl, hx, -, hlen, hget⟩ := DataW.trod_array Tryz.underlying87 hf
  have g0 := hget 0 (by omega)
  have g1 := hget 1 (by omega)
  rw [hC1] at g0 g1
  match xs, hlen, g0, g1 with
  | [(d0, p0), (d1, p1)], _, g0, g1 =>
    obtain ⟨a, h0, -, w0⟩ := DataW.trod_int Tryz.underlying22 (show DataW.trod enc Tryz.prog W base sp held m 22 [c0] = some (d0, p0) from g0)
    obtain ⟨b, h1, -, w1⟩ := DataW.trod_int Tryz.underlying22 (show DataW.trod enc Tryz.prog W base sp held m 22 [c1] = some (d1, p1) from g1)
    simp only [List.cons.injEq, and_true] at h0 h1
    exact ⟨a, b, by rw [h0, h1], w0, w1⟩
set_option maxRecDepth 100000 in
theorem liftedTrimCompacts (os : Os) (started : os.Started) (H : Type) (enc : TypeId × Value → H) :
    ReturnsInHanded {} Tryz.checked os 10 .any (fun w args => (Rows.trimCompactsSpec.pre enc Tryz.prog Tryz.f10 [] false w args ∧ laidMetH Tryz.prog laidD w) ∧ sizedMet enc Tryz.prog Tryz.f10 (OpenSpec.ofChange Rows.trimCompactsSpec) false w args)
      (Rows.trimCompactsSpec.post enc Tryz.prog Tryz.f10 false true false false) := by
  refine returnsInHanded_of_change_and (C := Tryz.checked) (X := fun w _ => laidMetH Tryz.prog laidD w) (fun _ _ _ hh h => h.of_heap hh) own started (by kernel_rfl) Tryz.func10
    (ChangeSpec.witness_shaped (enc := enc) (C := Tryz.checked) (os := os) (X := fun w _ => laidMetH Tryz.prog laidD w) false (World.laidAll Tryz.prog os laidD) #[.agg #[.int .u16 0, .int .u16 0], .agg #[.slice none 0 0, .slice none 0 0], .int .u8 0] 8 (World.laidAll_os _ _ _)
      (World.shaped_of_ZipB (by kernel_rfl) (by kernel_rfl)) (by kernel_rfl) (by kernel_rfl) (by kernel_rfl) (laid_met os _)) ?_
  intro W base args ds gs before hval0 hW _ hwt hL _
  have hval : ∀ (j : Nat) t v, Tryz.f10.params[j]? = some t → args[j]? = some v → Value.okWide Tryz.prog W .any base t v := hval0
  have hW' := hW
  obtain ⟨p, q, hA0, hV, -, hfz, hnd⟩ := hW'
  have hA : DataW.TrodAll enc Tryz.prog W 0 (fun _ => true) true Tryz.f10.params.toList args.toList ds p := hA0
  rw [Tryz.params10] at hA hval
  obtain ⟨v0, v1, v2, d0, d1, d2, p0, p1, p2, rfl, rfl, rfl, h0, h1, h2⟩ := trodAll_three hA
  obtain ⟨rfl, rfl⟩ := trodVars_none hV
  have hw1 : ∀ n ∈ d1.weights Tryz.prog 80, n ≤ 140737488351232 := fun n hn => by
    have h := List.all_eq_true.1 hwt n (by
      rw [Tryz.params10]
      show n ∈ DataW.weightsEach Tryz.prog (87 :: (80 :: _)) (_ :: (d1 :: _))
      rw [DataW.weightsEach, DataW.weightsEach]; exact List.mem_append_right _ (List.mem_append_left _ hn))
    exact of_decide_eq_true h
  obtain ⟨ma, sa, rfl, wm, ws⟩ := open_two_u16 (hval 0 87 v0 rfl rfl) h0
  obtain ⟨P, ba, bc, P2, ba2, bc2, rfl, ⟨hP, hPl, hPe⟩, ⟨hP2, hPl2, hPe2⟩⟩ := open_pair (hval 1 80 v1 rfl rfl) h1 hw1
  obtain ⟨a0, rfl, rfl, rfl, w0⟩ := open_int Tryz.underlying5 (hval 2 5 v2 rfl rfl) h2
  have hb0 := bounds_u16 wm
  have hb1 := bounds_u16 ws
  have hb2 := bounds_u8 w0
  clear hA0 hval0
  refine (trimCompacts_any ma sa a0 hb0 hb1 hb2 ba bc P ba2 bc2 P2 W hP hPl hPe hP2 hPl2 hPe2 (tab_of_laid hL)).mono fun e W' ⟨he, bel⟩ => ?_
  subst he
  exact ⟨_, rfl, law_post rfl rfl rfl readableTrimCompacts rfl hW bel⟩
theorem rowTrimCompacts : Rows.TrimCompactsSaid :=
  OpenClaim.holds_of_wide 10 Tryz.f10 rfl rfl rfl rfl rfl rfl rfl ⟨rfl, rfl, rfl, rfl, rfl⟩ rfl rfl rfl rfl rfl namedTrimCompacts Tryz.func10 joinedTrimCompacts instTrimCompacts
    (by unfold Func.isWrapper; rw [if_neg (by decide +kernel)]; exact ⟨rfl, rfl⟩)
    (fun os started H enc _ => liftedTrimCompacts os started H enc)
theorem trimCompacts_holds : Rows.TrimCompactsCardSaid :=
  Claim7.holds_tied_plain_at .later [] [.data, .data, .data, .data, .pinned] true _ false
    rowTrimCompacts (fun _ h => by cases h) byTextTrimCompacts (fun _ h => by cases h) trimCompacts_row_tie rfl ⟨rfl, rfl⟩ wfMain rfl
    (fun f fn hf hfn => by
      obtain rfl : f = 10 := Option.some.inj (namedTrimCompacts.symm.trans hf) |>.symm
      obtain rfl : fn = Tryz.f10 := (Option.some.inj (Tryz.func10.symm.trans hfn)).symm
      exact ⟨wfLooks.symm, standTrimCompacts⟩)
    goesTrimCompacts
#print axioms trimCompacts_holds
end Go.Proofs.YtgdmdbdljmlkkaaGreatDoor
