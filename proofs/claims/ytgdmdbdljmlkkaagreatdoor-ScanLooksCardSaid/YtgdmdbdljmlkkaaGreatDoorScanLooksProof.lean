/- The law ScanLooks returns true.
The closed facts of the row ScanLooks, each a lemma of its own.
The given statement ScanLooks holds: for every input the law returns true, the five tables tied to the program's text. -/
import Derived.Test.YtgdmdbdljmlkkaaGreatDoorScan7
import Derived.Test.YtgdmdbdljmlkkaaGreatDoorOpenFiles
import Derived.Test.YtgdmdbdljmlkkaaGreatDoorRFindW
import Derived.Test.YtgdmdbdljmlkkaaGreatDoorScSame
import Derived.Test.YtgdmdbdljmlkkaaGreatDoorWideFacts
import Derived.JoinedOf
namespace Go.Proofs.YtgdmdbdljmlkkaaGreatDoor
set_option linter.unusedVariables false
set_option linter.unusedSimpArgs false
open Go.RowKit

theorem findS_bad (D : DS) : (findS D).code = 0 ∨ ((findS D).recs = [] ∧ (findS D).torn = 0) := by
  unfold findS
  split
  · exact .inr ⟨rfl, rfl⟩
  · unfold findG
    split
    · exact .inl rfl
    · split
      · exact .inl rfl
      · exact .inr ⟨rfl, rfl⟩

/-- What Look gives, whether there is a log or none. -/
theorem look_both {w w' : World} {f : FR} {e : Ending} (hf : f.code = 0 ∨ (f.recs = [] ∧ f.torn = 0)) (h : LookP w f e w') :
    Below w.heap.size w w' ∧ ∃ ra rc, ∃ P : List SL, e = .returned (.tuple #[.slice ra P.length rc, .int .i64 f.code]) ∧ SLs w' (.slice ra P.length rc) P ∧ P.map SL.l = f.recs := by
  obtain ⟨hb, ⟨h1, rfl⟩ | ⟨h1, ra, rc, X, rfl, h2, h3, h4⟩⟩ := h
  · refine ⟨hb, none, 0, [], rfl, ⟨Reads.nil _ _, by simp⟩, ?_⟩
    rcases hf with h | h
    · exact absurd h h1
    · rw [h.1]; rfl
  · refine ⟨hb, ra, rc, X.map slOf, ?_, ?_, ?_⟩
    · rw [List.length_map, h1]
    · rw [List.length_map]; exact sls_rx h2 h3
    · rw [List.map_map, ← h4]; rfl

set_option maxRecDepth 100000 in
set_option maxHeartbeats 4000000 in
theorem scanLooks_any (room : Int) (a0 : Option Addr) (c0 : Nat) (P : List FI) (w : World) (h : FIs w (.slice a0 P.length c0) P) (hl : P.length ≤ 3518437208780) (ht : Tab w) :
    Calls Tryz.prog 5 #[.int .i64 room, .slice a0 P.length c0] w fun e w' => e = .returned (.bool true) ∧ Below w.heap.size w w' := by
  have HT := Lib.hid ht
  have HF := Lib.hid (files_any room a0 c0 P w h hl)
  clear h ht
  go_enter Tryz.func5, Tryz.ntmps5
  go_wp2_with fail
  refine HF.out.mono ?_
  rintro e w1 ⟨bx, D, S, rm, a, c, R, pl, dn, T, ok, rfl, hd, hr, hS, hTT, hrel, hb, hok⟩
  unfold rdisk
  have HBA : Hid (Below w.heap.size w (w1.alloc (.cells #[.int .i64 rm, .slice a R.length c, .int .i64 pl, .bool dn] 32))) := hb.alloc hb.size _
  have hba1 : Below w1.heap.size w1 (w1.alloc (.cells #[.int .i64 rm, .slice a R.length c, .int .i64 pl, .bool dn] 32)) := (Below.refl _ _).alloc (Nat.le_refl _) _
  have HDA := Lib.hid (hd.frame (fun k hk hl => hba1.block k hl))
  have HRA := Lib.hid (hr.below hba1)
  have HXA : Hid ((w1.alloc (.cells #[.int .i64 rm, .slice a R.length c, .int .i64 pl, .bool dn] 32)).heap[w1.heap.size]? = some (.cells #[.int .i64 rm, .slice a R.length c, .int .i64 pl, .bool dn] 32 (0, 0))) := heap_alloc_new _ _
  have HREL := Lib.hid hrel
  clear hr hTT hrel hb hd hS HF hba1
  cases ok with
  | false =>
    clear hok
    go_upto_region 2 with fail
    generalize w1.alloc (.cells #[.int .i64 rm, .slice a R.length c, .int .i64 pl, .bool dn] 32) = wa at *
    go_wp2_with fail
    refine (scalive_any wa (tab_below HT.out HBA.out)).mono ?_
    rintro e w2 ⟨rfl, hb2⟩
    have HB2 := Lib.hid (HBA.out.trans (hb2.mono HBA.out.size))
    clear hb2
    go_wp2
    go_ret
    exact ⟨rfl, HB2.out⟩
  | true =>
    obtain ⟨-, -, hbn⟩ := hok rfl
    clear hok
    go_upto_region 2 with fail
    generalize w1.alloc (.cells #[.int .i64 rm, .slice a R.length c, .int .i64 pl, .bool dn] 32) = wa at *
    have HBN := Lib.hid hbn
    have hnm : ∀ f ∈ D.files, f.name.size ≤ maxLen := fun f hf => by have := hbn.nm f hf; unfold maxLen; omega
    have hRl : R.length ≤ 1000 := by have h1 := HREL.out.len; have h2 := hbn.len; simp only [List.length_map] at h1; omega
    have hRb : ∀ r ∈ R, r.f.b.length ≤ 100000 := fun r hr => by
      have h1 := len_le_sum (List.mem_map_of_mem (f := RF.f) hr)
      have h2 : sumD D.files = sumD (R.map RF.f) := HREL.out.sum
      have h3 := hbn.sum
      omega
    have HLK := Lib.hid (look_any (.pointer (some ⟨bx, 0, none⟩)) D S wa HDA.out (tab_below HT.out HBA.out) (by have := hbn.len; omega) (by have := hbn.sum; omega) hnm)
    have HTO : Hid (∀ w', Hid (Below wa.heap.size wa w') → Calls Tryz.prog 33 #[.pointer (some ⟨bx, 0, none⟩)] w' fun e w'' => e = .returned (.int .i64 (findS D).torn) ∧ Below w'.heap.size w' w'') := fun w' hb => by
      have h1 := torn_any (.pointer (some ⟨bx, 0, none⟩)) D S w' (HDA.out.frame (fun k _ hk => hb.out.block k hk)) (tab_below HT.out (HBA.out.trans (hb.out.mono HBA.out.size))) (by have := hbn.len; omega) (by have := hbn.sum; omega) hnm
      have e : (if (findS D).code = 0 then ((findS D).torn : Int) else 0) = (findS D).torn := by
        rcases findS_bad D with h | h
        · rw [if_pos h]
        · rw [h.2]; split <;> rfl
      rwa [e] at h1
    have HSA : Hid (∀ w', Hid (Below wa.heap.size wa w') → Calls Tryz.prog 30 #[.pointer (some ⟨bx, 0, none⟩), .agg #[.int .i64 rm, .slice a R.length c, .int .i64 pl, .bool dn]] w' fun e w'' => e = .returned (.bool true) ∧ Below w'.heap.size w' w'') := fun w' hb =>
      scsame_any _ D S rm pl dn _ R T w' (HDA.out.frame (fun k _ hk => hb.out.block k hk)) (HRA.out.below hb.out) HREL.out (by have := hbn.sum; omega) (by omega) hnm
    have HAL : Hid (∀ w', Hid (Below wa.heap.size wa w') → Calls Tryz.prog 25 #[] w' fun e w'' => e = .returned (.bool true) ∧ Below w'.heap.size w' w'') := fun w' hb =>
      scalive_any w' (tab_below HT.out (HBA.out.trans (hb.out.mono HBA.out.size)))
    have HFI : Hid (∀ w', Hid (Below wa.heap.size wa w') → Calls Tryz.prog 32 #[.agg #[.int .i64 rm, .slice a R.length c, .int .i64 pl, .bool dn]] w' (RFindP w' ⟨rm, R.map RF.f, pl, dn⟩ (findS D))) := fun w' hb => by
      have h1 := rfindlog_any rm pl dn _ R T w' (HRA.out.below hb.out) hRl hRb
      rwa [← rel_find HREL.out] at h1
    have HFB := Lib.hid (findS_bad D)
    generalize findS D = f at *
    clear hbn hnm hRl hRb HBN HREL HRA HDA
    go_wp2_with fail
    refine HLK.out.mono ?_
    intro e w2 hlk
    obtain ⟨hb2, ra, rc, PP, rfl, hsl2, hpl2⟩ := look_both HFB.out hlk
    have HA2 := Lib.hid hb2
    have HX2 := Lib.hid ((hb2.block _ (lt_of_heap HXA.out)).trans HXA.out)
    have HFC := Lib.hid (HFI.out w2 (Lib.hid hb2))
    have HS2 := Lib.hid hsl2
    have HP2 := Lib.hid hpl2
    obtain ⟨x0, x1, x2, x3⟩ := cells4 HX2.out
    clear hlk hb2 hsl2 hpl2 HLK HFI HXA
    go_wp2_with fail
    refine HFC.out.mono ?_
    rintro e w3 ⟨hb3, L, va, vr, ca, cr, first, X, rfl, hLr, hXr, hxx, hxl, -, -, hxn⟩
    have HA3 : Hid (Below wa.heap.size wa (w3.alloc (.cells (logV va L.length ca first f.last vr X.length cr f.front.length f.torn f.code) 61))) := by
      have h3 := HA2.out.trans (hb3.mono HA2.out.size)
      exact h3.alloc h3.size _
    have hb34 : Below w2.heap.size w2 (w3.alloc (.cells (logV va L.length ca first f.last vr X.length cr f.front.length f.torn f.code) 61)) := hb3.alloc hb3.size _
    have HX4 := Lib.hid ((hb34.block _ (lt_of_heap HX2.out)).trans HX2.out)
    have HY4 : Hid ((w3.alloc (.cells (logV va L.length ca first f.last vr X.length cr f.front.length f.torn f.code) 61)).heap[w3.heap.size]? = some (.cells (logV va L.length ca first f.last vr X.length cr f.front.length f.torn f.code) 61 (0, 0))) := heap_alloc_new _ _
    have HS4 := Lib.hid (HS2.out.later hb34)
    have HQ4 : Hid (SLs (w3.alloc (.cells (logV va L.length ca first f.last vr X.length cr f.front.length f.torn f.code) 61)) (.slice vr X.length cr) X) := by
      refine ⟨hXr.reads.later ((Below.refl _ _).alloc (Nat.le_refl _) _), fun x hx => (hxx x hx).2.later hb34⟩
    have HLE : Hid (PP.map SL.l = X.map SL.l) := by rw [Hid, HP2.out, hxl]
    have HLN : Hid (PP.length ≤ 1000000000) := by
      have h1 := congrArg List.length HLE.out
      rw [List.length_map, List.length_map] at h1
      rw [Hid]; omega
    clear hb3 hb34 hLr hXr hxx hxl hxn HFC HS2 HX2 x0 x1 x2 x3
    unfold logV at *
    go_upto_region 6 with fail
    generalize w3.alloc (.cells #[.slice va L.length ca, .int .i64 first, .int .i64 f.last, .slice vr X.length cr, .int .i64 f.front.length, .int .i64 f.torn, .int .i64 f.code] 61) = w4 at *
    have HK : Hid (∀ w', Hid (Below w4.heap.size w4 w') → (w'.cell? ⟨w1.heap.size, 0, none⟩ = some (.int .i64 rm) ∧ w'.cell? ⟨w1.heap.size, 1, none⟩ = some (.slice a R.length c) ∧ w'.cell? ⟨w1.heap.size, 2, none⟩ = some (.int .i64 pl) ∧ w'.cell? ⟨w1.heap.size, 3, none⟩ = some (.bool dn)) ∧ w'.cell? ⟨w3.heap.size, 3, none⟩ = some (.slice vr X.length cr) ∧ w'.cell? ⟨w3.heap.size, 5, none⟩ = some (.int .i64 f.torn) ∧ w'.cell? ⟨w3.heap.size, 6, none⟩ = some (.int .i64 f.code)) := fun w' hb => by
      have hy := (hb.out.block _ (lt_of_heap HY4.out)).trans HY4.out
      exact ⟨cells4 ((hb.out.block _ (lt_of_heap HX4.out)).trans HX4.out), cellAt hy 3 rfl, cellAt hy 5 rfl, cellAt hy 6 rfl⟩
    have HAL4 : Hid (∀ w', Hid (Below w4.heap.size w4 w') → Calls Tryz.prog 25 #[] w' fun e w'' => e = .returned (.bool true) ∧ Below w'.heap.size w' w'') := fun w' hb => HAL.out w' (Lib.hid (HA3.out.trans (hb.out.mono HA3.out.size)))
    have HTO4 : Hid (∀ w', Hid (Below w4.heap.size w4 w') → Calls Tryz.prog 33 #[.pointer (some ⟨bx, 0, none⟩)] w' fun e w'' => e = .returned (.int .i64 f.torn) ∧ Below w'.heap.size w' w'') := fun w' hb => HTO.out w' (Lib.hid (HA3.out.trans (hb.out.mono HA3.out.size)))
    have HSA4 : Hid (∀ w', Hid (Below w4.heap.size w4 w') → Calls Tryz.prog 30 #[.pointer (some ⟨bx, 0, none⟩), .agg #[.int .i64 rm, .slice a R.length c, .int .i64 pl, .bool dn]] w' fun e w'' => e = .returned (.bool true) ∧ Below w'.heap.size w' w'') := fun w' hb => HSA.out w' (Lib.hid (HA3.out.trans (hb.out.mono HA3.out.size)))
    have HRS4 : Hid (∀ w', Hid (Below w4.heap.size w4 w') → Calls Tryz.prog 21 #[.slice ra PP.length rc, .slice vr X.length cr] w' fun e w'' => e = .returned (.bool true) ∧ Below w'.heap.size w' w'') := fun w' hb =>
      rsameL_any _ _ PP X w' (HS4.out.later hb.out) (HQ4.out.later hb.out) HLE.out HLN.out
    have HB00 : Hid (Below w4.heap.size w4 w4.drew) := (Below.refl _ _).drew
    clear HAL HTO HSA HX4 HY4 HS4 HQ4 HLE HLN HP2
    go_region_held3 (fun w' => (w'.cell? ⟨w1.heap.size, 0, none⟩ = some (.int .i64 rm) ∧ w'.cell? ⟨w1.heap.size, 1, none⟩ = some (.slice a R.length c) ∧ w'.cell? ⟨w1.heap.size, 2, none⟩ = some (.int .i64 pl) ∧ w'.cell? ⟨w1.heap.size, 3, none⟩ = some (.bool dn)) ∧ w'.cell? ⟨w3.heap.size, 3, none⟩ = some (.slice vr X.length cr) ∧ w'.cell? ⟨w3.heap.size, 5, none⟩ = some (.int .i64 f.torn) ∧ w'.cell? ⟨w3.heap.size, 6, none⟩ = some (.int .i64 f.code)) (exact HK.out _ (by assumption))
      (first
      | (go_at_call 25; refine (HAL4.out _ (by assumption)).mono ?_; rintro e wb ⟨rfl, hba⟩
         have HBa := belh_step (w0 := w4) (by assumption) hba
         clear hba)
      | (go_at_call 21; refine (HRS4.out _ (by assumption)).mono ?_; rintro e wc ⟨rfl, hbb⟩
         have HBb := belh_step (w0 := w4) (by assumption) hbb
         clear hbb)
      | (go_at_call 33; refine (HTO4.out _ (by assumption)).mono ?_; rintro e wd ⟨rfl, hbc⟩
         have HBc := belh_step (w0 := w4) (by assumption) hbc
         clear hbc)
      | (go_at_call 30; refine (HSA4.out _ (by assumption)).mono ?_; rintro e we ⟨rfl, hbd⟩
         have HBd := belh_step (w0 := w4) (by assumption) hbd
         clear hbd))
    all_goals
      go_wp2
      go_ret
      exact ⟨rfl, HBA.out.trans ((HA3.out.trans (HBd.out.mono HA3.out.size)).mono HBA.out.size)⟩
end Go.Proofs.YtgdmdbdljmlkkaaGreatDoor
namespace Go.Proofs.YtgdmdbdljmlkkaaGreatDoor
open Go.ChangeShapes Go.WideShapes
set_option maxRecDepth 100000

theorem andTwoScanLooks {a b : Bool} (ha : a = true) (hb : b = true) : (a && b) = true := by rw [ha, hb]; rfl

theorem namedScanLooks : Tryz.prog.funcNamed Rows.scanLooksRow.func = some 5 := by kernel_rfl

set_option maxHeartbeats 0 in
theorem joinedScanLooks : joinedFacts Tryz.prog 5 Tryz.f5 Rows.scanLooksSpec Rows.scanLooksRow = true := by
  unfold joinedFacts
  rw [wfLaid, wfMaps, wfStops, wfKnobs, wfHeard, wfEnter, wfLifts, wfMake, wfKeys]
  repeat' (with_reducible apply andTwoScanLooks)
  all_goals (as_aux_lemma => kernel_rfl)

theorem instScanLooks : Tryz.f5.isInstance Tryz.prog Rows.scanLooksRow.origin Rows.scanLooksRow.targs :=
  of_decide_eq_true (by kernel_rfl)

theorem readableScanLooks : ∀ t ∈ Tryz.f5.params.toList, Tryz.prog.readableRec t = true ∧ t < Tryz.prog.types.size := by
  rw [Tryz.params5]
  intro t ht
  have hall : ([3, 30].all fun u => Tryz.prog.readableRec u && decide (u < Tryz.prog.types.size)) = true := by kernel_rfl
  have h := List.all_eq_true.1 hall t (by simpa using ht)
  simpa using h

theorem standScanLooks (j : Nat) (t : TypeId) (ht : Tryz.f5.params[j]? = some t) : Tryz.prog.wantsStandIn t = false := by
  rw [Tryz.params5] at ht
  have hm : t ∈ [3, 30] := by simpa using Array.mem_of_getElem? ht
  have hall : ([3, 30].all fun u => !Tryz.prog.wantsStandIn u) = true := by kernel_rfl
  simpa using List.all_eq_true.1 hall t hm

theorem goesScanLooks : false = Rows.scanLooksRow.goesBy Tryz.prog := by kernel_rfl

theorem byTextScanLooks : Rows.scanLooksRow.wfByText (OpenSpec.ofChange Rows.scanLooksSpec) = true := by kernel_rfl

end Go.Proofs.YtgdmdbdljmlkkaaGreatDoor
namespace Go.Proofs.YtgdmdbdljmlkkaaGreatDoor
set_option linter.unusedVariables false
set_option linter.unusedSimpArgs false
open Go.ChangeShapes Go.WideShapes Go.ChangeAt Go.RowKit

set_option maxRecDepth 100000 in
theorem liftedScanLooks (os : Os) (started : os.Started) (H : Type) (enc : TypeId × Value → H) :
    ReturnsInHanded {} Tryz.checked os 5 .any (fun w args => (Rows.scanLooksSpec.pre enc Tryz.prog Tryz.f5 [] false w args ∧ laidMetH Tryz.prog laidD w) ∧ sizedMet enc Tryz.prog Tryz.f5 (OpenSpec.ofChange Rows.scanLooksSpec) false w args)
      (Rows.scanLooksSpec.post enc Tryz.prog Tryz.f5 false true false false) := by
  refine returnsInHanded_of_change_and (C := Tryz.checked) (X := fun w _ => laidMetH Tryz.prog laidD w) (fun _ _ _ hh h => h.of_heap hh) own started (by kernel_rfl) Tryz.func5
    (ChangeSpec.witness_shaped (enc := enc) (C := Tryz.checked) (os := os) (X := fun w _ => laidMetH Tryz.prog laidD w) false (World.laidAll Tryz.prog os laidD) #[.int .i64 0, .slice none 0 0] 8 (World.laidAll_os _ _ _)
      (World.shaped_of_ZipB (by kernel_rfl) (by kernel_rfl)) (by kernel_rfl) (by kernel_rfl) (by kernel_rfl) (laid_met os _)) ?_
  intro W base args ds gs before hval0 hW _ hwt hL _
  have hval : ∀ (j : Nat) t v, Tryz.f5.params[j]? = some t → args[j]? = some v → Value.okWide Tryz.prog W .any base t v := hval0
  have hW' := hW
  obtain ⟨p, q, hA0, hV, -, hfz, hnd⟩ := hW'
  have hA : DataW.TrodAll enc Tryz.prog W 0 (fun _ => true) true Tryz.f5.params.toList args.toList ds p := hA0
  rw [Tryz.params5] at hA hval
  obtain ⟨v0, v1, d0, d1, p0, p1, rfl, rfl, rfl, h0, h1⟩ := trodAll_two hA
  obtain ⟨rfl, rfl⟩ := trodVars_none hV
  obtain ⟨a0, rfl, rfl, rfl, w0⟩ := open_int Tryz.underlying3 (hval 0 3 v0 rfl rfl) h0
  have hw1 : ∀ n ∈ d1.weights Tryz.prog 30, n ≤ 140737488351232 := fun n hn => by
    have h := List.all_eq_true.1 hwt n (by
      rw [Tryz.params5]
      show n ∈ DataW.weightsEach Tryz.prog (3 :: (30 :: _)) (_ :: (d1 :: _))
      rw [DataW.weightsEach, DataW.weightsEach]; exact List.mem_append_right _ (List.mem_append_left _ hn))
    exact of_decide_eq_true h
  obtain ⟨P, ba, bc, rfl, hP, hPl⟩ := open_files (hval 1 30 v1 rfl rfl) h1 hw1
  clear hA0 hval0
  refine (scanLooks_any a0 ba bc P W hP hPl (tab_of_laid hL)).mono fun e W' ⟨he, bel⟩ => ?_
  subst he
  exact ⟨_, rfl, law_post rfl rfl rfl readableScanLooks rfl hW bel⟩

theorem rowScanLooks : Rows.ScanLooksSaid :=
  OpenClaim.holds_of_wide 5 Tryz.f5 rfl rfl rfl rfl rfl rfl rfl ⟨rfl, rfl, rfl, rfl, rfl⟩ rfl rfl rfl rfl rfl namedScanLooks Tryz.func5 joinedScanLooks instScanLooks
    (by unfold Func.isWrapper; rw [if_neg (by decide +kernel)]; exact ⟨rfl, rfl⟩)
    (fun os started H enc _ => liftedScanLooks os started H enc)

theorem scanLooks_holds : Rows.ScanLooksCardSaid :=
  Claim7.holds_tied_plain_at .later [] [.data, .data, .data, .data, .pinned] true _ false
    rowScanLooks (fun _ h => by cases h) byTextScanLooks (fun _ h => by cases h) scanLooks_row_tie rfl ⟨rfl, rfl⟩ wfMain rfl
    (fun f fn hf hfn => by
      obtain rfl : f = 5 := Option.some.inj (namedScanLooks.symm.trans hf) |>.symm
      obtain rfl : fn = Tryz.f5 := (Option.some.inj (Tryz.func5.symm.trans hfn)).symm
      exact ⟨wfLooks.symm, standScanLooks⟩)
    goesScanLooks
#print axioms scanLooks_holds
end Go.Proofs.YtgdmdbdljmlkkaaGreatDoor
