/- TrimKeeps: for trimKeeps_holds. -/
import Derived.Test.YtgdmdbdljmlkkaaGreatDoorTk01
import Derived.Test.YtgdmdbdljmlkkaaGreatDoorTt40
set_option linter.unusedVariables false
set_option linter.unusedSimpArgs false
namespace Go.Proofs.YtgdmdbdljmlkkaaGreatDoor
open Go.RowKit
theorem lclone_any (ao : Option Addr) (n c : Nat) (xs : List Value) (w : World) (h : Reads w (.slice ao n c) n 1 xs) (h1 : ∀ u ∈ xs, u.oneCell' = true) (hn : n ≤ 2000000000) :
    Calls Tryz.prog 43 #[.slice ao n c] w fun e w' => ∃ v', e = .returned v' ∧ Row w' 72 1 v' n xs (fun k => w.heap.size ≤ k) ∧ Below w.heap.size w w' := by
  cases ao with
  | none =>
    obtain ⟨hl, _, _, he, _, hnn, _⟩ := h
    cases he
    obtain ⟨rfl, rfl⟩ := hnn rfl
    obtain rfl : xs = [] := List.eq_nil_of_length_eq_zero (by simpa using hl)
    have he : (binOp .eql 42 (.slice none 0 0) (.slice none 0 0)).run Tryz.prog w = .ok (.bool true) w := by kernel_rfl
    go_enter Tryz.func43, Tryz.ntmps43
    go_wp2
    go_ret
    exact ⟨_, rfl, Row.nil _ _ _ _, Below.refl _ _⟩
  | some ad =>
    have he : ∀ W, (binOp .eql 42 (.slice (some ad) n c) (.slice none 0 0)).run Tryz.prog W = .ok (.bool false) W := fun W => Lib.run_eql_slice_nil W _ _ (some ad) n c 0 0 Tryz.underlying42
    have H := Lib.hid h
    have H1 := Lib.hid h1
    clear h h1
    go_enter Tryz.func43, Tryz.ntmps43
    go_wp2_with (at_builtin; refine wpList_app elemRec rfl rfl (v := .slice (some ⟨w.heap.size, 0, none⟩) 0 0) (n := 0) (xs := []) rfl (base := w.heap.size) (owns_empty _ _ _ _ (Nat.le_refl _) rfl) (y := .slice (some ad) n c) (m := n) (news := xs) rfl (H.out.later ((Below.refl _ _).alloc (Nat.le_refl _) _)) H1.out (by unfold maxLen; omega) (by omega) (by simp) ?_; intro v' w' hr hg _)
    go_ret
    refine ⟨_, rfl, ?_, ?_⟩
    · rw [Nat.zero_add, List.nil_append] at hr
      exact Row.ofOwns hr
    · exact ((Below.refl _ _).alloc (Nat.le_refl _) _).grown hg (by simp) (fun k hk => by cases hk; exact Nat.le_refl _)
set_option maxRecDepth 100000 in
set_option maxHeartbeats 8000000 in
theorem trimKeeps_any (m : Int) (hm : 0 ≤ m ∧ m ≤ 255) (a : Option Addr) (c : Nat) (P : List SL) (a2 : Option Addr) (c2 : Nat) (P2 : List SL) (ea : Option Addr) (ec : Nat) (pl : List UInt8) (w : World) (h : SLs w (.slice a P.length c) P) (hl : P.length ≤ 5864062014805) (he : ∀ x ∈ P, x.l.length ≤ 9223372036854775807)
    (h2 : SLs w (.slice a2 P2.length c2) P2) (hl2 : P2.length ≤ 5864062014805) (he2 : ∀ x ∈ P2, x.l.length ≤ 9223372036854775807) (h3 : Reads w (.slice ea pl.length ec) pl.length 1 (byts pl)) (hl3 : pl.length ≤ 9223372036854775807) (ht : Tab w) :
    Calls Tryz.prog 12 #[.int .u8 m, .agg #[.slice a P.length c, .slice a2 P2.length c2], .slice ea pl.length ec] w fun e w' => e = .returned (.bool true) ∧ Below w.heap.size w w' := by
  have H3 := Lib.hid h3
  obtain ⟨hm0, hm1⟩ := hm
  have H := Lib.hid h
  have H2 := Lib.hid h2
  have HT := Lib.hid ht
  have HHE := Lib.hid he
  have HHE2 := Lib.hid he2
  have hbx : Hid ((w.alloc (.cells #[.slice a P.length c, .slice a2 P2.length c2] 80)).heap[w.heap.size]? = some (.cells #[.slice a P.length c, .slice a2 P2.length c2] 80 (0, 0))) := heap_alloc_new w _
  have HB0 : Hid (Below w.heap.size w (w.alloc (.cells #[.slice a P.length c, .slice a2 P2.length c2] 80))) := (Below.refl _ _).alloc (Nat.le_refl _) _
  clear h h2 h3 ht he he2
  go_enter Tryz.func12, Tryz.ntmps12
  go_upto_region 1 with fail
  generalize w.alloc (.cells #[.slice a P.length c, .slice a2 P2.length c2] 80) = wq at *
  obtain ⟨bq, hbq⟩ : ∃ bq, bq = w.heap.size := ⟨_, rfl⟩
  rw [← hbq] at hbx ⊢
  have HBQ : Hid (bq < wq.heap.size) := lt_of_heap hbx.out
  clear hbq
  have k0 := cellAt hbx.out 0 rfl
  have k1 := cellAt hbx.out 1 rfl
  have HQ := Lib.hid (H.out.later HB0.out)
  have HQ2 := Lib.hid (H2.out.later HB0.out)
  have HTQ := Lib.hid (tab_below HT.out HB0.out)
  have HQ3 := Lib.hid (H3.out.later HB0.out)
  have HFE := Lib.hid (rfewL_any _ P wq HQ.out hl HHE.out)
  have HFE2 := Lib.hid (rfewL_any _ P2 wq HQ2.out hl2 HHE2.out)
  have HAL := Lib.hid (fun (w' : World) (hb : Below wq.heap.size wq w') => talive_any w' (tab_below HTQ.out hb))
  clear H H2 H3 HHE HHE2 HT
  go_wp2_with fail
  refine HFE.out.mono ?_
  rintro e w1 ⟨⟨b, rfl, hb⟩, hw1⟩
  obtain rfl := hw1.symm
  clear hw1 HFE
  cases b with
  | false =>
    clear hb HFE2
    go_wp2_with fail
    refine (HAL.out _ (Below.refl _ _)).mono ?_
    rintro e w1 ⟨rfl, hb⟩
    have HB := Lib.hid (HB0.out.trans (hb.mono HB0.out.size))
    clear hb
    go_wp2
    go_ret
    exact ⟨rfl, HB.out⟩
  | true =>
    obtain ⟨hP60, hsum⟩ := hb rfl
    clear hb hl
    go_wp2_with fail
    refine HFE2.out.mono ?_
    rintro e w1 ⟨⟨b, rfl, hb⟩, hw1⟩
    obtain rfl := hw1.symm
    clear hw1 HFE2
    cases b with
    | false =>
      clear hb
      go_wp2_with fail
      refine (HAL.out _ (Below.refl _ _)).mono ?_
      rintro e w1 ⟨rfl, hb⟩
      have HB := Lib.hid (HB0.out.trans (hb.mono HB0.out.size))
      clear hb
      go_wp2
      go_ret
      exact ⟨rfl, HB.out⟩
    | true =>
      obtain ⟨hP602, hsum2⟩ := hb rfl
      clear hb hl2
      by_cases hp5 : pl.length ≤ 500
      case neg =>
        have hp6 : (500 : Int) < (pl.length : Int) := by omega
        go_wp2_with fail
        refine (HAL.out _ (Below.refl _ _)).mono ?_
        rintro e w1 ⟨rfl, hb⟩
        have HB := Lib.hid (HB0.out.trans (hb.mono HB0.out.size))
        clear hb
        go_wp2
        go_ret
        exact ⟨rfl, HB.out⟩
      have hp6 : ¬ (500 : Int) < (pl.length : Int) := by omega
      have HST := Lib.hid (tstart_any 100000 m (by omega) (by omega) a c P wq HTQ.out HQ.out hP60 hsum)
      go_wp2_with fail
      refine HST.out.mono ?_
      rintro e w1 ⟨bx, bl, L, M, va, vc, R, S, T, rfl, hd, hM, hmo⟩
      have hps := puts_seg (most := m) (room := 100000) P hP60 (by omega) (by omega) P.length (Nat.le_refl _)
      rw [List.take_length] at hps
      obtain ⟨s, hs, hg, hi0, hpre, hfl, hos, -⟩ := run_facts (most := m) (room := 100000) (P := P) hP60 (by omega) false
      rw [hps] at hM
      have hM2 : M = segL 100000 m s := by rw [hM, hs]; rfl
      have HDK := Lib.hid hd.kept
      have HM := Lib.hid hM2
      have HOS := Lib.hid hos
      have HSN : Hid (s.i0 + s.pre.length + 1 ≤ 61 ∧ (framesB s.all).length ≤ 2000) := by rw [Hid]; omega
      clear hd hM hmo HST hps hs hg hi0 hpre hfl hos hM2 hp6
      go_upto_region 4 with fail
      unfold rcell at HDK
      generalize w1.alloc (.cells #[.int .i64 M.D.room, .slice va R.length vc, .int .i64 M.D.plan, .bool M.D.down, .int .i64 M.most, .int .i64 M.n, .int .i64 M.size, .int .i64 M.waiting] 34) = wa at *
      obtain ⟨B9, hB9⟩ : ∃ B9, B9 = w1.heap.size := ⟨_, rfl⟩
      rw [← hB9] at HDK ⊢
      clear hB9 w1
      have HXQ := Lib.hid ((HDK.out.d.bel.block _ HBQ.out).trans hbx.out)
      have y1 := cellAt HXQ.out 1 rfl
      clear k0 k1
      have hb0 := HDK.out.d.bnd.n0
      have HPF2 := Lib.hid (frames_few hsum2 hP602)
      have HCP := Lib.hid (compact_any bx bl L S m a2 c2 P2 wa HDK.out.d.log (fun k hk => (HDK.out.d.sS k hk).2) (fun w' hc => tab_below HTQ.out (HDK.out.d.bel.trans (hc.toBelow HDK.out.d.bel.size (fun k hk e => by have := (HDK.out.d.sS k e).1; omega)))) HDK.out.d.bnd.d (by omega) (by omega) (by omega) (HQ2.out.later HDK.out.d.bel) (by omega) (lens_of hsum2))
      obtain ⟨ok, hok⟩ : ∃ ok, ok = P2.all fullB := ⟨_, rfl⟩
      have HOK := Lib.hid hok
      rw [← hok] at HCP
      clear hok hb0
      go_wp2_with fail
      refine HCP.out.mono ?_
      intro e w2 hcp
      cases ok with
      | false =>
        obtain ⟨SS, rfl, -, -, hc2⟩ := compP_bad hcp (.inl rfl)
        obtain ⟨hr2, hbk2, hbl2, hTl2⟩ := HDK.out.refAt hc2
        have hrc := rcompactL_any HDK.out.d.rel HDK.out.d.bnd (by omega) (by omega) (by omega) m (.slice va R.length vc) R T a2 c2 P2 w2 hr2 hTl2 HDK.out.d.files (HQ2.out.later hbl2) hP602 hsum2
        rw [← HOK.out, show compR M m false (framesB ([] :: P2.map SL.l)) = (M, 2) from rfl] at hrc
        have HRC := Lib.hid hrc
        have HB2 := Lib.hid hbl2
        have HXQ2 := Lib.hid ((hbl2.block _ HBQ.out).trans hbx.out)
        have HBK2 := Lib.hid hbk2
        clear hrc hr2 hbk2 hbl2 hTl2 hc2 hcp HCP y1
        unfold rlog at HRC
        unfold rcell at HBK2
        have y1 := cellAt HXQ2.out 1 rfl
        obtain ⟨x0, x1, x2, x3, x4, x5, x6, x7⟩ := cells8w HBK2.out
        go_wp2_with fail
        refine HRC.out.mono ?_
        rintro e w3 ⟨v', R2, rfl, -, hr3, hb3⟩
        obtain ⟨a3, c3, rfl⟩ := slice_form hr3.row
        unfold rlog
        have HB3 := Lib.hid (HB2.out.trans (hb3.mono HB2.out.size))
        clear hr3 hb3 x0 x1 x2 x3 x4 x5 x6 x7 HRC HXQ2 HBK2 y1 HB2 HXQ
        go_upto_region 6 with fail
        have HB4 := Lib.hid (HB3.out.alloc HB3.out.size (.cells #[.int .i64 M.D.room, .slice a3 R2.length c3, .int .i64 M.D.plan, .bool M.D.down, .int .i64 M.most, .int .i64 M.n, .int .i64 M.size, .int .i64 M.waiting] 34))
        generalize w3.alloc (.cells #[.int .i64 M.D.room, .slice a3 R2.length c3, .int .i64 M.D.plan, .bool M.D.down, .int .i64 M.most, .int .i64 M.n, .int .i64 M.size, .int .i64 M.waiting] 34) = w4 at *
        clear HDK
        go_wp2_with fail
        refine (HAL.out _ HB4.out).mono ?_
        rintro e w5 ⟨rfl, hb5⟩
        have HB5 := Lib.hid (HB0.out.trans ((HB4.out.trans (hb5.mono HB4.out.size)).mono HB0.out.size))
        clear hb5
        go_wp2
        go_ret
        exact ⟨rfl, HB5.out⟩
      | true =>
        obtain ⟨hr0, hrel, hcr⟩ := comp_seg HDK.out.d.rel HM.out (by have := HSN.out; omega) HOS.out (P2.map SL.l) (by
          have h1 := HPF2.out
          have h0 := HSN.out.2
          omega)
        have hcr1 := hcr m
        obtain ⟨n, hn⟩ : ∃ n, n = s.i0 + s.pre.length + 1 := ⟨_, rfl⟩
        rw [← hn] at hcr1 hrel
        have hn1 : n ≤ 61 := by have := HSN.out; omega
        have hfull := full_of hsum2 HOK.out.symm
        obtain ⟨bl2, SS, rfl, hl2, -, hss, hc2⟩ := compP_ok hcp hr0
        obtain ⟨hr2, hbk2, hbl2, hTl2⟩ := HDK.out.refAt hc2
        have hrc := rcompactL_any HDK.out.d.rel HDK.out.d.bnd (by omega) (by omega) (by omega) m (.slice va R.length vc) R T a2 c2 P2 w2 hr2 hTl2 HDK.out.d.files (HQ2.out.later hbl2) hP602 hsum2
        rw [← HOK.out, hcr1] at hrc
        have HRC := Lib.hid hrc
        have hbn2 := bnd_comp HDK.out.d.bnd (framesB ([] :: P2.map SL.l)) m
        have hnM : L.n + 1 = ((n + 0 + 1 : Nat) : Int) := by
          rw [HDK.out.d.rel.n, HM.out]
          show ((s.i0 + s.pre.length + 1 : Nat) : Int) + 1 = _
          rw [← hn]; rfl
        obtain ⟨D2, hD2⟩ : ∃ D2, D2 = (compK doP (framesB ([] :: P2.map SL.l)) (L.n + 1) 0 L.D).1 := ⟨_, rfl⟩
        rw [← hD2] at hrel hl2 hbn2
        have hrel2 : RelL ⟨L.n + 1, ((framesB ([] :: P2.map SL.l)).length : Int), 0, m, D2⟩ (segL 100000 m (segK n (P2.map SL.l))) := ⟨hnM, rfl, rfl, rfl, hrel⟩
        obtain ⟨L2, hL2⟩ : ∃ L2 : LS, L2 = ⟨L.n + 1, ((framesB ([] :: P2.map SL.l)).length : Int), 0, m, D2⟩ := ⟨_, rfl⟩
        rw [← hL2] at hrel2 hl2 hbn2
        have hL2m : L2.most = m := by rw [hL2]
        obtain ⟨M2, hM2⟩ : ∃ M2, M2 = segL 100000 m (segK n (P2.map SL.l)) := ⟨_, rfl⟩
        rw [← hM2] at hrel2 HRC
        have HFIN := Lib.hid (fun (w3 : World) (a' : Option Addr) (c' : Nat) (R' : List RF) (h1 : RLi w3 (.slice a' R'.length c') R' (fun k => T k ∨ w2.heap.size ≤ k)) (h2 : Below w2.heap.size w2 w3) (h3 : R'.map RF.f = M2.D.files) =>
          (HDK.out.compacted (q' := P.length + 6) (s' := sumL P + 8 * P.length + (framesB ([] :: P2.map SL.l)).length) hl2 hss hc2 h1 h2 h3 hrel2 hbn2 (by rw [hL2m]; omega)).kept)
        have HB2 := Lib.hid hbl2
        have HXQ2 := Lib.hid ((hbl2.block _ HBQ.out).trans hbx.out)
        have HBK2 := Lib.hid hbk2
        have HM2 := Lib.hid hM2
        have HFULL := Lib.hid hfull
        have HL2M := Lib.hid hL2m
        clear hrc hr2 hbk2 hbl2 hTl2 hc2 hcp HCP y1 hr0 hrel hcr hcr1 hl2 hss hbn2 hnM hD2 hrel2 hL2 hL2m hM2 hfull HXQ HOS hn
        unfold rlog at HRC
        unfold rcell at HBK2
        have y1 := cellAt HXQ2.out 1 rfl
        obtain ⟨x0, x1, x2, x3, x4, x5, x6, x7⟩ := cells8w HBK2.out
        go_wp2_with fail
        refine HRC.out.mono ?_
        rintro e w3 ⟨v', R2, rfl, hf3, hr3, hb3⟩
        obtain ⟨a3, c3, rfl⟩ := slice_form hr3.row
        unfold rlog
        have HDL := Lib.hid (HFIN.out w3 a3 c3 R2 hr3 hb3 hf3)
        clear hr3 hb3 hf3 x0 x1 x2 x3 x4 x5 x6 x7 HRC HXQ2 HBK2 y1 HB2 HFIN HDK HM
        unfold rcell at HDL
        go_upto_region 6 with fail
        generalize w3.alloc (.cells #[.int .i64 M2.D.room, .slice a3 R2.length c3, .int .i64 M2.D.plan, .bool M2.D.down, .int .i64 M2.most, .int .i64 M2.n, .int .i64 M2.size, .int .i64 M2.waiting] 34) = w4 at *
        obtain ⟨B8, hB8⟩ : ∃ B8, B8 = w3.heap.size := ⟨_, rfl⟩
        rw [← hB8] at HDL ⊢
        clear hB8 w3
        have HT2 : Hid (∃ T2 : Nat → Prop, DuelL wq w4 bl2 bx B8 L2 M2 a3 c3 R2 SS T2 (sumL P + 8 * P.length + (framesB ([] :: P2.map SL.l)).length) (P.length + 6)) := ⟨_, HDL.out⟩
        clear HDL
        obtain ⟨T2, hd4⟩ := HT2.out
        have HDL := Lib.hid hd4
        clear hd4 HT2
        have hbd := HDL.out.d.bnd.d
        have hcr := crash_any (.pointer (some ⟨bx, 0, none⟩)) none 0 [] L2.D (fun k => SS k ∧ k ≠ bl2) w4 HDL.out.d.log.dsk (by have := hbd.len; omega) (fun f hf => by have := hbd.nm f hf; unfold maxLen; omega) (Reads.nil _ _) (by simp) (fun ad h => by cases h)
        have HCR := Lib.hid hcr
        clear hcr hbd
        go_wp2_with fail
        refine HCR.out.mono ?_
        rintro e w5 ⟨ss, ⟨hpw, hmem⟩, rfl, hd5, hc5⟩
        have hrel5 := rel_crash HDL.out.d.rel.rel hpw hmem []
        rw [show (⟨M2.D.room, crashF M2.D.files [], 0, false⟩ : DS) = M2.D by rw [HM2.out]; exact crash_segK 100000 n (P2.map SL.l)] at hrel5
        have hbn5 := bnd_crash HDL.out.d.bnd.d ss [] ss.length
        obtain ⟨D5, hD5⟩ : ∃ D5, D5 = crashN L2.D ss [] ss.length := ⟨_, rfl⟩
        rw [← hD5] at hrel5 hbn5 hd5
        have HD5 := Lib.hid (HDL.out.disk hd5 hc5 hrel5 hbn5)
        have hfd := find_segK (n := n) (by omega) HFULL.out (by rw [HM2.out] at hrel5; exact hrel5)
        have hlk := look_any _ D5 _ w5 hd5 (tab_below HTQ.out HD5.out.d.bel) (by have := hbn5.len; omega) (by have := hbn5.sum; have := HPF2.out; omega) (fun f hf => by have := hbn5.nm f hf; unfold maxLen; omega)
        have HLK := Lib.hid hlk
        have HFD := Lib.hid hfd
        obtain ⟨L3, hL3⟩ : ∃ L3 : LS, L3 = { L2 with D := D5 } := ⟨_, rfl⟩
        rw [← hL3] at HD5
        have HL3 : Hid (L3.most = m ∧ L3.D = D5) := by rw [Hid, hL3]; exact ⟨HL2M.out, rfl⟩
        clear hrel5 hbn5 hd5 hc5 hlk hfd hpw hmem HCR HDL hD5 hL3
        go_wp2_with fail
        refine HLK.out.mono ?_
        intro e w6 hlo
        obtain ⟨ra, rc, X, rfl, hsx, hxl, hb6⟩ := look_ok hlo HFD.out.1
        have HD6 := Lib.hid (HD5.out.later hb6)
        have hln : (X.map slOf).length ≤ 1000000000 := by
          have h1 := congrArg List.length (hxl.trans HFD.out.2)
          simp only [List.length_map] at h1 ⊢
          omega
        have HSM := Lib.hid (rsameL_any (.slice ra X.length rc) (.slice a2 P2.length c2) (X.map slOf) P2 w6 hsx (HQ2.out.later HD6.out.d.bel) (hxl.trans HFD.out.2) hln)
        clear hlo hsx hxl hb6 hln HLK HD5 HFD
        have HXQ6 := Lib.hid ((HD6.out.d.bel.block _ HBQ.out).trans hbx.out)
        have y1 := cellAt HXQ6.out 1 rfl
        go_wp2_with fail
        refine HSM.out.mono ?_
        rintro e w7 ⟨rfl, hb7⟩
        have HD7 := Lib.hid (HD6.out.later hb7)
        clear hb7 HSM HD6 y1 HXQ6
        have HXQ7 := Lib.hid ((HD7.out.d.bel.block _ HBQ.out).trans hbx.out)
        have y1 := cellAt HXQ7.out 1 rfl
        have hpf := HPF2.out
        have hpu := put_any L3 bl2 (.pointer (some ⟨bx, 0, none⟩)) SS ea ec pl w7 HD7.out.d.log (fun k hk => (HD7.out.d.sS k hk).2) (fun w' hc => tab_below HTQ.out (HD7.out.d.bel.trans (hc.toBelow HD7.out.d.bel.size (fun k hk e => by have := (HD7.out.d.sS k e).1; omega)))) HD7.out.d.bnd (by omega) (by omega) (HQ3.out.later HD7.out.d.bel) (by omega) (by rw [HL3.out.1]; omega)
        have HPU := Lib.hid hpu
        have hrp := rel_put HD7.out.d.rel pl
        have HBP := Lib.hid (bnd_put HD7.out.d.bnd pl)
        have hmp := putG_most L3 pl
        have hps := put_seg0 (room := 100000) (most := m) (s := segK n (P2.map SL.l)) (by show n + 0 + 1 ≤ 1000; omega) (Nat.zero_le _) (by show n + 0 + 2 ≤ 1000; omega) pl (by omega) (by
          show ((framesB (([] : List (List (List UInt8))).flatten ++ ([] :: P2.map SL.l))).length : Int) + _ ≤ 100000
          rw [List.flatten_nil, List.nil_append]; omega)
        rw [← HM2.out] at hps
        have hcode := stepS_code m (segK n (P2.map SL.l)) pl
        have HKP := Lib.hid (fun (D : DS) (h : Rel D (segD 100000 (stepS m (segK n (P2.map SL.l)) pl).1)) => keeps_plain (D := D) (n := n) (by omega) HFULL.out (by omega) h)
        generalize stepS m (segK n (P2.map SL.l)) pl = st at *
        obtain ⟨s9, cd⟩ := st
        generalize putG opsD L3 pl = pm at *
        obtain ⟨L4, cd'⟩ := pm
        rw [hps] at hrp
        obtain ⟨hcd, hrel4⟩ := hrp
        simp only at hcd hrel4 hcode hmp HKP
        subst hcd
        have HREL4 := Lib.hid hrel4
        have HPS := Lib.hid hps
        have HCODE := Lib.hid hcode
        have HMP := Lib.hid hmp
        clear hpu hmp hps hcode hrel4 hpf
        go_wp2_with fail
        refine HPU.out.mono ?_
        rintro e w8 ⟨rfl, hl8, hc8⟩
        have HL8 : Hid (LAt w8 bl2 (.pointer (some ⟨bx, 0, none⟩)) L4 (fun k => SS k ∨ w7.heap.size ≤ k)) := hl8
        have HC8 := Lib.hid hc8
        have HB8 := Lib.hid (HD7.out.d.bel.trans (hc8.toBelow HD7.out.d.bel.size (fun k hk e => by have := (HD7.out.d.sS k e).1; omega)))
        clear hl8 hc8 HPU
        have HBB : Hid (B8 < w7.heap.size ∧ wq.heap.size ≤ B8) := ⟨lt_of_heap HD7.out.blk, HD7.out.bB⟩
        have HS78 := HC8.out.size
        by_cases hcd0 : cd' = 0
        · subst hcd0
          have htk : takes m pl = true := HCODE.out.1 rfl
          have HCL := Lib.hid (lclone_any a2 P2.length c2 (P2.map SL.v) w8 (HQ2.out.later HB8.out).rd (fun u hu => by
            obtain ⟨x, hx, rfl⟩ := List.mem_map.1 hu
            obtain ⟨-, a, c, hv, -⟩ := (HQ2.out.each x hx)
            rw [hv]; rfl) (by omega))
          have HTK := Lib.hid htk
          clear htk
          go_wp2_with fail
          refine HCL.out.mono ?_
          rintro e w9 ⟨v9, rfl, hr9, hb9⟩
          have HB89 := Lib.hid hb9
          have HR9 := Lib.hid hr9
          have hs9 := hb9.size
          clear hr9 hb9 HCL
          go_upto_region 17 with (
            refine wpList_row elemRec rfl rfl (S := fun k => w8.heap.size ≤ k) (n := P2.length) (xs := P2.map SL.v) rfl (HR9.out.frame (fun k _ hk => Below.heap_alloc w9 _ _ hk)) (y := .slice (some ⟨w9.heap.size, 0, none⟩) 1 1) (m := 1) (news := [.slice ea pl.length ec]) rfl (reads_one w9 _ _) (one_of rfl) (by unfold maxLen; omega) (by omega) ?_
            intro v10 w10 hr10 hc10)
          obtain ⟨wa10, wc10, rfl⟩ := slice_form hr10
          have hb810 : Below w8.heap.size w8 w10 := (HB89.out.alloc hs9 _).trans (hc10.toBelow (B := w8.heap.size) (by simp; omega) (fun k hk e => by omega))
          obtain ⟨W, hW⟩ : ∃ W : List SL, W = P2 ++ [⟨.slice ea pl.length ec, pl⟩] := ⟨_, rfl⟩
          have hWl : P2.length + 1 = W.length := by rw [hW]; simp
          have HRW : Hid (Row w10 72 1 (.slice wa10 W.length wc10) W.length (W.map SL.v) (fun k => w8.heap.size ≤ k)) := by
            rw [Hid, ← hWl, hW, List.map_append]
            exact hr10.mono (fun k hk => by rcases hk with h | h; exact h; simp at h; omega)
          have HWE : Hid (∀ x ∈ W, Reads wq x.v x.l.length 1 (byts x.l)) := fun x hx => by
            rw [hW] at hx
            rcases List.mem_append.1 hx with hx | hx
            · exact HQ2.out.each x hx
            · rw [List.mem_singleton.1 hx]; exact HQ3.out
          have HWM : Hid (W.map SL.l = P2.map SL.l ++ (if takes m pl then [pl] else [])) := by
            rw [Hid, hW, HTK.out, if_pos rfl, List.map_append]; rfl
          rw [hWl]
          have HB810 := Lib.hid hb810
          clear hr10 hc10 hb810 HB89 HR9 hs9 hWl HTK hW
          have hB10 := HB8.out.trans (HB810.out.mono HB8.out.size)
          have hl10 := HL8.out.later HB810.out
          have hc10 : Chg SS w7 w10 := HC8.out.trans (Chg.ofBelow HB810.out) (fun n hn => .inl hn)
          have hrl10 := HD7.out.refAt hc10
          have hrpl := rputL_any HD7.out.d.rel HD7.out.d.bnd (by have := HPF2.out; omega) (by omega) (by omega) (.slice a3 R2.length c3) R2 T2 ea ec pl w10 hrl10.1 HD7.out.d.files (HQ3.out.later hB10) (by omega)
          rw [HPS.out] at hrpl
          have HRL := Lib.hid hrpl
          have HBK10 := Lib.hid hrl10.2.1
          have HL10 := Lib.hid hl10
          have HC10 := Lib.hid hc10
          have HB10 := Lib.hid hB10
          clear hB10 hl10 hc10 hrl10 hrpl HL8 HC8 y1
          unfold rlog at HRL
          unfold rcell at HBK10
          obtain ⟨M4, hM4⟩ : ∃ M4, M4 = segL 100000 m s9 := ⟨_, rfl⟩
          rw [← hM4] at HRL HREL4
          have HM4 := Lib.hid hM4
          clear hM4
          obtain ⟨x0, x1, x2, x3, x4, x5, x6, x7⟩ := cells8w HBK10.out
          go_wp2_with fail
          refine HRL.out.mono ?_
          rintro e w11 ⟨v', R11, rfl, hf11, hr11, hb11⟩
          obtain ⟨a11, c11, rfl⟩ := slice_form hr11.row
          unfold rlog
          have HBK11 := Lib.hid ((hb11.block _ (lt_of_heap HBK10.out)).trans HBK10.out)
          have hls := log_store HBK11.out (.int .i64 M4.D.room) (.slice a11 R11.length c11) (.int .i64 M4.D.plan) (.bool M4.D.down) (.int .i64 M4.most) (.int .i64 M4.n) (.int .i64 M4.size) (.int .i64 M4.waiting)
          have HD12 := Lib.hid (HD7.out.acted (s' := sumL P + 8 * P.length + (framesB ([] :: P2.map SL.l)).length + (pl.length + 8)) HL10.out HC10.out hr11 hb11 hf11 HREL4.out (HBP.out.more (Nat.le_refl _) (by omega) (by omega)) HMP.out hls.2 hls.1)
          have HCH12 := Lib.hid hls.2
          have HBK12 := Lib.hid hls.1
          have HB1011 := Lib.hid hb11
          clear hf11 hr11 hb11 hls x0 x1 x2 x3 x4 x5 x6 x7 HRL
          obtain ⟨x0, x1, x2, x3, x4, x5, x6, x7⟩ := cells8w HBK11.out
          have q0 := freeAt HBK11.out 0
          have q1 := freeAt HBK11.out 1
          have q2 := freeAt HBK11.out 2
          have q3 := freeAt HBK11.out 3
          have q4 := freeAt HBK11.out 4
          have q5 := freeAt HBK11.out 5
          have q6 := freeAt HBK11.out 6
          have q7 := freeAt HBK11.out 7
          go_upto_region 18 with fail
          clear x0 x1 x2 x3 x4 x5 x6 x7 q0 q1 q2 q3 q4 q5 q6 q7
          generalize (((((((w11.setCell ⟨B8, 0, none⟩ (.int .i64 M4.D.room)).setCell ⟨B8, 1, none⟩ (.slice a11 R11.length c11)).setCell ⟨B8, 2, none⟩ (.int .i64 M4.D.plan)).setCell ⟨B8, 3, none⟩ (.bool M4.D.down)).setCell ⟨B8, 4, none⟩ (.int .i64 M4.most)).setCell ⟨B8, 5, none⟩ (.int .i64 M4.n)).setCell ⟨B8, 6, none⟩ (.int .i64 M4.size)).setCell ⟨B8, 7, none⟩ (.int .i64 M4.waiting) = w12 at *
          have HW12 : Hid (SLs w12 (.slice wa10 W.length wc10) W) := by
            have h1 : Row w12 72 1 (.slice wa10 W.length wc10) W.length (W.map SL.v) (fun k => w8.heap.size ≤ k) := (HRW.out.frame (w' := w11) (fun k hk hl => HB1011.out.block k hl)).frame (w' := w12) (fun k hk hl => HCH12.out.block k hl (fun e => by have e2 : k = B8 := e; have := HBB.out.1; omega))
            exact ⟨h1.reads, fun x hx => (HWE.out x hx).later HD12.out.d.bel⟩
          have hkp := HKP.out L4.D (by have := HREL4.out.rel; rw [HM4.out] at this; exact this)
          have hbd := HD12.out.d.bnd.d
          have hlk := look_any _ L4.D _ w12 HD12.out.d.log.dsk (tab_below HTQ.out HD12.out.d.bel) (by have := hbd.len; omega) (by have := hbd.sum; have := HPF2.out; omega) (fun f hf => by have := hbd.nm f hf; unfold maxLen; omega)
          have HLK := Lib.hid hlk
          have HKQ := Lib.hid hkp
          clear hlk hkp hbd HBK11 HBK10 HB1011 HL10 HC10 HD7
          go_wp2_with fail
          refine HLK.out.mono ?_
          intro e wz hlo
          obtain ⟨ra5, rc5, X5, rfl, hsx, hxl, hbz⟩ := look_ok hlo HKQ.out.1
          have HDZ := Lib.hid (HD12.out.later hbz)
          have HWZ := Lib.hid (HW12.out.later hbz)
          have HBZ := Lib.hid (HB0.out.trans (HDZ.out.d.bel.mono HB0.out.size))
          have hln : (X5.map slOf).length ≤ 1000000000 := by
            have h1 := congrArg List.length (hxl.trans HKQ.out.2)
            simp only [List.length_map] at h1 ⊢
            rw [h1]
            split <;> simp <;> omega
          have HSM : Hid (∀ w', Hid (Below wz.heap.size wz w') → Calls Tryz.prog 21 #[.slice ra5 X5.length rc5, .slice wa10 W.length wc10] w' fun e w'' => e = .returned (.bool true) ∧ Below w'.heap.size w' w'') := fun w' hb => rsameL_any _ _ (X5.map slOf) W w' (hsx.later hb.out) (HWZ.out.later hb.out) (by rw [hxl, HKQ.out.2, HWM.out]) hln
          have HSZ : Hid (∀ w', Hid (Below wz.heap.size wz w') → Calls Tryz.prog 36 #[.pointer (some ⟨bl2, 0, none⟩)] w' fun e w'' => e = .returned (.int .i64 M4.size) ∧ w'' = w') := fun w' hb => by
            have h1 := lsize_any L4 bl2 _ _ w' (HDZ.out.d.log.later hb.out)
            rw [HREL4.out.size] at h1
            exact h1
          have HALZ : Hid (∀ w', Hid (Below wz.heap.size wz w') → Calls Tryz.prog 44 #[] w' fun e w'' => e = .returned (.bool true) ∧ Below w'.heap.size w' w'') := fun w' hb => HAL.out w' (HDZ.out.d.bel.trans (hb.out.mono HDZ.out.d.bel.size))
          have HKS : Hid (∀ w', Hid (Below wz.heap.size wz w') → w'.cell? ⟨B8, 6, none⟩ = some (.int .i64 M4.size)) := fun w' hb => (cells8w ((hb.out.block _ (lt_of_heap HDZ.out.blk)).trans HDZ.out.blk)).2.2.2.2.2.2.1
          have HB00 : Hid (Below wz.heap.size wz wz.drew) := (Below.refl _ _).drew
          clear hlo hsx hxl hbz hln HLK HD12 HW12 HKQ HWM HWE HDZ HWZ HKP HCODE HPS HMP HBP HFULL HM2 HM4 HQ HQ2 HQ3 HPF2 HSN HB8 HB810 HB10 HXQ7 hbx HL3 HL2M HCH12 HBK12 HS78 HBB HREL4 HAL
          go_upto_region 19 with fail
          go_region_held3 (fun w' => w'.cell? ⟨B8, 6, none⟩ = some (.int .i64 M4.size)) (exact HKS.out _ (by assumption))
            (first
            | (go_at_call 44; refine (HALZ.out _ (by assumption)).mono ?_; rintro e wa1 ⟨rfl, hba⟩
               have HBa := belh_step (w0 := wz) (by assumption) hba
               clear hba)
            | (go_at_call 21; refine (HSM.out _ (by assumption)).mono ?_; rintro e wb1 ⟨rfl, hbb⟩
               have HBb := belh_step (w0 := wz) (by assumption) hbb
               clear hbb)
            | (go_at_call 36; refine (HSZ.out _ (by assumption)).mono ?_; rintro e wc1 ⟨rfl, rfl⟩))
          all_goals go_wp2
          all_goals go_ret
          all_goals exact ⟨rfl, belh_end HBZ (by assumption)⟩
        · have hcd1 : (cd' == 0) = false := by simpa using hcd0
          have htk : takes m pl = false := by
            cases hx : takes m pl with
            | false => rfl
            | true => exact absurd (HCODE.out.2 hx) hcd0
          obtain ⟨W, hW⟩ : ∃ W : List SL, W = P2 := ⟨_, rfl⟩
          have HWE : Hid (∀ x ∈ W, Reads wq x.v x.l.length 1 (byts x.l)) := fun x hx => HQ2.out.each x (by rw [hW] at hx; exact hx)
          have HWM : Hid (W.map SL.l = P2.map SL.l ++ (if takes m pl then [pl] else [])) := by
            rw [Hid, hW, htk]; simp
          have hlw : P2.length = W.length := by rw [hW]
          clear htk hcd0
          go_upto_region 17 with fail
          obtain ⟨w10, hw10⟩ : ∃ w10, w10 = w8 := ⟨_, rfl⟩
          have HB810 : Hid (Below w8.heap.size w8 w10) := by rw [hw10]; exact Below.refl _ _
          rw [← hw10]
          obtain ⟨wa10, hwa⟩ : ∃ x, x = a2 := ⟨_, rfl⟩
          obtain ⟨wc10, hwc⟩ : ∃ x, x = c2 := ⟨_, rfl⟩
          have HWX : Hid (∀ w', Below wq.heap.size wq w' → SLs w' (.slice wa10 W.length wc10) W) := fun w' hb => by rw [hwa, hwc, hW]; exact HQ2.out.later hb
          rw [← hwa, ← hwc]
          try rw [hlw]
          clear hw10 hwa hwc hlw hW
          have hB10 := HB8.out.trans (HB810.out.mono HB8.out.size)
          have hl10 := HL8.out.later HB810.out
          have hc10 : Chg SS w7 w10 := HC8.out.trans (Chg.ofBelow HB810.out) (fun n hn => .inl hn)
          have hrl10 := HD7.out.refAt hc10
          have hrpl := rputL_any HD7.out.d.rel HD7.out.d.bnd (by have := HPF2.out; omega) (by omega) (by omega) (.slice a3 R2.length c3) R2 T2 ea ec pl w10 hrl10.1 HD7.out.d.files (HQ3.out.later hB10) (by omega)
          rw [HPS.out] at hrpl
          have HRL := Lib.hid hrpl
          have HBK10 := Lib.hid hrl10.2.1
          have HL10 := Lib.hid hl10
          have HC10 := Lib.hid hc10
          have HB10 := Lib.hid hB10
          clear hB10 hl10 hc10 hrl10 hrpl HL8 HC8 y1
          unfold rlog at HRL
          unfold rcell at HBK10
          obtain ⟨M4, hM4⟩ : ∃ M4, M4 = segL 100000 m s9 := ⟨_, rfl⟩
          rw [← hM4] at HRL HREL4
          have HM4 := Lib.hid hM4
          clear hM4
          obtain ⟨x0, x1, x2, x3, x4, x5, x6, x7⟩ := cells8w HBK10.out
          go_wp2_with fail
          refine HRL.out.mono ?_
          rintro e w11 ⟨v', R11, rfl, hf11, hr11, hb11⟩
          obtain ⟨a11, c11, rfl⟩ := slice_form hr11.row
          unfold rlog
          have HBK11 := Lib.hid ((hb11.block _ (lt_of_heap HBK10.out)).trans HBK10.out)
          have hls := log_store HBK11.out (.int .i64 M4.D.room) (.slice a11 R11.length c11) (.int .i64 M4.D.plan) (.bool M4.D.down) (.int .i64 M4.most) (.int .i64 M4.n) (.int .i64 M4.size) (.int .i64 M4.waiting)
          have HD12 := Lib.hid (HD7.out.acted (s' := sumL P + 8 * P.length + (framesB ([] :: P2.map SL.l)).length + (pl.length + 8)) HL10.out HC10.out hr11 hb11 hf11 HREL4.out (HBP.out.more (Nat.le_refl _) (by omega) (by omega)) HMP.out hls.2 hls.1)
          have HCH12 := Lib.hid hls.2
          have HBK12 := Lib.hid hls.1
          have HB1011 := Lib.hid hb11
          clear hf11 hr11 hb11 hls x0 x1 x2 x3 x4 x5 x6 x7 HRL
          obtain ⟨x0, x1, x2, x3, x4, x5, x6, x7⟩ := cells8w HBK11.out
          have q0 := freeAt HBK11.out 0
          have q1 := freeAt HBK11.out 1
          have q2 := freeAt HBK11.out 2
          have q3 := freeAt HBK11.out 3
          have q4 := freeAt HBK11.out 4
          have q5 := freeAt HBK11.out 5
          have q6 := freeAt HBK11.out 6
          have q7 := freeAt HBK11.out 7
          go_upto_region 18 with fail
          clear x0 x1 x2 x3 x4 x5 x6 x7 q0 q1 q2 q3 q4 q5 q6 q7
          generalize (((((((w11.setCell ⟨B8, 0, none⟩ (.int .i64 M4.D.room)).setCell ⟨B8, 1, none⟩ (.slice a11 R11.length c11)).setCell ⟨B8, 2, none⟩ (.int .i64 M4.D.plan)).setCell ⟨B8, 3, none⟩ (.bool M4.D.down)).setCell ⟨B8, 4, none⟩ (.int .i64 M4.most)).setCell ⟨B8, 5, none⟩ (.int .i64 M4.n)).setCell ⟨B8, 6, none⟩ (.int .i64 M4.size)).setCell ⟨B8, 7, none⟩ (.int .i64 M4.waiting) = w12 at *
          have HW12 : Hid (SLs w12 (.slice wa10 W.length wc10) W) := HWX.out w12 HD12.out.d.bel
          have hkp := HKP.out L4.D (by have := HREL4.out.rel; rw [HM4.out] at this; exact this)
          have hbd := HD12.out.d.bnd.d
          have hlk := look_any _ L4.D _ w12 HD12.out.d.log.dsk (tab_below HTQ.out HD12.out.d.bel) (by have := hbd.len; omega) (by have := hbd.sum; have := HPF2.out; omega) (fun f hf => by have := hbd.nm f hf; unfold maxLen; omega)
          have HLK := Lib.hid hlk
          have HKQ := Lib.hid hkp
          clear hlk hkp hbd HBK11 HBK10 HB1011 HL10 HC10 HD7
          go_wp2_with fail
          refine HLK.out.mono ?_
          intro e wz hlo
          obtain ⟨ra5, rc5, X5, rfl, hsx, hxl, hbz⟩ := look_ok hlo HKQ.out.1
          have HDZ := Lib.hid (HD12.out.later hbz)
          have HWZ := Lib.hid (HW12.out.later hbz)
          have HBZ := Lib.hid (HB0.out.trans (HDZ.out.d.bel.mono HB0.out.size))
          have hln : (X5.map slOf).length ≤ 1000000000 := by
            have h1 := congrArg List.length (hxl.trans HKQ.out.2)
            simp only [List.length_map] at h1 ⊢
            rw [h1]
            split <;> simp <;> omega
          have HSM : Hid (∀ w', Hid (Below wz.heap.size wz w') → Calls Tryz.prog 21 #[.slice ra5 X5.length rc5, .slice wa10 W.length wc10] w' fun e w'' => e = .returned (.bool true) ∧ Below w'.heap.size w' w'') := fun w' hb => rsameL_any _ _ (X5.map slOf) W w' (hsx.later hb.out) (HWZ.out.later hb.out) (by rw [hxl, HKQ.out.2, HWM.out]) hln
          have HSZ : Hid (∀ w', Hid (Below wz.heap.size wz w') → Calls Tryz.prog 36 #[.pointer (some ⟨bl2, 0, none⟩)] w' fun e w'' => e = .returned (.int .i64 M4.size) ∧ w'' = w') := fun w' hb => by
            have h1 := lsize_any L4 bl2 _ _ w' (HDZ.out.d.log.later hb.out)
            rw [HREL4.out.size] at h1
            exact h1
          have HALZ : Hid (∀ w', Hid (Below wz.heap.size wz w') → Calls Tryz.prog 44 #[] w' fun e w'' => e = .returned (.bool true) ∧ Below w'.heap.size w' w'') := fun w' hb => HAL.out w' (HDZ.out.d.bel.trans (hb.out.mono HDZ.out.d.bel.size))
          have HKS : Hid (∀ w', Hid (Below wz.heap.size wz w') → w'.cell? ⟨B8, 6, none⟩ = some (.int .i64 M4.size)) := fun w' hb => (cells8w ((hb.out.block _ (lt_of_heap HDZ.out.blk)).trans HDZ.out.blk)).2.2.2.2.2.2.1
          have HB00 : Hid (Below wz.heap.size wz wz.drew) := (Below.refl _ _).drew
          clear hlo hsx hxl hbz hln HLK HD12 HW12 HKQ HWM HWE HDZ HWZ HKP HCODE HPS HMP HBP HFULL HM2 HM4 HQ HQ2 HQ3 HPF2 HSN HB8 HB810 HB10 HXQ7 hbx HL3 HL2M HCH12 HBK12 HS78 HBB HREL4 HAL
          go_upto_region 19 with fail
          go_region_held3 (fun w' => w'.cell? ⟨B8, 6, none⟩ = some (.int .i64 M4.size)) (exact HKS.out _ (by assumption))
            (first
            | (go_at_call 44; refine (HALZ.out _ (by assumption)).mono ?_; rintro e wa1 ⟨rfl, hba⟩
               have HBa := belh_step (w0 := wz) (by assumption) hba
               clear hba)
            | (go_at_call 21; refine (HSM.out _ (by assumption)).mono ?_; rintro e wb1 ⟨rfl, hbb⟩
               have HBb := belh_step (w0 := wz) (by assumption) hbb
               clear hbb)
            | (go_at_call 36; refine (HSZ.out _ (by assumption)).mono ?_; rintro e wc1 ⟨rfl, rfl⟩))
          all_goals go_wp2
          all_goals go_ret
          all_goals exact ⟨rfl, belh_end HBZ (by assumption)⟩
end Go.Proofs.YtgdmdbdljmlkkaaGreatDoor
