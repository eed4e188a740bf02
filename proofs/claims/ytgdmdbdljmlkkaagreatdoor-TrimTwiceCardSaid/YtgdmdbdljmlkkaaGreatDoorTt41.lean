/- Texts for trimTwice_holds, joined: TrimTwice. -/
import Derived.Test.YtgdmdbdljmlkkaaGreatDoorTt40
set_option linter.unusedVariables false
set_option linter.unusedSimpArgs false
namespace Go.Proofs.YtgdmdbdljmlkkaaGreatDoor
open Go.RowKit
set_option maxRecDepth 100000 in
set_option maxHeartbeats 8000000 in
theorem trimTwice_any (a : Option Addr) (c : Nat) (P : List SL) (a2 : Option Addr) (c2 : Nat) (P2 : List SL) (w : World) (h : SLs w (.slice a P.length c) P) (hl : P.length ≤ 5864062014805) (he : ∀ x ∈ P, x.l.length ≤ 9223372036854775807)
    (h2 : SLs w (.slice a2 P2.length c2) P2) (hl2 : P2.length ≤ 5864062014805) (he2 : ∀ x ∈ P2, x.l.length ≤ 9223372036854775807) (ht : Tab w) :
    Calls Tryz.prog 9 #[.agg #[.slice a P.length c, .slice a2 P2.length c2]] w fun e w' => e = .returned (.bool true) ∧ Below w.heap.size w w' := by
  have H := Lib.hid h
  have H2 := Lib.hid h2
  have HT := Lib.hid ht
  have HHE := Lib.hid he
  have HHE2 := Lib.hid he2
  have hbx : Hid ((w.alloc (.cells #[.slice a P.length c, .slice a2 P2.length c2] 80)).heap[w.heap.size]? = some (.cells #[.slice a P.length c, .slice a2 P2.length c2] 80 (0, 0))) := heap_alloc_new w _
  have HB0 : Hid (Below w.heap.size w (w.alloc (.cells #[.slice a P.length c, .slice a2 P2.length c2] 80))) := (Below.refl _ _).alloc (Nat.le_refl _) _
  clear h h2 ht he he2
  go_enter Tryz.func9, Tryz.ntmps9
  go_upto_region 1 with fail
  generalize w.alloc (.cells #[.slice a P.length c, .slice a2 P2.length c2] 80) = wq at *
  obtain ⟨bq, hbq⟩ : ∃ bq, bq = w.heap.size := ⟨_, rfl⟩
  rw [← hbq] at hbx ⊢
  have HBQ : Hid (bq < wq.heap.size) := lt_of_heap hbx.out
  clear hbq
  have k0 := cellAt hbx.out 0 rfl
  have k1 := cellAt hbx.out 1 rfl
  have HQ := Lib.hid (H.out.later HB0.out)
  have HQ2 := Lib.hid (H2.out.later HB0.out)
  have HTQ := Lib.hid (tab_below HT.out HB0.out)
  have HFE := Lib.hid (rfewL_any _ P wq HQ.out hl HHE.out)
  have HFE2 := Lib.hid (rfewL_any _ P2 wq HQ2.out hl2 HHE2.out)
  have HAL := Lib.hid (fun (w' : World) (hb : Below wq.heap.size wq w') => talive_any w' (tab_below HTQ.out hb))
  clear H H2 HHE HHE2 HT
  go_wp2_with fail
  refine HFE.out.mono ?_
  rintro e w1 ⟨⟨b, rfl, hb⟩, hw1⟩
  obtain rfl := hw1.symm
  clear hw1 HFE
  cases b with
  | false =>
    clear hb HFE2
    go_wp2_with fail
    refine (HAL.out _ (Below.refl _ _)).mono ?_
    rintro e w1 ⟨rfl, hb⟩
    have HB := Lib.hid (HB0.out.trans (hb.mono HB0.out.size))
    clear hb
    go_wp2
    go_ret
    exact ⟨rfl, HB.out⟩
  | true =>
    obtain ⟨hP60, hsum⟩ := hb rfl
    clear hb hl
    go_wp2_with fail
    refine HFE2.out.mono ?_
    rintro e w1 ⟨⟨b, rfl, hb⟩, hw1⟩
    obtain rfl := hw1.symm
    clear hw1 HFE2
    cases b with
    | false =>
      clear hb
      go_wp2_with fail
      refine (HAL.out _ (Below.refl _ _)).mono ?_
      rintro e w1 ⟨rfl, hb⟩
      have HB := Lib.hid (HB0.out.trans (hb.mono HB0.out.size))
      clear hb
      go_wp2
      go_ret
      exact ⟨rfl, HB.out⟩
    | true =>
      obtain ⟨hP602, hsum2⟩ := hb rfl
      clear hb hl2
      have HST := Lib.hid (tstart_any 100000 1000 (by omega) (by omega) none 0 [] wq HTQ.out ⟨Reads.nil _ _, by simp⟩ (by simp) (by simp [sumL]))
      go_wp2_with fail
      refine HST.out.mono ?_
      rintro e w1 ⟨bx, bl, L, M, va, vc, R, S, T, rfl, hd, hM, hmo⟩
      have hD0 : DuelR wq w1 bl bx L M va vc R S T 0 0 := hd
      have hM0 : M = segL 100000 1000 seg0 := hM
      have HDK := Lib.hid hD0.kept
      have HM := Lib.hid hM0
      have HMO := Lib.hid hmo
      clear hd hM hD0 hM0 hmo HST
      go_upto_region 4 with fail
      unfold rcell at HDK
      generalize w1.alloc (.cells #[.int .i64 M.D.room, .slice va R.length vc, .int .i64 M.D.plan, .bool M.D.down, .int .i64 M.most, .int .i64 M.n, .int .i64 M.size, .int .i64 M.waiting] 34) = wa at *
      obtain ⟨B5, hB5⟩ : ∃ B5, B5 = w1.heap.size := ⟨_, rfl⟩
      rw [← hB5] at HDK ⊢
      clear hB5 w1
      have HXQ := Lib.hid ((HDK.out.d.bel.block _ HBQ.out).trans hbx.out)
      have y0 := cellAt HXQ.out 0 rfl
      have y1 := cellAt HXQ.out 1 rfl
      clear k0 k1
      have hb0 := HDK.out.d.bnd.n0
      have HPF := Lib.hid (frames_few hsum hP60)
      have HCP := Lib.hid (compact_any bx bl L S 1000 a c P wa HDK.out.d.log (fun k hk => (HDK.out.d.sS k hk).2) (fun w' hc => tab_below HTQ.out (HDK.out.d.bel.trans (hc.toBelow HDK.out.d.bel.size (fun k hk e => by have := (HDK.out.d.sS k e).1; omega)))) HDK.out.d.bnd.d (by omega) (by omega) (by omega) (HQ.out.later HDK.out.d.bel) (by omega) (lens_of hsum))
      obtain ⟨ok, hok⟩ : ∃ ok, ok = P.all fullB := ⟨_, rfl⟩
      have HOK := Lib.hid hok
      rw [← hok] at HCP
      clear hok hb0
      go_wp2_with fail
      refine HCP.out.mono ?_
      intro e w2 hcp
      cases ok with
      | false =>
        obtain ⟨SS, rfl, -, -, hc2⟩ := compP_bad hcp (.inl rfl)
        obtain ⟨hr2, hbk2, hbl2, hTl2⟩ := HDK.out.refAt hc2
        have hrc := rcompactL_any HDK.out.d.rel HDK.out.d.bnd (by omega) (by omega) (by omega) 1000 (.slice va R.length vc) R T a c P w2 hr2 hTl2 HDK.out.d.files (HQ.out.later hbl2) hP60 hsum
        rw [← HOK.out] at hrc
        have HRC := Lib.hid hrc
        have HB2 := Lib.hid hbl2
        have HXQ2 := Lib.hid ((hbl2.block _ HBQ.out).trans hbx.out)
        have HBK2 := Lib.hid hbk2
        clear hrc hr2 hbk2 hbl2 hTl2 hc2 hcp HCP y0 y1
        unfold rlog at HRC
        unfold rcell at HBK2
        have y0 := cellAt HXQ2.out 0 rfl
        have y1 := cellAt HXQ2.out 1 rfl
        obtain ⟨x0, x1, x2, x3, x4, x5, x6, x7⟩ := cells8w HBK2.out
        go_wp2_with fail
        refine HRC.out.mono ?_
        rintro e w3 ⟨v', R2, rfl, -, hr3, hb3⟩
        obtain ⟨a3, c3, rfl⟩ := slice_form hr3.row
        have hcz : compR M 1000 false (framesB ([] :: P.map SL.l)) = (M, 2) := rfl
        rw [hcz]
        unfold rlog
        have HB3 := Lib.hid (HB2.out.trans (hb3.mono HB2.out.size))
        clear hr3 hb3 hcz x0 x1 x2 x3 x4 x5 x6 x7 HRC HXQ2 HBK2 y0 y1 HB2 HXQ
        go_upto_region 6 with fail
        have HB4 := Lib.hid (HB3.out.alloc HB3.out.size (.cells #[.int .i64 M.D.room, .slice a3 R2.length c3, .int .i64 M.D.plan, .bool M.D.down, .int .i64 M.most, .int .i64 M.n, .int .i64 M.size, .int .i64 M.waiting] 34))
        generalize w3.alloc (.cells #[.int .i64 M.D.room, .slice a3 R2.length c3, .int .i64 M.D.plan, .bool M.D.down, .int .i64 M.most, .int .i64 M.n, .int .i64 M.size, .int .i64 M.waiting] 34) = w4 at *
        clear HDK
        go_wp2_with fail
        refine (tcompact_nil1 _ _ _ _ _ _).mono ?_
        rintro e w5 ⟨rfl, hw5⟩
        obtain rfl := hw5.symm
        clear hw5
        go_wp2_with fail
        refine (tcompact_nil2 _ _ _ _ _ _).mono ?_
        rintro e w5 ⟨rfl, hw5⟩
        obtain rfl := hw5.symm
        clear hw5
        go_wp2_with fail
        refine (HAL.out _ HB4.out).mono ?_
        rintro e w5 ⟨rfl, hb5⟩
        have HB5 := Lib.hid (HB0.out.trans ((HB4.out.trans (hb5.mono HB4.out.size)).mono HB0.out.size))
        clear hb5
        go_wp2
        go_ret
        exact ⟨rfl, HB5.out⟩
      | true =>
        have hos : OnlySegs (segD 100000 seg0) ((seg0.i0 + seg0.pre.length + 1 : Nat) : Int) := by
          obtain ⟨s, hs, -, -, -, -, hos, -⟩ := run_facts (most := 1000) (room := 100000) (P := []) (by simp) (by simp [sumL]) false
          have hs0 : s = seg0 := by rw [hs]; rfl
          rw [hs0] at hos; exact hos
        obtain ⟨hr0, hrel, hcr⟩ := comp_seg HDK.out.d.rel HM.out (by decide) hos (P.map SL.l) (by
          have h1 := HPF.out
          have h0 : (framesB seg0.all).length = 0 := by simp [seg0, Seg.all, framesB]
          omega)
        have hcr1 := hcr 1000
        rw [show seg0.i0 + seg0.pre.length + 1 = 1 from rfl] at hcr1 hrel
        have hfull := full_of hsum HOK.out.symm
        obtain ⟨bl2, SS, rfl, hl2, -, hss, hc2⟩ := compP_ok hcp hr0
        obtain ⟨hr2, hbk2, hbl2, hTl2⟩ := HDK.out.refAt hc2
        have hrc := rcompactL_any HDK.out.d.rel HDK.out.d.bnd (by omega) (by omega) (by omega) 1000 (.slice va R.length vc) R T a c P w2 hr2 hTl2 HDK.out.d.files (HQ.out.later hbl2) hP60 hsum
        rw [← HOK.out, hcr1] at hrc
        have HRC := Lib.hid hrc
        have hbn2 := bnd_comp HDK.out.d.bnd (framesB ([] :: P.map SL.l)) 1000
        have hnM : L.n + 1 = 2 := by rw [HDK.out.d.rel.n, HM.out]; rfl
        obtain ⟨D2, hD2⟩ : ∃ D2, D2 = (compK doP (framesB ([] :: P.map SL.l)) (L.n + 1) 0 L.D).1 := ⟨_, rfl⟩
        rw [← hD2] at hrel hl2 hbn2
        have hrel2 : RelL ⟨L.n + 1, ((framesB ([] :: P.map SL.l)).length : Int), 0, 1000, D2⟩ (segL 100000 1000 (segK 1 (P.map SL.l))) := ⟨hnM, rfl, rfl, rfl, hrel⟩
        obtain ⟨L2, hL2⟩ : ∃ L2 : LS, L2 = ⟨L.n + 1, ((framesB ([] :: P.map SL.l)).length : Int), 0, 1000, D2⟩ := ⟨_, rfl⟩
        rw [← hL2] at hrel2 hl2 hbn2
        have hL2D : L2.D = D2 := by rw [hL2]
        have hL2m : L2.most = 1000 := by rw [hL2]
        have hL2n : L2.n = 2 := by rw [hL2]; exact hnM
        obtain ⟨M2, hM2⟩ : ∃ M2, M2 = segL 100000 1000 (segK 1 (P.map SL.l)) := ⟨_, rfl⟩
        rw [← hM2] at hrel2 HRC
        have HFIN := Lib.hid (fun (w3 : World) (a' : Option Addr) (c' : Nat) (R' : List RF) (h1 : RLi w3 (.slice a' R'.length c') R' (fun k => T k ∨ w2.heap.size ≤ k)) (h2 : Below w2.heap.size w2 w3) (h3 : R'.map RF.f = M2.D.files) =>
          (HDK.out.compacted (q' := 6) (s' := 0 + (framesB ([] :: P.map SL.l)).length) hl2 hss hc2 h1 h2 h3 hrel2 hbn2 (by rw [hL2m]; decide)).kept)
        have HB2 := Lib.hid hbl2
        have HXQ2 := Lib.hid ((hbl2.block _ HBQ.out).trans hbx.out)
        have HBK2 := Lib.hid hbk2
        have HL2n := Lib.hid hL2n
        have HM2 := Lib.hid hM2
        have HFULL := Lib.hid hfull
        clear hrc hr2 hbk2 hbl2 hTl2 hc2 hcp HCP y0 y1 hos hr0 hrel hcr hcr1 hl2 hss hbn2 hnM hD2 hrel2 hL2 hL2D hL2m hL2n hM2 hfull HXQ
        unfold rlog at HRC
        unfold rcell at HBK2
        have y0 := cellAt HXQ2.out 0 rfl
        have y1 := cellAt HXQ2.out 1 rfl
        obtain ⟨x0, x1, x2, x3, x4, x5, x6, x7⟩ := cells8w HBK2.out
        go_wp2_with fail
        refine HRC.out.mono ?_
        rintro e w3 ⟨v', R2, rfl, hf3, hr3, hb3⟩
        obtain ⟨a3, c3, rfl⟩ := slice_form hr3.row
        unfold rlog
        have HDL := Lib.hid (HFIN.out w3 a3 c3 R2 hr3 hb3 hf3)
        clear hr3 hb3 hf3 x0 x1 x2 x3 x4 x5 x6 x7 HRC HXQ2 HBK2 y0 y1 HB2 HFIN HDK HM
        unfold rcell at HDL
        go_upto_region 6 with fail
        generalize w3.alloc (.cells #[.int .i64 M2.D.room, .slice a3 R2.length c3, .int .i64 M2.D.plan, .bool M2.D.down, .int .i64 M2.most, .int .i64 M2.n, .int .i64 M2.size, .int .i64 M2.waiting] 34) = w4 at *
        obtain ⟨B8, hB8⟩ : ∃ B8, B8 = w3.heap.size := ⟨_, rfl⟩
        rw [← hB8] at HDL ⊢
        clear hB8 w3
        have HT2 : Hid (∃ T2 : Nat → Prop, DuelL wq w4 bl2 bx B8 L2 M2 a3 c3 R2 SS T2 (0 + (framesB ([] :: P.map SL.l)).length) 6) := ⟨_, HDL.out⟩
        clear HDL
        obtain ⟨T2, hd4⟩ := HT2.out
        have HDL := Lib.hid hd4
        clear hd4 HT2
        go_wp2_with fail
        refine (tcompact_nil1 _ _ _ _ _ _).mono ?_
        rintro e w5 ⟨rfl, hw5⟩
        obtain rfl := hw5.symm
        clear hw5
        go_wp2_with fail
        refine (tcompact_nil2 _ _ _ _ _ _).mono ?_
        rintro e w5 ⟨rfl, hw5⟩
        obtain rfl := hw5.symm
        clear hw5
        have HXQ4 := Lib.hid ((HDL.out.d.bel.block _ HBQ.out).trans hbx.out)
        have y1 := cellAt HXQ4.out 1 rfl
        have hb0 := HDL.out.d.bnd.n0
        have hpf := HPF.out
        have HCP := Lib.hid (compact_any bx bl2 L2 SS 1000 a2 c2 P2 w4 HDL.out.d.log (fun k hk => (HDL.out.d.sS k hk).2) (fun w' hc => tab_below HTQ.out (HDL.out.d.bel.trans (hc.toBelow HDL.out.d.bel.size (fun k hk e => by have := (HDL.out.d.sS k e).1; omega)))) HDL.out.d.bnd.d (by omega) (by omega) (by omega) (HQ2.out.later HDL.out.d.bel) (by omega) (lens_of hsum2))
        have HPF2 := Lib.hid (frames_few hsum2 hP602)
        have HOK1 := Lib.hid HOK.out
        obtain ⟨ok, hok⟩ : ∃ ok, ok = P2.all fullB := ⟨_, rfl⟩
        have HOK := Lib.hid hok
        rw [← hok] at HCP
        clear hok hb0 hpf HOK1
        go_wp2_with fail
        refine HCP.out.mono ?_
        intro e w5 hcp
        cases ok with
        | false =>
          obtain ⟨SS5, rfl, hd5, hss5, hc5⟩ := compP_bad hcp (.inl rfl)
          have hfd := find_segK (n := 1) (by decide) HFULL.out (by have := HDL.out.d.rel.rel; rw [HM2.out] at this; exact this)
          have hd5 : DRep w5 (.pointer (some ⟨bx, 0, none⟩)) L2.D SS5 := hd5
          have hbn5 : Bnd L2.D 2000 7 := HDL.out.d.bnd.d.more (by have := HPF.out; omega) (by omega)
          have hrel5 := HDL.out.d.rel.rel
          obtain ⟨D5, hD5⟩ : ∃ D5, D5 = L2.D := ⟨_, rfl⟩
          rw [← hD5] at hd5 hbn5 hfd hrel5
          obtain ⟨M5, hM5⟩ : ∃ M5, M5 = M2 := ⟨_, rfl⟩
          have hrel6 : Rel D5 M5.D := by rw [hM5]; exact hrel5
          have hcz : compR M2 1000 false (framesB ([] :: P2.map SL.l)) = (M5, 2) := by rw [hM5]; rfl
          obtain ⟨Q, hQ⟩ : ∃ Q : List SL, Q = P := ⟨_, rfl⟩
          rw [← hQ] at hfd
          have hQ60 : Q.length ≤ 60 := by rw [hQ]; exact hP60
          obtain ⟨hr5, hbk5, hbl5, hTl5⟩ := HDL.out.refAt hc5
          have hrc := rcompactL_any HDL.out.d.rel HDL.out.d.bnd (by have := HPF.out; omega) (by omega) (by omega) 1000 (.slice a3 R2.length c3) R2 T2 a2 c2 P2 w5 hr5 hTl5 HDL.out.d.files (HQ2.out.later hbl5) hP602 hsum2
          rw [← HOK.out, hcz] at hrc
          have HRC := Lib.hid hrc
          have HB5 := Lib.hid hbl5
          have HXQ5 := Lib.hid ((hbl5.block _ HBQ.out).trans hbx.out)
          have HBK5 := Lib.hid hbk5
          have HD5 := Lib.hid hd5
          have HFD := Lib.hid hfd
          have HBN5 := Lib.hid hbn5
          have HREL6 := Lib.hid hrel6
          clear hrc hr5 hbk5 hbl5 hTl5 hc5 hcp HCP hcz hd5 hfd hbn5 hrel6 hss5 hQ hM5 hD5 y1 
          unfold rlog at HRC
          unfold rcell at HBK5
          have y1 := cellAt HXQ5.out 1 rfl
          obtain ⟨x0, x1, x2, x3, x4, x5, x6, x7⟩ := cells8w HBK5.out
          go_wp2_with fail
          refine HRC.out.mono ?_
          rintro e w6 ⟨v', R6, rfl, hf6, hr6, hb6⟩
          obtain ⟨a6, c6, rfl⟩ := slice_form hr6.row
          unfold rlog
          have hal6 : Below w6.heap.size w6 (w6.alloc (.cells #[.int .i64 M5.D.room, .slice a6 R6.length c6, .int .i64 M5.D.plan, .bool M5.D.down, .int .i64 M5.most, .int .i64 M5.n, .int .i64 M5.size, .int .i64 M5.waiting] 34)) := (Below.refl _ _).alloc (Nat.le_refl _) _
          have HB57 := Lib.hid (hb6.trans (hal6.mono hb6.size))
          have HB7 := Lib.hid (HB5.out.trans (HB57.out.mono HB5.out.size))
          have HX7 : Hid ((w6.alloc (.cells #[.int .i64 M5.D.room, .slice a6 R6.length c6, .int .i64 M5.D.plan, .bool M5.D.down, .int .i64 M5.most, .int .i64 M5.n, .int .i64 M5.size, .int .i64 M5.waiting] 34)).heap[w6.heap.size]? = some (.cells #[.int .i64 M5.D.room, .slice a6 R6.length c6, .int .i64 M5.D.plan, .bool M5.D.down, .int .i64 M5.most, .int .i64 M5.n, .int .i64 M5.size, .int .i64 M5.waiting] 34 (0, 0))) := heap_alloc_new _ _
          have HR7 := Lib.hid (hr6.below hal6)
          have HF7 := Lib.hid hf6
          clear hr6 hb6 hf6 hal6 x0 x1 x2 x3 x4 x5 x6 x7 HRC HXQ5 HBK5 y1 HB5 HDL HXQ4
          go_upto_region 14 with fail
          generalize w6.alloc (.cells #[.int .i64 M5.D.room, .slice a6 R6.length c6, .int .i64 M5.D.plan, .bool M5.D.down, .int .i64 M5.most, .int .i64 M5.n, .int .i64 M5.size, .int .i64 M5.waiting] 34) = w7 at *
          obtain ⟨B7, hB7⟩ : ∃ B7, B7 = w6.heap.size := ⟨_, rfl⟩
          rw [← hB7] at HX7 ⊢
          have hlk := look_any _ D5 _ w7 (HD5.out.frame (fun k _ hk => HB57.out.block k hk)) (tab_below HTQ.out HB7.out) (by have := HBN5.out.len; omega) (by have := HBN5.out.sum; omega) (fun f hf => by have := HBN5.out.nm f hf; unfold maxLen; omega)
          have HLK := Lib.hid hlk
          clear hlk hB7 HD5
          go_wp2_with fail
          refine HLK.out.mono ?_
          intro e w8 hlo
          obtain ⟨ra, rc, X, rfl, hsx, hxl, hb8⟩ := look_ok hlo HFD.out.1
          have HSX := Lib.hid hsx
          have HXL := Lib.hid (hxl.trans HFD.out.2)
          have HB78 := Lib.hid hb8
          have HB8 := Lib.hid (HB7.out.trans (hb8.mono HB7.out.size))
          clear hlo hsx hxl hb8 HLK
          go_wp2_with fail
          refine (HAL.out _ HB8.out).mono ?_
          rintro e w9 ⟨rfl, hb9⟩
          have HB79 := Lib.hid (HB78.out.trans (hb9.mono HB78.out.size))
          have HB9 := Lib.hid (HB7.out.trans (HB79.out.mono HB7.out.size))
          have HSX9 := Lib.hid (HSX.out.later hb9)
          have HX9 := Lib.hid ((HB79.out.block _ (lt_of_heap HX7.out)).trans HX7.out)
          have HR9 := Lib.hid (HR7.out.below HB79.out)
          have hfs : findS M5.D = findS D5 := (rel_find HREL6.out).symm
          have hRl : R6.length ≤ 1000 := by
            have h1 := congrArg List.length HF7.out
            rw [List.length_map] at h1
            have := HREL6.out.len
            have := HBN5.out.len
            omega
          have hRb : ∀ r ∈ R6, r.f.b.length ≤ 100000 := fun r hr => by
            have h1 : r.f ∈ M5.D.files := by rw [← HF7.out]; exact List.mem_map_of_mem hr
            have h2 := mem_sumD h1
            have := HREL6.out.sum
            have := HBN5.out.sum
            omega
          have hrf := rfindlog_any M5.D.room M5.D.plan M5.D.down (.slice a6 R6.length c6) R6 _ w9 HR9.out hRl hRb
          have hMD : (⟨M5.D.room, R6.map RF.f, M5.D.plan, M5.D.down⟩ : DS) = M5.D := by rw [HF7.out]
          rw [hMD, hfs] at hrf
          have HRF := Lib.hid hrf
          have HRD := Lib.hid (rdr_of HR9.out)
          clear hb9 HSX HB78 HB8 hfs hRl hRb hrf hMD HR7 HX7
          obtain ⟨x0, x1, x2, x3, x4, x5, x6, x7⟩ := cells8w HX9.out
          unfold logV at HRF
          go_wp2_with fail
          refine HRF.out.mono ?_
          rintro e w10 ⟨hb10, Lx, xa, xr, xca, xcr, xf, X5, rfl, -, hX5, hrx, hxe, -, -, hxn⟩
          unfold logV
          have hfl3 := rlog_field3
          have hsx5 : SLs w10 (.slice xr X5.length xcr) X5 := ⟨hX5.reads, fun x hx => (hrx x hx).2 w10 (rdr_of (HR9.out.below hb10))⟩
          have hln : (X.map slOf).length ≤ 1000000000 := by
            have h1 := congrArg List.length HXL.out
            simp only [List.length_map] at h1 ⊢
            omega
          have HSM := Lib.hid (rsameL_any (.slice ra X.length rc) (.slice xr X5.length xcr) (X.map slOf) X5 w10 (HSX9.out.later hb10) hsx5 (HXL.out.trans (hxe.trans HFD.out.2).symm) hln)
          have HB510 := Lib.hid (HB57.out.trans ((HB79.out.trans (hb10.mono HB79.out.size)).mono HB57.out.size))
          have HB10 := Lib.hid (HB9.out.trans (hb10.mono HB9.out.size))
          clear hsx5 hln hb10 hX5 hrx hxe hxn HRF HRD HSX9 HX9 HR9 x0 x1 x2 x3 x4 x5 x6 x7 HXL HFD HF7 HREL6
          go_wp2_with fail
          refine HSM.out.mono ?_
          rintro e w11 ⟨rfl, hb11⟩
          have HBY := Lib.hid (HB510.out.trans (hb11.mono HB510.out.size))
          have HBZ := Lib.hid (HB0.out.trans ((HB10.out.trans (hb11.mono HB10.out.size)).mono HB0.out.size))
          clear hb11 HSM
          go_wp2
          go_ret
          exact ⟨rfl, HBZ.out⟩
        | true =>
          obtain ⟨hr0, hrel, hcr⟩ := comp_seg (s := segK 1 (P.map SL.l)) HDL.out.d.rel HM2.out (by show 1 + 0 + 1 ≤ 1000; decide) (only_segK _ _ _) (P2.map SL.l) (by
            have h1 := HPF.out
            have h2 := HPF2.out
            show (((framesB ([] ++ ([] :: P.map SL.l))).length : Nat) : Int) + _ ≤ 100000
            rw [List.nil_append]; omega)
          have hfull := full_of hsum2 HOK.out.symm
          obtain ⟨bl3, SS5, rfl, hl5, -, hss5, hc5⟩ := compP_ok hcp hr0
          have hbn5 := (bnd_comp HDL.out.d.bnd (framesB ([] :: P2.map SL.l)) 1000).d
          have hfd := find_segK (n := 2) (by decide) hfull hrel
          have hcz := hcr 1000
          obtain ⟨D5, hD5⟩ : ∃ D5, D5 = (compK doP (framesB ([] :: P2.map SL.l)) (L2.n + 1) 0 L2.D).1 := ⟨_, rfl⟩
          rw [← hD5] at hl5 hbn5 hfd hrel
          have hbn5 : Bnd D5 4000 13 := hbn5.more (by have := HPF.out; have := HPF2.out; omega) (by omega)
          have hd5 : DRep w5 (.pointer (some ⟨bx, 0, none⟩)) D5 (fun k => SS5 k ∧ k ≠ bl3) := hl5.dsk
          have hsg : Calls Tryz.prog 35 #[.pointer (some ⟨bl3, 0, none⟩)] w5 fun e w' => e = .returned (.int .i64 (L2.n + 1)) ∧ w' = w5 := lsegment_any _ bl3 _ SS5 w5 hl5
          have HLAT := Lib.hid hl5
          have hn3 : L2.n + 1 = 3 := by rw [HL2n.out]; rfl
          obtain ⟨M5, hM5⟩ : ∃ M5, M5 = segL 100000 1000 (segK ((segK 1 (P.map SL.l)).i0 + (segK 1 (P.map SL.l)).pre.length + 1) (P2.map SL.l)) := ⟨_, rfl⟩
          rw [← hM5] at hcz
          have hrel6 : Rel D5 M5.D := by rw [hM5]; exact hrel
          obtain ⟨Q, hQ⟩ : ∃ Q : List SL, Q = P2 := ⟨_, rfl⟩
          rw [← hQ] at hfd
          have hQ60 : Q.length ≤ 60 := by rw [hQ]; exact hP602
          have HN3 := Lib.hid hn3
          clear hn3 hsg hfull hr0 hrel hcr
          obtain ⟨hr5, hbk5, hbl5, hTl5⟩ := HDL.out.refAt hc5
          have hrc := rcompactL_any HDL.out.d.rel HDL.out.d.bnd (by have := HPF.out; omega) (by omega) (by omega) 1000 (.slice a3 R2.length c3) R2 T2 a2 c2 P2 w5 hr5 hTl5 HDL.out.d.files (HQ2.out.later hbl5) hP602 hsum2
          rw [← HOK.out, hcz] at hrc
          have HRC := Lib.hid hrc
          have HB5 := Lib.hid hbl5
          have HXQ5 := Lib.hid ((hbl5.block _ HBQ.out).trans hbx.out)
          have HBK5 := Lib.hid hbk5
          have HD5 := Lib.hid hd5
          have HFD := Lib.hid hfd
          have HBN5 := Lib.hid hbn5
          have HREL6 := Lib.hid hrel6
          clear hrc hr5 hbk5 hbl5 hTl5 hc5 hcp HCP hcz hd5 hfd hbn5 hrel6 hss5 hQ hM5 hD5 y1 
          unfold rlog at HRC
          unfold rcell at HBK5
          have y1 := cellAt HXQ5.out 1 rfl
          obtain ⟨x0, x1, x2, x3, x4, x5, x6, x7⟩ := cells8w HBK5.out
          go_wp2_with fail
          refine HRC.out.mono ?_
          rintro e w6 ⟨v', R6, rfl, hf6, hr6, hb6⟩
          obtain ⟨a6, c6, rfl⟩ := slice_form hr6.row
          unfold rlog
          have hal6 : Below w6.heap.size w6 (w6.alloc (.cells #[.int .i64 M5.D.room, .slice a6 R6.length c6, .int .i64 M5.D.plan, .bool M5.D.down, .int .i64 M5.most, .int .i64 M5.n, .int .i64 M5.size, .int .i64 M5.waiting] 34)) := (Below.refl _ _).alloc (Nat.le_refl _) _
          have HB57 := Lib.hid (hb6.trans (hal6.mono hb6.size))
          have HB7 := Lib.hid (HB5.out.trans (HB57.out.mono HB5.out.size))
          have HX7 : Hid ((w6.alloc (.cells #[.int .i64 M5.D.room, .slice a6 R6.length c6, .int .i64 M5.D.plan, .bool M5.D.down, .int .i64 M5.most, .int .i64 M5.n, .int .i64 M5.size, .int .i64 M5.waiting] 34)).heap[w6.heap.size]? = some (.cells #[.int .i64 M5.D.room, .slice a6 R6.length c6, .int .i64 M5.D.plan, .bool M5.D.down, .int .i64 M5.most, .int .i64 M5.n, .int .i64 M5.size, .int .i64 M5.waiting] 34 (0, 0))) := heap_alloc_new _ _
          have HR7 := Lib.hid (hr6.below hal6)
          have HF7 := Lib.hid hf6
          clear hr6 hb6 hf6 hal6 x0 x1 x2 x3 x4 x5 x6 x7 HRC HXQ5 HBK5 y1 HB5 HDL HXQ4
          go_upto_region 14 with fail
          generalize w6.alloc (.cells #[.int .i64 M5.D.room, .slice a6 R6.length c6, .int .i64 M5.D.plan, .bool M5.D.down, .int .i64 M5.most, .int .i64 M5.n, .int .i64 M5.size, .int .i64 M5.waiting] 34) = w7 at *
          obtain ⟨B7, hB7⟩ : ∃ B7, B7 = w6.heap.size := ⟨_, rfl⟩
          rw [← hB7] at HX7 ⊢
          have hlk := look_any _ D5 _ w7 (HD5.out.frame (fun k _ hk => HB57.out.block k hk)) (tab_below HTQ.out HB7.out) (by have := HBN5.out.len; omega) (by have := HBN5.out.sum; omega) (fun f hf => by have := HBN5.out.nm f hf; unfold maxLen; omega)
          have HLK := Lib.hid hlk
          clear hlk hB7 HD5
          go_wp2_with fail
          refine HLK.out.mono ?_
          intro e w8 hlo
          obtain ⟨ra, rc, X, rfl, hsx, hxl, hb8⟩ := look_ok hlo HFD.out.1
          have HSX := Lib.hid hsx
          have HXL := Lib.hid (hxl.trans HFD.out.2)
          have HB78 := Lib.hid hb8
          have HB8 := Lib.hid (HB7.out.trans (hb8.mono HB7.out.size))
          clear hlo hsx hxl hb8 HLK
          go_wp2_with fail
          refine (HAL.out _ HB8.out).mono ?_
          rintro e w9 ⟨rfl, hb9⟩
          have HB79 := Lib.hid (HB78.out.trans (hb9.mono HB78.out.size))
          have HB9 := Lib.hid (HB7.out.trans (HB79.out.mono HB7.out.size))
          have HSX9 := Lib.hid (HSX.out.later hb9)
          have HX9 := Lib.hid ((HB79.out.block _ (lt_of_heap HX7.out)).trans HX7.out)
          have HR9 := Lib.hid (HR7.out.below HB79.out)
          have hfs : findS M5.D = findS D5 := (rel_find HREL6.out).symm
          have hRl : R6.length ≤ 1000 := by
            have h1 := congrArg List.length HF7.out
            rw [List.length_map] at h1
            have := HREL6.out.len
            have := HBN5.out.len
            omega
          have hRb : ∀ r ∈ R6, r.f.b.length ≤ 100000 := fun r hr => by
            have h1 : r.f ∈ M5.D.files := by rw [← HF7.out]; exact List.mem_map_of_mem hr
            have h2 := mem_sumD h1
            have := HREL6.out.sum
            have := HBN5.out.sum
            omega
          have hrf := rfindlog_any M5.D.room M5.D.plan M5.D.down (.slice a6 R6.length c6) R6 _ w9 HR9.out hRl hRb
          have hMD : (⟨M5.D.room, R6.map RF.f, M5.D.plan, M5.D.down⟩ : DS) = M5.D := by rw [HF7.out]
          rw [hMD, hfs] at hrf
          have HRF := Lib.hid hrf
          have HRD := Lib.hid (rdr_of HR9.out)
          clear hb9 HSX HB78 HB8 hfs hRl hRb hrf hMD HR7 HX7
          obtain ⟨x0, x1, x2, x3, x4, x5, x6, x7⟩ := cells8w HX9.out
          unfold logV at HRF
          go_wp2_with fail
          refine HRF.out.mono ?_
          rintro e w10 ⟨hb10, Lx, xa, xr, xca, xcr, xf, X5, rfl, -, hX5, hrx, hxe, -, -, hxn⟩
          unfold logV
          have hfl3 := rlog_field3
          have hsx5 : SLs w10 (.slice xr X5.length xcr) X5 := ⟨hX5.reads, fun x hx => (hrx x hx).2 w10 (rdr_of (HR9.out.below hb10))⟩
          have hln : (X.map slOf).length ≤ 1000000000 := by
            have h1 := congrArg List.length HXL.out
            simp only [List.length_map] at h1 ⊢
            omega
          have HSM := Lib.hid (rsameL_any (.slice ra X.length rc) (.slice xr X5.length xcr) (X.map slOf) X5 w10 (HSX9.out.later hb10) hsx5 (HXL.out.trans (hxe.trans HFD.out.2).symm) hln)
          have HB510 := Lib.hid (HB57.out.trans ((HB79.out.trans (hb10.mono HB79.out.size)).mono HB57.out.size))
          have HB10 := Lib.hid (HB9.out.trans (hb10.mono HB9.out.size))
          clear hsx5 hln hb10 hX5 hrx hxe hxn HRF HRD HSX9 HX9 HR9 x0 x1 x2 x3 x4 x5 x6 x7 HXL HFD HF7 HREL6
          go_wp2_with fail
          refine HSM.out.mono ?_
          rintro e w11 ⟨rfl, hb11⟩
          have HBY := Lib.hid (HB510.out.trans (hb11.mono HB510.out.size))
          have HBZ := Lib.hid (HB0.out.trans ((HB10.out.trans (hb11.mono HB10.out.size)).mono HB0.out.size))
          clear hb11 HSM
          go_wp2_with fail
          refine (lsegment_any _ bl3 _ SS5 _ (HLAT.out.later HBY.out)).mono ?_
          rintro e w12 ⟨rfl, hw12⟩
          obtain rfl := hw12.symm
          rw [show ((⟨L2.n + 1, ((framesB ([] :: P2.map SL.l)).length : Int), 0, 1000, D5⟩ : LS)).n = 3 from HN3.out]
          clear hw12
          go_wp2
          go_ret
          exact ⟨rfl, HBZ.out⟩
end Go.Proofs.YtgdmdbdljmlkkaaGreatDoor
