/- TrimCrashes -/
import Derived.Test.YtgdmdbdljmlkkaaGreatDoorTz41
set_option maxRecDepth 100000
set_option linter.unusedVariables false
set_option linter.unusedSimpArgs false
namespace Go.Proofs.YtgdmdbdljmlkkaaGreatDoor
open Go.RowKit
set_option maxHeartbeats 8000000 in
theorem trimCrashes_any (p : Int) (hp : 0 ≤ p ∧ p ≤ 255) (a : Option Addr) (c : Nat) (P : List SL) (a2 : Option Addr) (c2 : Nat) (P2 : List SL) (ka : Option Addr) (kc : Nat) (ks : List Int) (w : World) (h : SLs w (.slice a P.length c) P) (hl : P.length ≤ 5864062014805) (he : ∀ x ∈ P, x.l.length ≤ 9223372036854775807)
   (h2 : SLs w (.slice a2 P2.length c2) P2) (hl2 : P2.length ≤ 5864062014805) (he2 : ∀ x ∈ P2, x.l.length ≤ 9223372036854775807) (h3 : Reads w (.slice ka ks.length kc) ks.length 1 (ks.map (Value.int .i64))) (hl3 : ks.length ≤ 9223372036854775807) (ht : Tab w) :
   Calls Tryz.prog 13 #[.agg #[.slice a P.length c, .slice a2 P2.length c2], .int .u8 p, .slice ka ks.length kc] w fun e w' => e = .returned (.bool true) ∧ Below w.heap.size w w' := by
 have H3 := Lib.hid h3
 obtain ⟨hp0, hp1⟩ := hp
 have H := Lib.hid h
 have H2 := Lib.hid h2
 have HT := Lib.hid ht
 have HHE := Lib.hid he
 have HHE2 := Lib.hid he2
 have hbx : Hid ((w.alloc (.cells #[.slice a P.length c, .slice a2 P2.length c2] 80)).heap[w.heap.size]? = some (.cells #[.slice a P.length c, .slice a2 P2.length c2] 80 (0, 0))) := heap_alloc_new w _
 have HB0 : Hid (Below w.heap.size w (w.alloc (.cells #[.slice a P.length c, .slice a2 P2.length c2] 80))) := (Below.refl _ _).alloc (Nat.le_refl _) _
 clear h h2 h3 ht he he2
 go_enter Tryz.func13, Tryz.ntmps13
 go_upto_region 1 with fail
 generalize w.alloc (.cells #[.slice a P.length c, .slice a2 P2.length c2] 80) = wq at *
 obtain ⟨bq, hbq⟩ : ∃ bq, bq = w.heap.size := ⟨_, rfl⟩
 rw [← hbq] at hbx ⊢
 have HBQ : Hid (bq < wq.heap.size) := lt_of_heap hbx.out
 clear hbq
 have k0 := cellAt hbx.out 0 rfl
 have k1 := cellAt hbx.out 1 rfl
 have HQ := Lib.hid (H.out.later HB0.out)
 have HQ2 := Lib.hid (H2.out.later HB0.out)
 have HTQ := Lib.hid (tab_below HT.out HB0.out)
 have HQ3 := Lib.hid (H3.out.later HB0.out)
 have HFE := Lib.hid (rfewL_any _ P wq HQ.out hl HHE.out)
 have HFE2 := Lib.hid (rfewL_any _ P2 wq HQ2.out hl2 HHE2.out)
 have HAL := Lib.hid (fun (w' : World) (hb : Below wq.heap.size wq w') => talive_any w' (tab_below HTQ.out hb))
 clear H H2 H3 HHE HHE2 HT
 go_wp2_with fail
 refine HFE.out.mono ?_
 rintro e w1 ⟨⟨b, rfl, hb⟩, hw1⟩
 obtain rfl := hw1.symm
 clear hw1 HFE
 cases b with
 | false =>
   clear hb HFE2
   go_wp2_with fail
   refine (HAL.out _ (Below.refl _ _)).mono ?_
   rintro e w1 ⟨rfl, hb⟩
   have HB := Lib.hid (HB0.out.trans (hb.mono HB0.out.size))
   clear hb
   go_wp2
   go_ret
   exact ⟨rfl, HB.out⟩
 | true =>
   obtain ⟨hP60, hsum⟩ := hb rfl
   clear hb hl
   go_wp2_with fail
   refine HFE2.out.mono ?_
   rintro e w1 ⟨⟨b, rfl, hb⟩, hw1⟩
   obtain rfl := hw1.symm
   clear hw1 HFE2
   cases b with
   | false =>
     clear hb
     go_wp2_with fail
     refine (HAL.out _ (Below.refl _ _)).mono ?_
     rintro e w1 ⟨rfl, hb⟩
     have HB := Lib.hid (HB0.out.trans (hb.mono HB0.out.size))
     clear hb
     go_wp2
     go_ret
     exact ⟨rfl, HB.out⟩
   | true =>
     obtain ⟨hP602, hsum2⟩ := hb rfl
     clear hb hl2
     by_cases hp5 : ks.length ≤ 30
     case neg =>
       have hp6 : (30 : Int) < (ks.length : Int) := by omega
       go_wp2_with fail
       refine (HAL.out _ (Below.refl _ _)).mono ?_
       rintro e w1 ⟨rfl, hb⟩
       have HB := Lib.hid (HB0.out.trans (hb.mono HB0.out.size))
       clear hb
       go_wp2
       go_ret
       exact ⟨rfl, HB.out⟩
     have hp6 : ¬ (30 : Int) < (ks.length : Int) := by omega
     have HST := Lib.hid (tstart_any 100000 30 (by omega) (by omega) a c P wq HTQ.out HQ.out hP60 hsum)
     go_wp2_with fail
     refine HST.out.mono ?_
     rintro e w1 ⟨bx, bl, L0, M0, va0, vc0, R0, S0, T0, rfl, hd, hM, hmo⟩
     have hps := puts_seg (most := 30) (room := 100000) P hP60 (by omega) (by omega) P.length (Nat.le_refl _)
     rw [List.take_length, ← hM] at hps
     obtain ⟨s, hs0, hnum, hdur, hle, hcod, htor, hfr⟩ := synced_facts (most := 30) (room := 100000) hP60 hsum
     have hsn : (runS 30 seg0 (P.map SL.l)).i0 + (runS 30 seg0 (P.map SL.l)).pre.length + 1 ≤ 100 := by rw [hs0] at hnum; exact hnum
     have hsy : synG opsF M0 = (segL 100000 30 s, 0) := by rw [hps, synG_seg (by omega), hs0]
     have HSY : Hid (synG opsF M0 = (segL 100000 30 s, 0)) := hsy
     have HDU := Lib.hid hdur
     have HLE := Lib.hid hle
     have HCT := Lib.hid (And.intro hcod htor)
     have HNU : Hid (s.i0 + s.pre.length + 1 ≤ 100) := hnum
     have HDK := Lib.hid hd.kept
     clear hd hM hmo HST hps hs0 hnum hdur hle hcod htor hfr hsn hsy hp6
     go_upto_region 4 with fail
     unfold rcell at HDK
     generalize w1.alloc (.cells #[.int .i64 M0.D.room, .slice va0 R0.length vc0, .int .i64 M0.D.plan, .bool M0.D.down, .int .i64 M0.most, .int .i64 M0.n, .int .i64 M0.size, .int .i64 M0.waiting] 34) = wa at *
     obtain ⟨B9, hB9⟩ : ∃ B9, B9 = w1.heap.size := ⟨_, rfl⟩
     rw [← hB9] at HDK ⊢
     clear hB9 w1 k0 k1
     have hcode : (synG opsD L0).2 = 0 := by rw [(rel_synG HDK.out.d.rel).1, HSY.out]
     have hrel1 : RelL (synG opsD L0).1 (segL 100000 30 s) := by have := (rel_synG HDK.out.d.rel).2; rwa [HSY.out] at this
     have hbn1 := bnd_synG HDK.out.d.bnd
     have hmst : (synG opsD L0).1.most = L0.most := by unfold synG; split <;> rfl
     have hls := lsync_any L0 bl (.pointer (some ⟨bx, 0, none⟩)) S0 wa HDK.out.d.log (tab_below HTQ.out HDK.out.d.bel) HDK.out.d.bnd.d.plan
     unfold LPost at hls
     rw [hcode] at hls
     generalize (synG opsD L0).1 = Ls at *
     have HLS := Lib.hid hls
     clear hls hcode
     go_wp2_with fail
     refine HLS.out.mono ?_
     rintro e w2 ⟨rfl, hl1, hc1⟩
     obtain ⟨hr2, hbk2, hbl2, hTl2⟩ := HDK.out.refAt hc1
     have HL1 := Lib.hid hl1
     have HC1 := Lib.hid hc1
     have hrs := rsyncL_any M0 (.slice va0 R0.length vc0) R0 T0 w2 hr2 HDK.out.d.files (by
       have h1 := congrArg List.length HDK.out.d.files
       rw [List.length_map] at h1
       rw [h1, ← HDK.out.d.rel.rel.len]; have := HDK.out.d.bnd.d.len; omega) (by rw [← HDK.out.d.rel.rel.plan]; exact HDK.out.d.bnd.d.plan) (by rw [sumR_f, HDK.out.d.files, ← HDK.out.d.rel.rel.sum]; have := HDK.out.d.bnd.d.sum; omega)
     unfold MPst at hrs
     rw [HSY.out] at hrs
     obtain ⟨Ms, hM1⟩ : ∃ Ms, Ms = segL 100000 30 s := ⟨_, rfl⟩
     rw [← hM1] at hrs hrel1
     have HM1 := Lib.hid hM1
     have HRS := Lib.hid hrs
     have HBK2 := Lib.hid hbk2
     have HREL1 := Lib.hid hrel1
     have HBN1 := Lib.hid hbn1
     have HMST := Lib.hid hmst
     have HBL2 := Lib.hid hbl2
     clear hr2 hbk2 hbl2 hTl2 hl1 hc1 hrs hrel1 hbn1 hmst hM1 HLS HSY
     unfold rlog at HRS
     unfold rcell at HBK2
     obtain ⟨x0, x1, x2, x3, x4, x5, x6, x7⟩ := cells8w HBK2.out
     go_wp2_with fail
     go_upto_region 6 with fail
     go_wp2_with fail
     refine HRS.out.mono ?_
     rintro e w3 ⟨v', R, rfl, hf3, hr3, hb3⟩
     obtain ⟨va, vc, rfl⟩ := slice_form hr3.row
     have HBK3 := Lib.hid ((hb3.block _ (lt_of_heap HBK2.out)).trans HBK2.out)
     have HST3 := Lib.hid (log_store HBK3.out (.int .i64 Ms.D.room) (.slice va R.length vc) (.int .i64 Ms.D.plan) (.bool Ms.D.down) (.int .i64 Ms.most) (.int .i64 Ms.n) (.int .i64 Ms.size) (.int .i64 Ms.waiting))
     have HDA := Lib.hid (HDK.out.acted (s' := sumL P + 8 * P.length) HL1.out HC1.out hr3 hb3 hf3 HREL1.out (HBN1.out.more (Nat.le_refl _) (by omega) (by omega)) HMST.out HST3.out.2 HST3.out.1)
     clear x0 x1 x2 x3 x4 x5 x6 x7 hr3 hb3 hf3 HDK HRS HBK2 HL1 HC1 HBL2 HBN1 HMST
     obtain ⟨x0, x1, x2, x3, x4, x5, x6, x7⟩ := cells8w HBK3.out
     have q0 := freeAt HBK3.out 0
     have q1 := freeAt HBK3.out 1
     have q2 := freeAt HBK3.out 2
     have q3 := freeAt HBK3.out 3
     have q4 := freeAt HBK3.out 4
     have q5 := freeAt HBK3.out 5
     have q6 := freeAt HBK3.out 6
     have q7 := freeAt HBK3.out 7
     obtain ⟨S, hS1⟩ : ∃ S1 : Nat → Prop, S1 = (fun k => (S0 k ∨ wa.heap.size ≤ k) ∧ k < w2.heap.size) := ⟨_, rfl⟩
     obtain ⟨T, hT1⟩ : ∃ T1 : Nat → Prop, T1 = (fun k => (T0 k ∨ w2.heap.size ≤ k) ∧ k < w3.heap.size) := ⟨_, rfl⟩
     rw [← hS1, ← hT1] at HDA
     go_upto_region 7 with fail
     clear hS1 hT1 x0 x1 x2 x3 x4 x5 x6 x7 q0 q1 q2 q3 q4 q5 q6 q7 HBK3 HST3 HREL1
     generalize ((((((((w3.setCell ⟨B9, 0, none⟩ (.int .i64 Ms.D.room)).setCell ⟨B9, 1, none⟩ (.slice va R.length vc)).setCell ⟨B9, 2, none⟩ (.int .i64 Ms.D.plan)).setCell ⟨B9, 3, none⟩ (.bool Ms.D.down)).setCell ⟨B9, 4, none⟩ (.int .i64 Ms.most)).setCell ⟨B9, 5, none⟩ (.int .i64 Ms.n)).setCell ⟨B9, 6, none⟩ (.int .i64 Ms.size)).setCell ⟨B9, 7, none⟩ (.int .i64 Ms.waiting)) = wf at *
     have hDL := HDA.out.d.bnd.d
     have hREL := HDA.out.d.rel.rel
     have hFI := HDA.out.d.files
     have hMD : (⟨Ms.D.room, R.map RF.f, Ms.D.plan, Ms.D.down⟩ : DS) = Ms.D := by rw [hFI]
     have hRl : R.length ≤ 1000 := by
       have h1 := congrArg List.length hFI
       rw [List.length_map] at h1
       rw [h1, ← hREL.len]; have := hDL.len; omega
     have hRb : ∀ r ∈ R, r.f.b.length ≤ 100000 := fun r hr => by
       have h1 : r.f ∈ Ms.D.files := by rw [← hFI]; exact List.mem_map_of_mem hr
       have h2 := mem_sumD h1
       have := hREL.sum
       have := hDL.sum
       omega
     have hrf := rfindlog_any Ms.D.room Ms.D.plan Ms.D.down (.slice va R.length vc) R T wf HDA.out.d.lst hRl hRb
     rw [hMD] at hrf
     have HRF := Lib.hid hrf
     have HSF : Hid ((∀ k, S k → k < wf.heap.size) ∧ B9 < wf.heap.size) := ⟨fun k hk => (HDA.out.d.sS k hk).2, lt_of_heap HDA.out.blk⟩
     have hbk4 := HDA.out.blk
     unfold rcell at hbk4
     obtain ⟨x0, x1, x2, x3, x4, x5, x6, x7⟩ := cells8w hbk4
     clear hDL hREL hFI hMD hRl hRb hrf hbk4
     unfold logV at HRF
     go_wp2_with fail
     refine HRF.out.mono ?_
     rintro e wg ⟨hb5, Lx, xa, xr, xca, xcr, xf, X5, rfl, -, hX5, hrx, hxe, -, -, hxn⟩
     unfold logV
     have hfl3 := rlog_field3
     have HDB := Lib.hid (HDA.out.later hb5)
     have HX5 := Lib.hid hX5
     have HRX := Lib.hid hrx
     have HXE : Hid (X5.map SL.l = (findS Ms.D).recs) := hxe
     have HXN := Lib.hid hxn
     clear hb5 hX5 hrx hxe hxn HRF HDA x0 x1 x2 x3 x4 x5 x6 x7
     go_upto_region 8 with fail
     clear hfl3
     have har := arm_any _ p Ls.D _ wg HDB.out.d.log.dsk
     rw [show max p 0 = p by omega] at har
     have HAR := Lib.hid har
     clear har
     go_wp2_with fail
     refine HAR.out.mono ?_
     rintro e wh ⟨rfl, hd6, hc6⟩
     have hda := HDB.out.armed p ⟨hp0, hp1⟩ hd6 hc6
     obtain ⟨M1, hM1⟩ : ∃ M1 : LS, M1 = { Ms with D := { Ms.D with plan := p } } := ⟨_, rfl⟩
     obtain ⟨L1, hL1⟩ : ∃ L1 : LS, L1 = { Ls with D := { Ls.D with plan := p } } := ⟨_, rfl⟩
     rw [← hM1, ← hL1] at hda
     have HDA := Lib.hid hda
     have HMP1 := Lib.hid hM1
     have hbk6 := hc6.heap HDB.out.blk (fun e => HDB.out.bS e.1)
     unfold rcell at hbk6
     have HBK6 := Lib.hid hbk6
     have HC6 := Lib.hid hc6
     have HCA2 : Hid (M1.D.down = false) := by rw [Hid, hM1]; show Ms.D.down = false; rw [HM1.out]; rfl
     clear hd6 hc6 HAR hda hM1 hL1 hbk6
     obtain ⟨x0, x1, x2, x3, x4, x5, x6, x7⟩ := cells8w HBK6.out
     have q2 := freeAt HBK6.out 2
     go_upto_region 10 with fail
     have HCX : Hid (Chg (fun k => S k ∨ k = B9) wg (wh.setCell ⟨B9, 2, none⟩ (.int .i64 p))) := (HC6.out.mono (fun k hk => .inl hk.1)).trans ((Chg.refl (fun k => k = B9) wh).setCell (p := ⟨B9, 2, none⟩) (.inl rfl) _) (fun k hk => .inl (.inr hk))
     clear x0 x1 x2 x3 x4 x5 x6 x7 q2 HBK6 HC6
     generalize wh.setCell ⟨B9, 2, none⟩ (.int .i64 p) = w4 at *
     have HXQ := Lib.hid ((HDA.out.d.bel.block _ HBQ.out).trans hbx.out)
     have y1 := cellAt HXQ.out 1 rfl
     have hb0 := HDA.out.d.bnd.n0
     have HPF2 := Lib.hid (frames_few hsum2 hP602)
     have HCP := Lib.hid (compact_any bx bl L1 S 30 a2 c2 P2 w4 HDA.out.d.log (fun k hk => (HDA.out.d.sS k hk).2) (fun w' hc => tab_below HTQ.out (HDA.out.d.bel.trans (hc.toBelow HDA.out.d.bel.size (fun k hk e => by have := (HDA.out.d.sS k e).1; omega)))) HDA.out.d.bnd.d (by omega) (by omega) (by omega) (HQ2.out.later HDA.out.d.bel) (by omega) (lens_of hsum2))
     have HCB := Lib.hid (comp_both HDA.out.d.rel HCA2.out (by have := HDA.out.d.rel.n; omega) (P2.all fullB) (framesB ([] :: P2.map SL.l)) 30)
     have HBC := Lib.hid (comp_bnd (b := framesB ([] :: P2.map SL.l)) (n := L1.n + 1) HDA.out.d.bnd.d)
     have HRC := Lib.hid (fun (w' : World) (hc : Chg S w4 w') => rcompactL_any HDA.out.d.rel HDA.out.d.bnd (by omega) (by omega) (by omega) 30 (.slice va R.length vc) R T a2 c2 P2 w' (HDA.out.refAt hc).1 (HDA.out.refAt hc).2.2.2 HDA.out.d.files (HQ2.out.later (HDA.out.refAt hc).2.2.1) hP602 hsum2)
     obtain ⟨ok, hok⟩ : ∃ ok, ok = P2.all fullB := ⟨_, rfl⟩
     have HOK := Lib.hid hok
     rw [← hok] at HCP HCB HRC
     clear hok
     generalize hrr : compK doP (framesB ([] :: P2.map SL.l)) (L1.n + 1) 0 L1.D = rr at *
     generalize hXc : compR M1 30 ok (framesB ([] :: P2.map SL.l)) = X at *
     obtain ⟨X1, cx⟩ := X
     simp only at HCB
     have HRR := Lib.hid hXc
     clear hb0 hrr hXc
     go_wp2_with fail
     refine HCP.out.mono ?_
     intro e w5 hcp
     have HGOOD : Hid (∃ (D5 : DS) (S5 : Nat → Prop) (s5 : Nat), DRep w5 (.pointer (some ⟨bx, 0, none⟩)) D5 S5 ∧ Rel D5 X1.D ∧ Bnd D5 s5 100 ∧ s5 ≤ 10000 ∧ Chg S w4 w5 ∧ (∀ k, S5 k → (S k ∨ w4.heap.size ≤ k) ∧ k < w5.heap.size) ∧
         ((cx ≠ 0 ∧ e = .returned (.tuple #[.pointer none, .int .i64 cx])) ∨ (cx = 0 ∧ ∃ bl2 SS, e = .returned (.tuple #[.pointer (some ⟨bl2, 0, none⟩), .int .i64 0]) ∧ LAt w5 bl2 (.pointer (some ⟨bx, 0, none⟩)) ⟨X1.n, X1.size, 0, 30, D5⟩ SS ∧ X1.waiting = 0))) := by
       have hpf := HPF2.out
       obtain ⟨hc1, hrl, hok⟩ := HCB.out
       by_cases hg : ok = true ∧ rr.2 = 0
       · obtain ⟨rfl, hr⟩ := hg
         obtain ⟨bl2, SS, he, hl2, hd2, hss, hc2⟩ := compP_ok hcp hr
         obtain ⟨o1, o2, o3, o4⟩ := hok rfl hr
         rw [if_pos rfl] at hc1 hrl
         refine ⟨rr.1, _, _, hd2, hrl, HBC.out.more (Nat.le_refl _) (by omega), by omega, hc2, fun k hk => hss k hk.1, .inr ⟨by rw [← hc1]; exact hr, bl2, SS, he, ?_, o3⟩⟩
         rw [o1, o2]; exact hl2
       · have hb : ok = false ∨ rr.2 ≠ 0 := by
           cases ok with
           | false => exact .inl rfl
           | true => exact .inr (fun h => hg ⟨rfl, h⟩)
         obtain ⟨SS, he, hd2, hss, hc2⟩ := compP_bad hcp hb
         have hne : (if ok = true then rr.2 else 2) ≠ 0 := by
           rcases hb with h | h
           · rw [h, if_neg (by decide)]; decide
           · cases ok with
             | false => rw [if_neg (by decide)]; decide
             | true => rw [if_pos rfl]; exact h
         have hbn : Bnd (if ok = true then rr.1 else L1.D) (sumL P + 8 * P.length + (framesB ([] :: P2.map SL.l)).length) 100 := by
           split
           · exact HBC.out.more (Nat.le_refl _) (by omega)
           · exact HDA.out.d.bnd.d.more (by omega) (by omega)
         exact ⟨_, _, _, hd2, hrl, hbn, by omega, hc2, hss, .inl ⟨by rw [← hc1]; exact hne, by rw [← hc1]; exact he⟩⟩
     clear hcp HCP HCB HBC y1
     obtain ⟨D5, S5, s5, hd5, hrl5, hbn5, hs5, hc5, hss5, hend⟩ := HGOOD.out
     obtain ⟨hr5, hbk5, hbl5, hTl5⟩ := HDA.out.refAt hc5
     have HRC5 := Lib.hid (HRC.out w5 hc5)
     have HB5 := Lib.hid hbl5
     have HXQ5 := Lib.hid ((hbl5.block _ HBQ.out).trans hbx.out)
     have HBK5 := Lib.hid hbk5
     have HD5 := Lib.hid hd5
     have HRL5 := Lib.hid hrl5
     have HBN5 := Lib.hid hbn5
     have hs55 := hs5
     have hss5' := hss5
     have hc5' := hc5
     have HT5 := Lib.hid hTl5
     have HR5 := Lib.hid hr5
     clear HRC hr5 hbk5 hbl5 hTl5 hd5 hrl5 hbn5 hc5 hss5 HGOOD HXQ
     unfold rlog at HRC5
     unfold rcell at HBK5
     obtain ⟨pv, hpv⟩ : ∃ pv, e = .returned (.tuple #[pv, .int .i64 cx]) := by
       rcases hend with ⟨-, rfl⟩ | ⟨hz, bl2, SS, rfl, -, -⟩
       · exact ⟨_, rfl⟩
       · rw [hz]; exact ⟨_, rfl⟩
     subst hpv
     have HSS5 := Lib.hid hss5'
     have HC5 := Lib.hid hc5'
     clear hend hss5' hc5'
     have y1 := cellAt HXQ5.out 1 rfl
     obtain ⟨x0, x1, x2, x3, x4, x5, x6, x7⟩ := cells8w HBK5.out
     go_wp2_with fail
     refine HRC5.out.mono ?_
     rintro e w6 ⟨v', R6, rfl, hf6, hr6, hb6⟩
     obtain ⟨a6, c6, rfl⟩ := slice_form hr6.row
     unfold rlog
     have hal6 : Below w6.heap.size w6 (w6.alloc (.cells #[.int .i64 X1.D.room, .slice a6 R6.length c6, .int .i64 X1.D.plan, .bool X1.D.down, .int .i64 X1.most, .int .i64 X1.n, .int .i64 X1.size, .int .i64 X1.waiting] 34)) := (Below.refl _ _).alloc (Nat.le_refl _) _
     have HB57 := Lib.hid (hb6.trans (hal6.mono hb6.size))
     have HB7 := Lib.hid (HB5.out.trans (HB57.out.mono HB5.out.size))
     have HR7 := Lib.hid (hr6.below hal6)
     have HF7 : Hid (R6.map RF.f = X1.D.files) := hf6
     have HBK7 : Hid ((w6.alloc (.cells #[.int .i64 X1.D.room, .slice a6 R6.length c6, .int .i64 X1.D.plan, .bool X1.D.down, .int .i64 X1.most, .int .i64 X1.n, .int .i64 X1.size, .int .i64 X1.waiting] 34)).heap[w6.heap.size]? = some (.cells #[.int .i64 X1.D.room, .slice a6 R6.length c6, .int .i64 X1.D.plan, .bool X1.D.down, .int .i64 X1.most, .int .i64 X1.n, .int .i64 X1.size, .int .i64 X1.waiting] 34 (0, 0))) := heap_alloc_new _ _
     have HBB : Hid (w5.heap.size ≤ w6.heap.size) := hb6.size
     have HD7 := Lib.hid (HD5.out.frame (fun k _ hk => HB57.out.block k hk))
     clear hr6 hb6 hf6 hal6 x0 x1 x2 x3 x4 x5 x6 x7 HRC5 HXQ5 HBK5 y1 HD5
     go_upto_region 12 with fail
     generalize w6.alloc (.cells #[.int .i64 X1.D.room, .slice a6 R6.length c6, .int .i64 X1.D.plan, .bool X1.D.down, .int .i64 X1.most, .int .i64 X1.n, .int .i64 X1.size, .int .i64 X1.waiting] 34) = w7 at *
     generalize w6.heap.size = B7 at *
     have HKA : Hid (∀ ad, ka = some ad → 0 < ks.length → ad.block < wq.heap.size) := fun ad e hpos => by
       obtain ⟨b, o, c', hv, hle, hb, hc⟩ := HQ3.out.at hpos
       rw [e] at hv; cases hv; exact hb
     have HSW : Hid (∀ k, S5 k → wq.heap.size ≤ k ∧ k < w5.heap.size) := fun k hk => by
       have h1 := HSS5.out k hk
       have h2 := HDA.out.d.bel.size
       exact ⟨by rcases h1.1 with h | h; exact (HDA.out.d.sS k h).1; omega, h1.2⟩
     have HTN : Hid (∀ k, T k ∨ w5.heap.size ≤ k → ¬ S5 k) := fun k hk h5 => by
       have h1 := HSS5.out k h5
       rcases hk with hk | hk
       · have h2 := HDA.out.d.sT k hk
         rcases h1.1 with h | h
         · exact h2.2.2 h
         · omega
       · omega
     have hcr := crash_any _ ka kc ks D5 S5 w7 HD7.out (by have := HBN5.out.len; omega) (fun f hf => by have := HBN5.out.nm f hf; unfold maxLen; omega) (HQ3.out.later HB7.out) (by omega) (fun ad e hpos h => by have := HKA.out ad e hpos; have := (HSW.out _ h).1; omega)
     have HCR := Lib.hid hcr
     clear hcr
     go_wp2_with fail
     refine HCR.out.mono ?_
     rintro e w8 ⟨ss, ⟨hpw, hmem⟩, rfl, hd8, hc8⟩
     have hrel8 := rel_crash HRL5.out hpw hmem ks
     have hbn8 := bnd_crash HBN5.out ss ks ss.length
     obtain ⟨D8, hD8⟩ : ∃ D8, D8 = crashN D5 ss ks ss.length := ⟨_, rfl⟩
     obtain ⟨G, hG⟩ : ∃ G : DS, G = ⟨X1.D.room, crashF X1.D.files ks, 0, false⟩ := ⟨_, rfl⟩
     rw [← hD8] at hd8 hrel8 hbn8
     rw [← hG] at hrel8
     have HGG := Lib.hid hG
     have hlaw := crash_law (E := segD 100000 s) (n := ((s.i0 + s.pre.length + 1 : Nat) : Int)) rfl HDU.out (by have := HNU.out; omega) HLE.out HCT.out.1 HCT.out.2 P2 hsum2 p _ _ _ 30 X1 cx (by
       have h := HRR.out
       rw [HMP1.out, HM1.out, HOK.out] at h
       exact h) ks G (by rw [hG]) (by rw [hG])
     have hfd : findS D8 = findS G := rel_find hrel8
     have hoc : (openS doP D8).2 = 0 := by
       rw [(rel_openS hrel8).1]
       exact (open_good (by rw [hG]) (by rw [hG]) hlaw.1 (fun h => absurd hlaw.2.1 h)).1
     have hb8 : Below wq.heap.size wq w8 := HB7.out.trans (hc8.toBelow HB7.out.size (fun k hk e => by have := (HSW.out k e).1; omega))
     have hop := scopen_any (.pointer (some ⟨bx, 0, none⟩)) D8 S5 30 w8 hd8 (fun k hk => by have := (HSW.out k hk).2; have := HB57.out.size; have := hc8.size; omega) (fun w' hc => tab_below HTQ.out (hb8.trans (hc.toBelow hb8.size (fun k hk e => by have := (HSW.out k e).1; omega)))) hbn8 (by omega) (by omega)
     rw [hfd] at hop
     have HOP := Lib.hid hop
     have HLAW := Lib.hid hlaw
     have HOC := Lib.hid hoc
     have HC8 := Lib.hid hc8
     have HB8 := Lib.hid hb8
     have HX1L : Hid (X1.D.files.length ≤ 100 ∧ sumD X1.D.files ≤ 10000) := by
       have h1 := HRL5.out.len
       have h2 := HRL5.out.sum
       have h3 := HBN5.out.len
       have h4 := HBN5.out.sum
       rw [Hid]; omega
     clear hpw hmem hd8 hc8 hrel8 hbn8 hD8 hG hlaw hfd hoc hb8 hop HCR HD7 HRR HDU HLE HCT HNU HRL5 HBN5
     go_upto_region 13 with fail
     go_wp2_with fail
     refine HOP.out.mono ?_
     intro e w9 hop9
     obtain ⟨SS, bl9, ra, rc9, X9, rfl, -, -, hc9, -, -, -, hrec, hre⟩ := openP_ok hop9 HOC.out
     have hsl9 := hrec.sls
     rw [List.length_map] at hsl9
     have HSL9 := Lib.hid hsl9
     have HRE9 : Hid ((X9.map slOf).map SL.l = (findS G).recs) := by rw [Hid, List.map_map]; exact hre
     have HB9 := Lib.hid (HB8.out.trans (hc9.toBelow HB8.out.size (fun k hk e => by have := (HSW.out k e).1; omega)))
     have HC79 : Hid (Chg S5 w7 w9) := HC8.out.trans hc9 (fun k hk => .inl hk)
     have HR9 := Lib.hid (HR7.out.frame (w' := w9) (fun k hk hl => HC79.out.block k hl (HTN.out k hk)))
     have HBK9 := Lib.hid (HC79.out.heap HBK7.out (fun h => by have := (HSW.out _ h).2; have := HBB.out; omega))
     have hR6 : R6.length ≤ 1000 := by
       have h1 := congrArg List.length HF7.out
       rw [List.length_map] at h1
       have h2 := HX1L.out.1
       omega
     have hR6b : ∀ r ∈ R6, r.f.b.length ≤ 100000 := fun r hr => by
       have h1 : r.f ∈ X1.D.files := by rw [← HF7.out]; exact List.mem_map_of_mem hr
       have h2 := mem_sumD h1
       have := HX1L.out.2
       omega
     have hcr9 := rcrash_any X1.D.room X1.D.plan X1.D.down (.slice a6 R6.length c6) R6 _ ka kc ks w9 HR9.out (by omega) (HQ3.out.later HB9.out) (by omega)
     unfold rdisk at hcr9
     have HCR9 := Lib.hid hcr9
     have HCB6 : Hid (∀ r ∈ crashR R6 ks, r.f.b.length ≤ 100000) := fun r hr => by
       unfold crashR at hr
       obtain ⟨i, hi, rfl⟩ := List.mem_mapIdx.1 hr
       have h1 := hR6b _ (List.getElem_mem hi)
       show (R6[i].f.b.take _).length ≤ 100000
       rw [List.length_take]; omega
     have HCL6 : Hid ((crashR R6 ks).length ≤ 1000 ∧ (⟨X1.D.room, (crashR R6 ks).map RF.f, 0, false⟩ : DS) = G) := by
       have h1 := crashR_length R6 ks
       exact ⟨by omega, by rw [crashR_f, HF7.out, HGG.out]⟩
     clear hop9 hc9 hrec hre hsl9 hR6 hR6b hcr9 HOP HC8 HOC
     go_upto_region 14 with fail
     obtain ⟨x0, x1, x2, x3, x4, x5, x6, x7⟩ := cells8w HBK9.out
     go_wp2_with fail
     refine HCR9.out.mono ?_
     rintro e w10 ⟨v10, rfl, hr10, hb10⟩
     have hrf := rfindlog_any X1.D.room 0 false v10 (crashR R6 ks) _ w10 hr10 HCL6.out.1 HCB6.out
     rw [HCL6.out.2] at hrf
     have HRF := Lib.hid hrf
     have HR10 := Lib.hid hr10
     have HB10 := Lib.hid hb10
     clear hrf hr10 hb10 x0 x1 x2 x3 x4 x5 x6 x7
     unfold logV at HRF
     go_wp2_with fail
     refine HRF.out.mono ?_
     rintro e w11 ⟨hb11, Lx2, ya, yr, yca, ycr, yf, X11, rfl, -, hX11, hry, hye, -, -, hyn⟩
     unfold logV
     have HB911 := Lib.hid (HB10.out.trans (hb11.mono HB10.out.size))
     have HSL11 : Hid (SLs w11 (.slice yr X11.length ycr) X11) := ⟨hX11.reads, fun x hx => (hry x hx).2 w11 (rdr_of (HR10.out.below hb11))⟩
     have HYE : Hid (X11.map SL.l = (findS G).recs) := hye
     have HYN := Lib.hid hyn
     clear hb11 hX11 hry hye hyn HRF HR10 HB10
     go_upto_region 15 with fail
     have HRW9 := Lib.hid ((HR5.out.below HB57.out).frame (w' := w9) (fun k hk hl => HC79.out.block k hl (HTN.out k (.inl hk))))
     have HSB9 : Hid (SLs w9 (.slice xr X5.length xcr) X5) := ⟨(HX5.out.frame (w' := w9) (fun k hk hl => by
       have q1 := HSF.out.2
       have e1 : w4.heap[k]? = wg.heap[k]? := HCX.out.block k hl (fun h => by
         rcases h with h | h
         · have := HSF.out.1 k h; omega
         · omega)
       have s1 := HCX.out.size
       have s2 := HC5.out.size
       have s3 := HB57.out.size
       have e2 : w5.heap[k]? = w4.heap[k]? := HC5.out.block k (by omega) (fun h => by have := HSF.out.1 k h; omega)
       have e3 : w7.heap[k]? = w5.heap[k]? := HB57.out.block k (by omega)
       have e4 : w9.heap[k]? = w7.heap[k]? := HC79.out.block k (by omega) (fun h => by
         rcases (HSS5.out k h).1 with h | h
         · have := HSF.out.1 k h; omega
         · omega)
       exact e4.trans (e3.trans (e2.trans e1)))).reads, fun x hx => (HRX.out x hx).2 w9 (rdr_of HRW9.out)⟩
     have hal12 : Below w11.heap.size w11 (w11.alloc (.cells #[.slice ya Lx2.length yca, .int .i64 yf, .int .i64 (findS G).last, .slice yr X11.length ycr, .int .i64 (findS G).front.length, .int .i64 (findS G).torn, .int .i64 (findS G).code] 61)) := (Below.refl _ _).alloc (Nat.le_refl _) _
     have HW12 := Lib.hid (HB911.out.trans (hal12.mono HB911.out.size))
     have HSL12 := Lib.hid (HSL11.out.later hal12)
     have HF12 : Hid ((w11.alloc (.cells #[.slice ya Lx2.length yca, .int .i64 yf, .int .i64 (findS G).last, .slice yr X11.length ycr, .int .i64 (findS G).front.length, .int .i64 (findS G).torn, .int .i64 (findS G).code] 61)).heap[w11.heap.size]? = some (.cells #[.slice ya Lx2.length yca, .int .i64 yf, .int .i64 (findS G).last, .slice yr X11.length ycr, .int .i64 (findS G).front.length, .int .i64 (findS G).torn, .int .i64 (findS G).code] 61 (0, 0))) := heap_alloc_new _ _
     have HMsD : Hid ((findS Ms.D).recs = (findS (segD 100000 s)).recs) := by rw [Hid, HM1.out]; rfl
     clear hal12 HSL11 HB911 HRW9 HR5 HX5 HRX HCX HC5 HB57 HC79 HSS5 HSF HTN HSW HR9 HR7 HBK9 HBK7 HDA HDB HM1 HMP1 HCR9 HCB6 HCL6 HT5
     generalize w11.alloc (.cells #[.slice ya Lx2.length yca, .int .i64 yf, .int .i64 (findS G).last, .slice yr X11.length ycr, .int .i64 (findS G).front.length, .int .i64 (findS G).torn, .int .i64 (findS G).code] 61) = w12 at *
     generalize w11.heap.size = B18 at *
     have HG1 := Lib.hid (HSL9.out.later HW12.out)
     have HBE := Lib.hid (HSB9.out.later HW12.out)
     have HB12 := Lib.hid (HB9.out.trans (HW12.out.mono HB9.out.size))
     have HL1 := Lib.hid (HQ2.out.later HB12.out)
     have HEQ : Hid ((X9.map slOf).map SL.l = X11.map SL.l) := HRE9.out.trans HYE.out.symm
     have HLN : Hid ((X9.map slOf).length ≤ 1000000000) := by
       have h1 := congrArg List.length HEQ.out
       have h2 := HYN.out
       rw [Hid]
       simp only [List.length_map] at h1 ⊢
       omega
     have HSM := Lib.hid (rsameL_any (.slice ra X9.length rc9) (.slice yr X11.length ycr) (X9.map slOf) X11 w12 HG1.out HSL12.out HEQ.out HLN.out)
     have HS2 : Hid (∀ w', Below w12.heap.size w12 w' → Calls Tryz.prog 21 #[.slice ra X9.length rc9, .slice xr X5.length xcr] w' fun e w'' => (∃ b, e = .returned (.bool b) ∧ (b = false → (findS G).recs = P2.map SL.l)) ∧ Below w'.heap.size w' w'') := fun w' hb => by
       rcases HLAW.out.2.2.1 with hq | hq
       · exact (rsameL_any _ _ (X9.map slOf) X5 w' (HG1.out.later hb) (HBE.out.later hb) (HRE9.out.trans (hq.trans (HMsD.out.symm.trans HXE.out.symm))) HLN.out).mono (fun e w'' h => ⟨⟨true, h.1, fun h => by cases h⟩, h.2⟩)
       · exact (rsameL_some _ _ (X9.map slOf) X5 w' (HG1.out.later hb) (HBE.out.later hb) HLN.out (by have := HXN.out; omega)).mono (fun e w'' h => ⟨h.1.elim fun b hb => ⟨b, hb, fun _ => hq⟩, h.2⟩)
     have HS3 : Hid (∀ w', Below w12.heap.size w12 w' → (findS G).recs = P2.map SL.l → Calls Tryz.prog 21 #[.slice ra X9.length rc9, .slice a2 P2.length c2] w' fun e w'' => e = .returned (.bool true) ∧ Below w'.heap.size w' w'') := fun w' hb hq =>
       rsameL_any _ _ (X9.map slOf) P2 w' (HG1.out.later hb) (HL1.out.later hb) (HRE9.out.trans hq) HLN.out
     have HCE : Hid (∀ w', Below w12.heap.size w12 w' → w'.cell? ⟨bq, 1, none⟩ = some (.slice a2 P2.length c2)) := fun w' hb => cellAt (((HB12.out.trans (hb.mono HB12.out.size)).block _ HBQ.out).trans hbx.out) 1 rfl
     have z3 := cellAt HF12.out 3 rfl
     have HLA : Hid (cx = 0 → (findS G).recs = P2.map SL.l) := HLAW.out.2.2.2
     clear HG1 HBE HL1 HEQ HLN HSL12 HF12 HSL9 HSB9 HRE9 HYE HYN HXE HXN HMsD HLAW HGG HW12 HX1L HF7 HBB HKA
     go_wp2_with fail
     refine HSM.out.mono ?_
     rintro e w13 ⟨rfl, hb13⟩
     have HB13 := Lib.hid hb13
     clear hb13 HSM z3
     go_wp2_with fail
     refine (HAL.out _ (HB12.out.trans (HB13.out.mono HB12.out.size))).mono ?_
     rintro e w14 ⟨rfl, hb14⟩
     have HB14 := Lib.hid (HB13.out.trans (hb14.mono HB13.out.size))
     clear hb14
     go_wp2_with fail
     refine (HS2.out _ HB14.out).mono ?_
     rintro e w15 ⟨⟨b, rfl, hbf⟩, hb15⟩
     have HB15 := Lib.hid (HB14.out.trans (hb15.mono HB14.out.size))
     have HBF := Lib.hid hbf
     clear hb15 hbf
     have y1 := HCE.out w15 HB15.out
     by_cases hcx : cx = 0
     · have HP := Lib.hid (HLA.out hcx)
       subst hcx
       cases b with
       | false =>
         go_wp2_with fail
         refine (HS3.out _ HB15.out HP.out).mono ?_
         rintro e w16 ⟨rfl, hb16⟩
         have HB16 := Lib.hid (HB15.out.trans (hb16.mono HB15.out.size))
         clear hb16 y1
         have y1 := HCE.out w16 HB16.out
         go_wp2_with fail
         refine (HS3.out _ HB16.out HP.out).mono ?_
         rintro e w17 ⟨rfl, hb17⟩
         have HB17 := Lib.hid (HB16.out.trans (hb17.mono HB16.out.size))
         clear hb17 y1
         go_wp2
         go_ret
         exact ⟨rfl, HB0.out.trans ((HB12.out.trans (HB17.out.mono HB12.out.size)).mono HB0.out.size)⟩
       | true =>
         go_wp2_with fail
         refine (HS3.out _ HB15.out HP.out).mono ?_
         rintro e w16 ⟨rfl, hb16⟩
         have HB16 := Lib.hid (HB15.out.trans (hb16.mono HB15.out.size))
         clear hb16 y1
         go_wp2
         go_ret
         exact ⟨rfl, HB0.out.trans ((HB12.out.trans (HB16.out.mono HB12.out.size)).mono HB0.out.size)⟩
     · have hcx1 : (cx == 0) = false := by simpa using hcx
       have hcx2 : (cx != 0) = true := by simpa using hcx
       cases b with
       | false =>
         go_wp2_with fail
         refine (HS3.out _ HB15.out (HBF.out (by first | trivial | rfl))).mono ?_
         rintro e w16 ⟨rfl, hb16⟩
         have HB16 := Lib.hid (HB15.out.trans (hb16.mono HB15.out.size))
         clear hb16 y1
         go_wp2
         go_ret
         exact ⟨rfl, HB0.out.trans ((HB12.out.trans (HB16.out.mono HB12.out.size)).mono HB0.out.size)⟩
       | true =>
         go_wp2
         go_ret
         exact ⟨rfl, HB0.out.trans ((HB12.out.trans (HB15.out.mono HB12.out.size)).mono HB0.out.size)⟩
end Go.Proofs.YtgdmdbdljmlkkaaGreatDoor
