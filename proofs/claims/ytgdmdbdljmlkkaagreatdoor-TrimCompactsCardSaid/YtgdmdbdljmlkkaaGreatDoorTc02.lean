/- TrimCompacts: for trimCompacts_holds. -/
import Derived.Test.YtgdmdbdljmlkkaaGreatDoorTc01
import Derived.Test.YtgdmdbdljmlkkaaGreatDoorTt40
set_option linter.unusedVariables false
set_option linter.unusedSimpArgs false
namespace Go.Proofs.YtgdmdbdljmlkkaaGreatDoor
open Go.RowKit
structure LooksC (w3 : World) (bx B : Nat) (M : LS) (a : Option Addr) (c : Nat) (R : List RF) (NL : List ByteArray) : Prop where
  used : ∀ w', Hid (Below w3.heap.size w3 w') → Calls Tryz.prog 51 #[.pointer (some ⟨bx, 0, none⟩)] w' fun e w'' => e = .returned (.int .i64 (sumR R)) ∧ Below w'.heap.size w' w''
  rused : ∀ w', Hid (Below w3.heap.size w3 w') → Calls Tryz.prog 52 #[.agg #[.int .i64 M.D.room, .slice a R.length c, .int .i64 M.D.plan, .bool M.D.down]] w' fun e w'' => e = .returned (.int .i64 (sumR R)) ∧ Below w'.heap.size w' w''
  list : ∀ w', Hid (Below w3.heap.size w3 w') → Calls Tryz.prog 49 #[.pointer (some ⟨bx, 0, none⟩)] w' fun e w'' => ∃ a c, e = .returned (.slice a NL.length c) ∧ Reads w'' (.slice a NL.length c) NL.length 1 (NL.map Value.string) ∧ Below w'.heap.size w' w''
  names : ∀ w', Hid (Below w3.heap.size w3 w') → Calls Tryz.prog 50 #[.agg #[.int .i64 M.D.room, .slice a R.length c, .int .i64 M.D.plan, .bool M.D.down]] w' fun e w'' => ∃ a c, e = .returned (.slice a NL.length c) ∧ Reads w'' (.slice a NL.length c) NL.length 1 (NL.map Value.string) ∧ Below w'.heap.size w' w''
  len : NL.length ≤ 100000
  cells : ∀ w', Hid (Below w3.heap.size w3 w') → w'.cell? ⟨B, 0, none⟩ = some (.int .i64 M.D.room) ∧ w'.cell? ⟨B, 1, none⟩ = some (.slice a R.length c) ∧ w'.cell? ⟨B, 2, none⟩ = some (.int .i64 M.D.plan) ∧ w'.cell? ⟨B, 3, none⟩ = some (.bool M.D.down) ∧ w'.cell? ⟨B, 4, none⟩ = some (.int .i64 M.most) ∧ w'.cell? ⟨B, 5, none⟩ = some (.int .i64 M.n) ∧ w'.cell? ⟨B, 6, none⟩ = some (.int .i64 M.size) ∧ w'.cell? ⟨B, 7, none⟩ = some (.int .i64 M.waiting)
set_option maxRecDepth 100000 in
set_option maxHeartbeats 2000000 in
theorem looksC {w : World} {bx B : Nat} {D : DS} {M : LS} {a : Option Addr} {c : Nat} {R : List RF} {S T : Nat → Prop} {s q : Nat} (hd : DRep w (.pointer (some ⟨bx, 0, none⟩)) D S) (hr : RLi w (.slice a R.length c) R T) (hf : R.map RF.f = M.D.files) (hrel : Rel D M.D) (hbn : Bnd D s q) (blk : w.heap[B]? = some (.cells (rcell M a R.length c) 34 (0, 0))) (hs : s ≤ 100000) (hq : q ≤ 1000) : LooksC w bx B M a c R (R.map fun r => r.f.name) := by
  have hRn : R.length ≤ q := by
    have h1 := congrArg List.length hf
    rw [List.length_map] at h1
    rw [h1, ← hrel.len]; exact hbn.len
  have hRs : sumR R = sumD D.files := by rw [sumR_f, hf, ← hrel.sum]
  have hRs2 : sumR R ≤ s := by rw [hRs]; exact hbn.sum
  have hlen : D.files.length ≤ 100000 := by have := hbn.len; omega
  have hnm : ∀ f ∈ D.files, f.name.size ≤ maxLen := fun f hf => by have := hbn.nm f hf; unfold maxLen; omega
  refine ⟨fun w' hb => ?_, fun w' hb => ?_, fun w' hb => ?_, fun w' hb => ?_, ?_, fun w' hb => ?_⟩
  · have := used_any _ D _ w' (hd.frame (fun k _ hk => hb.out.block k hk)) (by omega)
    rwa [← hRs] at this
  · exact rused_any M.D.room M.D.plan M.D.down _ R T w' (hr.below hb.out) (by omega) (by omega)
  · refine (list_any _ D _ w' (hd.frame (fun k _ hk => hb.out.block k hk)) hlen hnm).mono ?_
    rintro e w'' ⟨v1, ss, rfl, hr1, hb1, hso, hme⟩
    obtain rfl := rel_names hrel hso hme
    obtain ⟨a1, c1, rfl⟩ := slice_form hr1
    have h1 := hr1.reads
    have e1 : (M.D.files.map fun f => f.name.toList).length = (R.map fun r => r.f.name).length := by rw [← hf]; simp
    have e2 : (M.D.files.map fun f => f.name.toList).map encStr = (R.map fun r => r.f.name).map Value.string := by
      rw [← hf, List.map_map, List.map_map, List.map_map]
      refine List.map_congr_left (fun r _ => ?_)
      show encStr r.f.name.toList = Value.string r.f.name
      unfold encStr
      rw [mk_toList]
    rw [e1, e2] at h1
    rw [e1]
    exact ⟨a1, c1, rfl, h1, hb1⟩
  · refine (rnames_any M.D.room M.D.plan M.D.down _ R T w' (hr.below hb.out) (by omega)).mono ?_
    rintro e w'' ⟨v1, rfl, hr1, hb1⟩
    obtain ⟨a1, c1, rfl⟩ := slice_form hr1
    have h1 := hr1.reads
    have e1 : (R.map fun r => r.f.name).length = R.length := List.length_map _
    rw [stringVs_eq] at h1
    rw [e1]
    exact ⟨a1, c1, rfl, h1, hb1⟩
  · rw [List.length_map]; omega
  · have hx := (hb.out.block _ (lt_of_heap blk)).trans blk
    exact cells8w hx
theorem skip_want {p : Bool} {A B : Prop} (h : p = false) (hb : B) : if p = true then A else B := by subst h; simpa using hb
theorem belh_drew {w0 w : World} (h : Hid (Below w0.heap.size w0 w)) : Hid (Below w0.heap.size w0 w.drew) := h.out.drew
theorem DuelL.armed {w0 w w1 : World} {bl bx B : Nat} {L M : LS} {a : Option Addr} {c : Nat} {R : List RF} {S T : Nat → Prop} {s q : Nat} (h : DuelL w0 w bl bx B L M a c R S T s q) (p : Int) (hp : 0 ≤ p ∧ p ≤ 255) (hd : DRep w1 (.pointer (some ⟨bx, 0, none⟩)) { L.D with plan := p } (fun k => S k ∧ k ≠ bl)) (hc : Chg (fun k => S k ∧ k ≠ bl) w w1) :
    DuelL w0 (w1.setCell ⟨B, 2, none⟩ (.int .i64 p)) bl bx B { L with D := { L.D with plan := p } } { M with D := { M.D with plan := p } } a c R S T s q := by
  have hbk : w1.heap[B]? = some (.cells (rcell M a R.length c) 34 (0, 0)) := hc.heap h.blk (fun e => h.bS e.1)
  have hbk2 : (w1.setCell ⟨B, 2, none⟩ (.int .i64 p)).heap[B]? = some (.cells (rcell { M with D := { M.D with plan := p } } a R.length c) 34 (0, 0)) := heap_store hbk 2 (.int .i64 p)
  have hst : Chg (fun k => k = B) w1 (w1.setCell ⟨B, 2, none⟩ (.int .i64 p)) := (Chg.refl (fun k => k = B) w1).setCell (p := ⟨B, 2, none⟩) (.inl rfl) _
  have h1 := hc.size
  have h2 := hst.size
  have hbl := lt_of_heap h.d.log.blk
  refine ⟨⟨⟨?_, ?_, h.d.log.own⟩, ?_, h.d.files, ⟨h.d.rel.n, h.d.rel.size, h.d.rel.waiting, h.d.rel.most, rel_arm h.d.rel.rel p⟩, ⟨⟨h.d.bnd.d.sum, h.d.bnd.d.len, h.d.bnd.d.nm, h.d.bnd.d.nd, by show 0 ≤ p ∧ p ≤ 9223372036854775807; omega⟩, h.d.bnd.n0, h.d.bnd.size, h.d.bnd.waiting⟩, ?_, ?_, ?_, h.d.most⟩, hbk2, h.bS, h.bT, h.bB⟩
  · exact (hst.block bl (by omega) (fun e => h.bS (e ▸ h.d.log.own))).trans ((hc.block bl hbl (fun e => e.2 rfl)).trans h.d.log.blk)
  · exact hd.frame (fun k hk hl => hst.block k hl (fun e => h.bS (e ▸ hk.1)))
  · exact (h.d.lst.frame (fun k hk hl => hc.block k hl (fun e => (h.d.sT k hk).2.2 e.1))).frame (fun k hk hl => hst.block k hl (fun e => h.bT (e ▸ hk)))
  · exact h.d.bel.trans ((hc.toBelow (B := w0.heap.size) h.d.bel.size (fun k hk e => by have := (h.d.sS k e.1).1; omega)).trans (hst.toBelow (by have := h.d.bel.size; omega) (fun k hk e => by have e2 : k = B := e; have := h.bB; omega)))
  · exact fun k hk => ⟨(h.d.sS k hk).1, by have := (h.d.sS k hk).2; omega⟩
  · exact fun k hk => ⟨(h.d.sT k hk).1, by have := (h.d.sT k hk).2.1; omega, (h.d.sT k hk).2.2⟩
set_option maxRecDepth 100000 in
set_option maxHeartbeats 8000000 in
theorem trimCompacts_any (r0 m p : Int) (hr0 : 0 ≤ r0 ∧ r0 ≤ 65535) (hm : 0 ≤ m ∧ m ≤ 65535) (hp : 0 ≤ p ∧ p ≤ 255) (a : Option Addr) (c : Nat) (P : List SL) (a2 : Option Addr) (c2 : Nat) (P2 : List SL) (w : World) (h : SLs w (.slice a P.length c) P) (hl : P.length ≤ 5864062014805) (he : ∀ x ∈ P, x.l.length ≤ 9223372036854775807)
    (h2 : SLs w (.slice a2 P2.length c2) P2) (hl2 : P2.length ≤ 5864062014805) (he2 : ∀ x ∈ P2, x.l.length ≤ 9223372036854775807) (ht : Tab w) :
    Calls Tryz.prog 10 #[.agg #[.int .u16 r0, .int .u16 m], .agg #[.slice a P.length c, .slice a2 P2.length c2], .int .u8 p] w fun e w' => e = .returned (.bool true) ∧ Below w.heap.size w w' := by
  obtain ⟨hr00, hr01⟩ := hr0
  obtain ⟨hm0, hm1⟩ := hm
  obtain ⟨hp0, hp1⟩ := hp
  have H := Lib.hid h
  have H2 := Lib.hid h2
  have HT := Lib.hid ht
  have HHE := Lib.hid he
  have HHE2 := Lib.hid he2
  have hbz : Hid (((w.alloc (.cells #[.int .u16 r0, .int .u16 m] 87)).alloc (.cells #[.slice a P.length c, .slice a2 P2.length c2] 80)).heap[w.heap.size]? = some (.cells #[.int .u16 r0, .int .u16 m] 87 (0, 0))) := (alloc2_low w _ _).trans (heap_alloc_new w _)
  have hbx : Hid (((w.alloc (.cells #[.int .u16 r0, .int .u16 m] 87)).alloc (.cells #[.slice a P.length c, .slice a2 P2.length c2] 80)).heap[w.heap.size + 1]? = some (.cells #[.slice a P.length c, .slice a2 P2.length c2] 80 (0, 0))) := alloc2_high w _ _ (heap_alloc_new _ _)
  have HB0 : Hid (Below w.heap.size w ((w.alloc (.cells #[.int .u16 r0, .int .u16 m] 87)).alloc (.cells #[.slice a P.length c, .slice a2 P2.length c2] 80))) := ((Below.refl _ _).alloc (Nat.le_refl _) _).alloc (by simp) _
  clear h h2 ht he he2
  go_enter Tryz.func10, Tryz.ntmps10
  go_upto_region 1 with fail
  generalize (w.alloc (.cells #[.int .u16 r0, .int .u16 m] 87)).alloc (.cells #[.slice a P.length c, .slice a2 P2.length c2] 80) = wq at *
  obtain ⟨bq, hbq⟩ : ∃ bq, bq = w.heap.size + 1 := ⟨_, rfl⟩
  obtain ⟨bs, hbs⟩ : ∃ bs, bs = w.heap.size := ⟨_, rfl⟩
  rw [← hbq] at hbx ⊢
  rw [← hbs] at hbz ⊢
  have HBQ : Hid (bq < wq.heap.size) := lt_of_heap hbx.out
  have HBS : Hid (bs < wq.heap.size) := lt_of_heap hbz.out
  clear hbq hbs
  have k0 := cellAt hbx.out 0 rfl
  have k1 := cellAt hbx.out 1 rfl
  have j0 := cellAt hbz.out 0 rfl
  have j1 := cellAt hbz.out 1 rfl
  have HQ := Lib.hid (H.out.later HB0.out)
  have HQ2 := Lib.hid (H2.out.later HB0.out)
  have HTQ := Lib.hid (tab_below HT.out HB0.out)
  have HFE := Lib.hid (rfewL_any _ P wq HQ.out hl HHE.out)
  have HFE2 := Lib.hid (rfewL_any _ P2 wq HQ2.out hl2 HHE2.out)
  have HAL := Lib.hid (fun (w' : World) (hb : Below wq.heap.size wq w') => talive_any w' (tab_below HTQ.out hb))
  clear H H2 HHE HHE2 HT
  go_wp2_with fail
  refine HFE.out.mono ?_
  rintro e w1 ⟨⟨b, rfl, hb⟩, hw1⟩
  obtain rfl := hw1.symm
  clear hw1 HFE
  cases b with
  | false =>
    clear hb HFE2
    go_wp2_with fail
    refine (HAL.out _ (Below.refl _ _)).mono ?_
    rintro e w1 ⟨rfl, hb⟩
    have HB := Lib.hid (HB0.out.trans (hb.mono HB0.out.size))
    clear hb
    go_wp2
    go_ret
    exact ⟨rfl, HB.out⟩
  | true =>
    obtain ⟨hP60, hsum⟩ := hb rfl
    clear hb hl
    go_wp2_with fail
    refine HFE2.out.mono ?_
    rintro e w1 ⟨⟨b, rfl, hb⟩, hw1⟩
    obtain rfl := hw1.symm
    clear hw1 HFE2
    cases b with
    | false =>
      clear hb
      go_wp2_with fail
      refine (HAL.out _ (Below.refl _ _)).mono ?_
      rintro e w1 ⟨rfl, hb⟩
      have HB := Lib.hid (HB0.out.trans (hb.mono HB0.out.size))
      clear hb
      go_wp2
      go_ret
      exact ⟨rfl, HB.out⟩
    | true =>
      obtain ⟨hP602, hsum2⟩ := hb rfl
      clear hb hl2
      have HST := Lib.hid (tstart_any r0 m (by omega) (by omega) a c P wq HTQ.out HQ.out hP60 hsum)
      go_wp2_with fail
      refine HST.out.mono ?_
      rintro e w1 ⟨bx, bl, L, M, va, vc, R, S, T, rfl, hd, hM, hmo⟩
      have hca := puts_calm (P.map SL.l) (M := segL r0 m seg0) rfl rfl
      rw [← hM] at hca
      have HCALM : Hid (M.D.down = false) := hca.1
      have HDK := Lib.hid hd.kept
      clear hd hM hmo HST hca
      go_upto_region 4 with fail
      unfold rcell at HDK
      generalize w1.alloc (.cells #[.int .i64 M.D.room, .slice va R.length vc, .int .i64 M.D.plan, .bool M.D.down, .int .i64 M.most, .int .i64 M.n, .int .i64 M.size, .int .i64 M.waiting] 34) = wa at *
      obtain ⟨B9, hB9⟩ : ∃ B9, B9 = w1.heap.size := ⟨_, rfl⟩
      rw [← hB9] at HDK ⊢
      clear hB9 w1 k0 k1 j0 j1
      have har := arm_any _ p L.D _ wa HDK.out.d.log.dsk
      rw [show max p 0 = p by omega] at har
      have HAR := Lib.hid har
      clear har
      go_wp2_with fail
      refine HAR.out.mono ?_
      rintro e w2 ⟨rfl, hd2, hc2⟩
      have hda := HDK.out.armed p ⟨hp0, hp1⟩ hd2 hc2
      obtain ⟨M1, hM1⟩ : ∃ M1 : LS, M1 = { M with D := { M.D with plan := p } } := ⟨_, rfl⟩
      obtain ⟨L1, hL1⟩ : ∃ L1 : LS, L1 = { L with D := { L.D with plan := p } } := ⟨_, rfl⟩
      rw [← hM1, ← hL1] at hda
      have HDA := Lib.hid hda
      have HBK2 : Hid (w2.heap[B9]? = some (.cells #[.int .i64 M.D.room, .slice va R.length vc, .int .i64 M.D.plan, .bool M.D.down, .int .i64 M.most, .int .i64 M.n, .int .i64 M.size, .int .i64 M.waiting] 34 (0, 0))) := hc2.heap HDK.out.blk (fun e => HDK.out.bS e.1)
      have HCA2 : Hid (M1.D.down = false) := by rw [Hid, hM1]; exact HCALM.out
      clear hd2 hc2 HAR HDK HCALM hda hM1 hL1
      obtain ⟨x0, x1, x2, x3, x4, x5, x6, x7⟩ := cells8w HBK2.out
      have q2 := freeAt HBK2.out 2
      go_upto_region 6 with fail
      clear x0 x1 x2 x3 x4 x5 x6 x7 q2 HBK2
      generalize w2.setCell ⟨B9, 2, none⟩ (.int .i64 p) = w4 at *
      have HXQ := Lib.hid ((HDA.out.d.bel.block _ HBQ.out).trans hbx.out)
      have HZQ := Lib.hid ((HDA.out.d.bel.block _ HBS.out).trans hbz.out)
      have y1 := cellAt HXQ.out 1 rfl
      have j1 := cellAt HZQ.out 1 rfl
      have hb0 := HDA.out.d.bnd.n0
      have HPF2 := Lib.hid (frames_few hsum2 hP602)
      have HCP := Lib.hid (compact_any bx bl L1 S m a2 c2 P2 w4 HDA.out.d.log (fun k hk => (HDA.out.d.sS k hk).2) (fun w' hc => tab_below HTQ.out (HDA.out.d.bel.trans (hc.toBelow HDA.out.d.bel.size (fun k hk e => by have := (HDA.out.d.sS k e).1; omega)))) HDA.out.d.bnd.d (by omega) (by omega) (by omega) (HQ2.out.later HDA.out.d.bel) (by omega) (lens_of hsum2))
      have HCB := Lib.hid (comp_both HDA.out.d.rel HCA2.out (by have := HDA.out.d.rel.n; omega) (P2.all fullB) (framesB ([] :: P2.map SL.l)) m)
      have HBC := Lib.hid (comp_bnd (b := framesB ([] :: P2.map SL.l)) (n := L1.n + 1) HDA.out.d.bnd.d)
      have HRC := Lib.hid (fun (w' : World) (hc : Chg S w4 w') => rcompactL_any HDA.out.d.rel HDA.out.d.bnd (by omega) (by omega) (by omega) m (.slice va R.length vc) R T a2 c2 P2 w' (HDA.out.refAt hc).1 (HDA.out.refAt hc).2.2.2 HDA.out.d.files (HQ2.out.later (HDA.out.refAt hc).2.2.1) hP602 hsum2)
      generalize P2.all fullB = ok at *
      generalize hrr : compK doP (framesB ([] :: P2.map SL.l)) (L1.n + 1) 0 L1.D = rr at *
      generalize compR M1 m ok (framesB ([] :: P2.map SL.l)) = X at *
      obtain ⟨X1, cx⟩ := X
      simp only at HCB
      clear hb0 hrr
      go_wp2_with fail
      refine HCP.out.mono ?_
      intro e w5 hcp
      have HGOOD : Hid (∃ (D5 : DS) (S5 : Nat → Prop) (s5 : Nat), DRep w5 (.pointer (some ⟨bx, 0, none⟩)) D5 S5 ∧ Rel D5 X1.D ∧ Bnd D5 s5 100 ∧ s5 ≤ 10000 ∧ Chg S w4 w5 ∧ (∀ k, S5 k → (S k ∨ w4.heap.size ≤ k) ∧ k < w5.heap.size) ∧
          ((cx ≠ 0 ∧ e = .returned (.tuple #[.pointer none, .int .i64 cx])) ∨ (cx = 0 ∧ ∃ bl2 SS, e = .returned (.tuple #[.pointer (some ⟨bl2, 0, none⟩), .int .i64 0]) ∧ LAt w5 bl2 (.pointer (some ⟨bx, 0, none⟩)) ⟨X1.n, X1.size, 0, m, D5⟩ SS ∧ X1.waiting = 0))) := by
        have hpf := HPF2.out
        obtain ⟨hc1, hrl, hok⟩ := HCB.out
        by_cases hg : ok = true ∧ rr.2 = 0
        · obtain ⟨rfl, hr⟩ := hg
          obtain ⟨bl2, SS, he, hl2, hd2, hss, hc2⟩ := compP_ok hcp hr
          obtain ⟨o1, o2, o3, o4⟩ := hok rfl hr
          rw [if_pos rfl] at hc1 hrl
          refine ⟨rr.1, _, _, hd2, hrl, HBC.out.more (Nat.le_refl _) (by omega), by omega, hc2, fun k hk => hss k hk.1, .inr ⟨by rw [← hc1]; exact hr, bl2, SS, he, ?_, o3⟩⟩
          rw [o1, o2]; exact hl2
        · have hb : ok = false ∨ rr.2 ≠ 0 := by
            cases ok with
            | false => exact .inl rfl
            | true => exact .inr (fun h => hg ⟨rfl, h⟩)
          obtain ⟨SS, he, hd2, hss, hc2⟩ := compP_bad hcp hb
          have hne : (if ok = true then rr.2 else 2) ≠ 0 := by
            rcases hb with h | h
            · rw [h, if_neg (by decide)]; decide
            · cases ok with
              | false => rw [if_neg (by decide)]; decide
              | true => rw [if_pos rfl]; exact h
          have hbn : Bnd (if ok = true then rr.1 else L1.D) (sumL P + 8 * P.length + (framesB ([] :: P2.map SL.l)).length) 100 := by
            split
            · exact HBC.out.more (Nat.le_refl _) (by omega)
            · exact HDA.out.d.bnd.d.more (by omega) (by omega)
          exact ⟨_, _, _, hd2, hrl, hbn, by omega, hc2, hss, .inl ⟨by rw [← hc1]; exact hne, by rw [← hc1]; exact he⟩⟩
      clear hcp HCP HCB HBC y1 j1 HCA2
      obtain ⟨D5, S5, s5, hd5, hrl5, hbn5, hs5, hc5, hss5, hend⟩ := HGOOD.out
      obtain ⟨hr5, hbk5, hbl5, hTl5⟩ := HDA.out.refAt hc5
      have HRC5 := Lib.hid (HRC.out w5 hc5)
      have HB5 := Lib.hid hbl5
      have HXQ5 := Lib.hid ((hbl5.block _ HBQ.out).trans hbx.out)
      have HZQ5 := Lib.hid ((hbl5.block _ HBS.out).trans hbz.out)
      have HBK5 := Lib.hid hbk5
      have HD5 := Lib.hid hd5
      have HRL5 := Lib.hid hrl5
      have HBN5 := Lib.hid hbn5
      have hs55 := hs5
      clear HRC hr5 hbk5 hbl5 hTl5 hd5 hrl5 hbn5 hc5 hss5 HGOOD HDA HXQ HZQ
      unfold rlog at HRC5
      unfold rcell at HBK5
      have HEND := Lib.hid hend
      clear hend
      rcases HEND.out with ⟨hcx, rfl⟩ | ⟨hcx, bl2, SS, rfl, hl5, hw0⟩
      · have hcx1 : (cx == 0) = false := by simpa using hcx
        have hcx2 : (cx != 0) = true := by simpa using hcx
        have hpn : ∀ W, (binOp .eql 27 (.pointer none) (.pointer none)).run Tryz.prog W = .ok (.bool true) W := fun W => by kernel_rfl
        clear hcx HEND
        have y1 := cellAt HXQ5.out 1 rfl
        have j1 := cellAt HZQ5.out 1 rfl
        obtain ⟨x0, x1, x2, x3, x4, x5, x6, x7⟩ := cells8w HBK5.out
        go_wp2_with fail
        refine HRC5.out.mono ?_
        rintro e w6 ⟨v', R6, rfl, hf6, hr6, hb6⟩
        obtain ⟨a6, c6, rfl⟩ := slice_form hr6.row
        unfold rlog
        have hal6 : Below w6.heap.size w6 (w6.alloc (.cells #[.int .i64 X1.D.room, .slice a6 R6.length c6, .int .i64 X1.D.plan, .bool X1.D.down, .int .i64 X1.most, .int .i64 X1.n, .int .i64 X1.size, .int .i64 X1.waiting] 34)) := (Below.refl _ _).alloc (Nat.le_refl _) _
        have HB57 := Lib.hid (hb6.trans (hal6.mono hb6.size))
        have HB7 := Lib.hid (HB5.out.trans (HB57.out.mono HB5.out.size))
        have hlk := looksC (w := w6.alloc (.cells #[.int .i64 X1.D.room, .slice a6 R6.length c6, .int .i64 X1.D.plan, .bool X1.D.down, .int .i64 X1.most, .int .i64 X1.n, .int .i64 X1.size, .int .i64 X1.waiting] 34)) (bx := bx) (B := w6.heap.size) (M := X1) (a := a6) (c := c6) (R := R6) (HD5.out.frame (fun k _ hk => HB57.out.block k hk)) (hr6.below hal6) hf6 HRL5.out HBN5.out (heap_alloc_new _ _) (by omega) (by omega)
        have HLK := Lib.hid hlk
        clear hr6 hb6 hf6 hal6 x0 x1 x2 x3 x4 x5 x6 x7 HRC5 HXQ5 HZQ5 HBK5 y1 j1 hlk HB5 HD5 HRL5 HBN5
        go_upto_region 8 with fail
        generalize w6.alloc (.cells #[.int .i64 X1.D.room, .slice a6 R6.length c6, .int .i64 X1.D.plan, .bool X1.D.down, .int .i64 X1.most, .int .i64 X1.n, .int .i64 X1.size, .int .i64 X1.waiting] 34) = w7 at *
        generalize w6.heap.size = B7 at *
        generalize hNL : (R6.map fun r => r.f.name) = NL at *
        have HB00 : Hid (Below w7.heap.size w7 w7.drew) := (Below.refl _ _).drew
        have HBZ7 := Lib.hid (HB0.out.trans (HB7.out.mono HB0.out.size))
        have HALZ : Hid (∀ w', Hid (Below w7.heap.size w7 w') → Calls Tryz.prog 44 #[] w' fun e w'' => e = .returned (.bool true) ∧ Below w'.heap.size w' w'') := fun w' hb => HAL.out w' (HB7.out.trans (hb.out.mono HB7.out.size))
        clear hNL HQ HQ2 HTQ HAL hbx hbz HPF2 HB7 HB57 hs5 hs55
        go_region_held3 (fun w' => w'.cell? ⟨B7, 0, none⟩ = some (.int .i64 X1.D.room) ∧ w'.cell? ⟨B7, 1, none⟩ = some (.slice a6 R6.length c6) ∧ w'.cell? ⟨B7, 2, none⟩ = some (.int .i64 X1.D.plan) ∧ w'.cell? ⟨B7, 3, none⟩ = some (.bool X1.D.down) ∧ w'.cell? ⟨B7, 4, none⟩ = some (.int .i64 X1.most) ∧ w'.cell? ⟨B7, 5, none⟩ = some (.int .i64 X1.n) ∧ w'.cell? ⟨B7, 6, none⟩ = some (.int .i64 X1.size) ∧ w'.cell? ⟨B7, 7, none⟩ = some (.int .i64 X1.waiting)) (exact HLK.out.cells _ (by assumption))
          (first
          | (go_at_call 51; refine (HLK.out.used _ (by assumption)).mono ?_; rintro e wa4 ⟨rfl, hb4⟩
             have HB4 := belh_step (w0 := w7) (by assumption) hb4
             clear hb4)
          | (go_at_call 52; refine (HLK.out.rused _ (by assumption)).mono ?_; rintro e wa5 ⟨rfl, hb5⟩
             have HB5 := belh_step (w0 := w7) (by assumption) hb5
             clear hb5)
          | (go_at_call 49; refine (HLK.out.list _ (by assumption)).mono ?_; rintro e wa7 ⟨a7, c7, rfl, hr7, hb7⟩
             have HBL7 := belh_step (w0 := w7) (by assumption) hb7
             have HR7 := Lib.hid hr7
             clear hb7 hr7)
          | (go_at_call 50; refine (HLK.out.names _ (by assumption)).mono ?_; rintro e wa8 ⟨a8, c8, rfl, hr8, hb8⟩
             have HB8 := belh_step (w0 := w7) (by assumption) hb8
             have HR7b := Lib.hid (HR7.out.later hb8)
             have HR8 := Lib.hid hr8
             clear hb8 hr8)
          | (go_at_call 48; refine (sequal_any _ _ _ _ NL _ HR7b.out HR8.out HLK.out.len).mono ?_; rintro e wa9 ⟨rfl, hb9⟩
             have HB9 := belh_step (w0 := w7) HB8 hb9
             clear hb9))
        all_goals clear HR7 HR7b HR8 HB8 HBL7 HB9 HB00
        all_goals go_upto_region 10 with fail
        all_goals have hud : undef = Value.tuple #[] := rfl
        all_goals refine wp_region_held_drew (S := fun w' => Hid (Below w7.heap.size w7 w')) (by kernel_rfl) (belh_drew (by assumption)) (fun hHeld => ?_)
        all_goals refine wpAnyH_ready (rs := [0]) (by kernel_rfl) (by simp) ?_
        all_goals refine AllReadyH.cons rfl (fun K hK => ?_) AllReadyH.nil
        all_goals simp only [List.getElem_toArray, List.getElem_cons_succ, List.getElem_cons_zero]
        all_goals go_simp
        all_goals (go_at_call 44; refine (HALZ.out _ hHeld).mono ?_; rintro e wb1 ⟨rfl, hb1⟩)
        all_goals refine hK.out _ _ (belh_step (w0 := w7) hHeld hb1) (fun hHeld2 => ?_)
        all_goals clear hK K hHeld
        all_goals have hHeld := hHeld2
        all_goals clear hHeld2
        all_goals try simp only [List.getElem_toArray, List.getElem_cons_succ, List.getElem_cons_zero, Act.put, List.setIfInBounds_toArray, List.set_cons_zero, List.set_cons_succ]
        all_goals refine wpAnyH_take (i := 1) (v := .bool true) rfl (by kernel_rfl) (by kernel_rfl) (by kernel_rfl) (fun _ _ _ h => h) (Or.inl ⟨by kernel_rfl, fun W hW => by go_simp⟩) hHeld ?_
        all_goals try simp only [List.getElem_toArray, List.getElem_cons_succ, List.getElem_cons_zero, Act.put, List.setIfInBounds_toArray, List.set_cons_zero, List.set_cons_succ]
        all_goals refine wpAnyH_take (i := 2) (v := .int .i64 cx) rfl (by kernel_rfl) (by kernel_rfl) (by kernel_rfl) (fun _ _ _ h => h) (Or.inl ⟨by kernel_rfl, fun W hW => by go_simp⟩) hHeld ?_
        all_goals try simp only [List.getElem_toArray, List.getElem_cons_succ, List.getElem_cons_zero, Act.put, List.setIfInBounds_toArray, List.set_cons_zero, List.set_cons_succ]
        all_goals refine wpAnyH_take (i := 3) (v := .bool true) rfl (by kernel_rfl) (by kernel_rfl) (by kernel_rfl) (fun _ _ _ h => h) (Or.inl ⟨by kernel_rfl, fun W hW => by go_simp⟩) hHeld ?_
        all_goals try simp only [List.getElem_toArray, List.getElem_cons_succ, List.getElem_cons_zero, Act.put, List.setIfInBounds_toArray, List.set_cons_zero, List.set_cons_succ]
        all_goals refine wpAnyH_take (i := 4) (v := .bool true) rfl (by kernel_rfl) (by kernel_rfl) (by kernel_rfl) (fun _ _ _ h => h) (Or.inl ⟨by kernel_rfl, fun W hW => by go_simp⟩) hHeld ?_
        all_goals try simp only [List.getElem_toArray, List.getElem_cons_succ, List.getElem_cons_zero, Act.put, List.setIfInBounds_toArray, List.set_cons_zero, List.set_cons_succ]
        all_goals refine wpAnyH_take (i := 5) (v := .pointer none) rfl (by kernel_rfl) (by kernel_rfl) (by kernel_rfl) (fun _ _ _ h => h) (Or.inl ⟨by kernel_rfl, fun W hW => by go_simp⟩) hHeld ?_
        all_goals try simp only [List.getElem_toArray, List.getElem_cons_succ, List.getElem_cons_zero, Act.put, List.setIfInBounds_toArray, List.set_cons_zero, List.set_cons_succ]
        all_goals refine wpAnyH_take (i := 6) (v := .bool true) rfl (by kernel_rfl) (by kernel_rfl) (by kernel_rfl) (fun _ _ _ h => h) (Or.inl ⟨by kernel_rfl, fun W hW => by go_simp⟩) hHeld ?_
        all_goals try simp only [List.getElem_toArray, List.getElem_cons_succ, List.getElem_cons_zero, Act.put, List.setIfInBounds_toArray, List.set_cons_zero, List.set_cons_succ]
        all_goals refine wpAnyH_take (i := 7) (v := .bool true) rfl (by kernel_rfl) (by kernel_rfl) (by kernel_rfl) (fun _ _ _ h => h) (Or.inl ⟨by kernel_rfl, fun W hW => by go_simp⟩) hHeld ?_
        all_goals try simp only [List.getElem_toArray, List.getElem_cons_succ, List.getElem_cons_zero, Act.put, List.setIfInBounds_toArray, List.set_cons_zero, List.set_cons_succ]
        all_goals refine wpAnyH_take (i := 8) (v := .bool true) rfl (by kernel_rfl) (by kernel_rfl) (by kernel_rfl) (fun _ _ _ h => h) (Or.inl ⟨by kernel_rfl, fun W hW => by go_simp⟩) hHeld ?_
        all_goals try simp only [List.getElem_toArray, List.getElem_cons_succ, List.getElem_cons_zero, Act.put, List.setIfInBounds_toArray, List.set_cons_zero, List.set_cons_succ]
        all_goals refine wpAnyH_take (i := 9) (v := undef) rfl (by kernel_rfl) (by kernel_rfl) (by kernel_rfl) (fun _ _ _ h => h) (Or.inr ⟨by kernel_rfl, rfl⟩) hHeld ?_
        all_goals try simp only [List.getElem_toArray, List.getElem_cons_succ, List.getElem_cons_zero, Act.put, List.setIfInBounds_toArray, List.set_cons_zero, List.set_cons_succ]
        all_goals refine wpAnyH_take (i := 10) (v := undef) rfl (by kernel_rfl) (by kernel_rfl) (by kernel_rfl) (fun _ _ _ h => h) (Or.inr ⟨by kernel_rfl, rfl⟩) hHeld ?_
        all_goals try simp only [List.getElem_toArray, List.getElem_cons_succ, List.getElem_cons_zero, Act.put, List.setIfInBounds_toArray, List.set_cons_zero, List.set_cons_succ]
        all_goals refine wpAnyH_take (i := 11) (v := undef) rfl (by kernel_rfl) (by kernel_rfl) (by kernel_rfl) (fun _ _ _ h => h) (Or.inr ⟨by kernel_rfl, rfl⟩) hHeld ?_
        all_goals try simp only [List.getElem_toArray, List.getElem_cons_succ, List.getElem_cons_zero, Act.put, List.setIfInBounds_toArray, List.set_cons_zero, List.set_cons_succ]
        all_goals refine wpAnyH_take (i := 12) (v := undef) rfl (by kernel_rfl) (by kernel_rfl) (by kernel_rfl) (fun _ _ _ h => h) (Or.inr ⟨by kernel_rfl, rfl⟩) hHeld ?_
        all_goals try simp only [List.getElem_toArray, List.getElem_cons_succ, List.getElem_cons_zero, Act.put, List.setIfInBounds_toArray, List.set_cons_zero, List.set_cons_succ]
        all_goals refine wpAnyH_take (i := 14) (v := undef) rfl (by kernel_rfl) (by kernel_rfl) (by kernel_rfl) (fun _ _ _ h => h) (Or.inr ⟨by kernel_rfl, rfl⟩) hHeld ?_
        all_goals try simp only [List.getElem_toArray, List.getElem_cons_succ, List.getElem_cons_zero, Act.put, List.setIfInBounds_toArray, List.set_cons_zero, List.set_cons_succ]
        all_goals refine wpAnyH_take (i := 15) (v := undef) rfl (by kernel_rfl) (by kernel_rfl) (by kernel_rfl) (fun _ _ _ h => h) (Or.inr ⟨by kernel_rfl, rfl⟩) hHeld ?_
        all_goals try simp only [List.getElem_toArray, List.getElem_cons_succ, List.getElem_cons_zero, Act.put, List.setIfInBounds_toArray, List.set_cons_zero, List.set_cons_succ]
        all_goals refine wpAnyH_ready (rs := [13]) (by kernel_rfl) (by simp) ?_
        all_goals refine AllReadyH.cons rfl (fun K hK => ?_) AllReadyH.nil
        all_goals simp only [List.getElem_toArray, List.getElem_cons_succ, List.getElem_cons_zero]
        all_goals refine skip_want (by kernel_rfl) ?_
        all_goals refine hK.out _ _ hHeld (fun hHeld2 => ?_)
        all_goals clear hK K hHeld
        all_goals have hHeld := hHeld2
        all_goals clear hHeld2
        all_goals try simp only [List.getElem_toArray, List.getElem_cons_succ, List.getElem_cons_zero, Act.put, List.setIfInBounds_toArray, List.set_cons_zero, List.set_cons_succ]
        all_goals refine wpAnyH_take (i := 16) (v := undef) rfl (by kernel_rfl) (by kernel_rfl) (by kernel_rfl) (fun _ _ _ h => h) (Or.inr ⟨by kernel_rfl, rfl⟩) hHeld ?_
        all_goals try simp only [List.getElem_toArray, List.getElem_cons_succ, List.getElem_cons_zero, Act.put, List.setIfInBounds_toArray, List.set_cons_zero, List.set_cons_succ]
        all_goals refine wpAnyH_take (i := 17) (v := undef) rfl (by kernel_rfl) (by kernel_rfl) (by kernel_rfl) (fun _ _ _ h => h) (Or.inr ⟨by kernel_rfl, rfl⟩) hHeld ?_
        all_goals try simp only [List.getElem_toArray, List.getElem_cons_succ, List.getElem_cons_zero, Act.put, List.setIfInBounds_toArray, List.set_cons_zero, List.set_cons_succ]
        all_goals refine wpAnyH_take (i := 18) (v := undef) rfl (by kernel_rfl) (by kernel_rfl) (by kernel_rfl) (fun _ _ _ h => h) (Or.inr ⟨by kernel_rfl, rfl⟩) hHeld ?_
        all_goals try simp only [List.getElem_toArray, List.getElem_cons_succ, List.getElem_cons_zero, Act.put, List.setIfInBounds_toArray, List.set_cons_zero, List.set_cons_succ]
        all_goals refine wpAnyH_take (i := 19) (v := undef) rfl (by kernel_rfl) (by kernel_rfl) (by kernel_rfl) (fun _ _ _ h => h) (Or.inr ⟨by kernel_rfl, rfl⟩) hHeld ?_
        all_goals try simp only [List.getElem_toArray, List.getElem_cons_succ, List.getElem_cons_zero, Act.put, List.setIfInBounds_toArray, List.set_cons_zero, List.set_cons_succ]
        all_goals refine wpAnyH_take (i := 21) (v := undef) rfl (by kernel_rfl) (by kernel_rfl) (by kernel_rfl) (fun _ _ _ h => h) (Or.inr ⟨by kernel_rfl, rfl⟩) hHeld ?_
        all_goals try simp only [List.getElem_toArray, List.getElem_cons_succ, List.getElem_cons_zero, Act.put, List.setIfInBounds_toArray, List.set_cons_zero, List.set_cons_succ]
        all_goals refine wpAnyH_take (i := 22) (v := undef) rfl (by kernel_rfl) (by kernel_rfl) (by kernel_rfl) (fun _ _ _ h => h) (Or.inr ⟨by kernel_rfl, rfl⟩) hHeld ?_
        all_goals try simp only [List.getElem_toArray, List.getElem_cons_succ, List.getElem_cons_zero, Act.put, List.setIfInBounds_toArray, List.set_cons_zero, List.set_cons_succ]
        all_goals refine wpAnyH_ready (rs := [20]) (by kernel_rfl) (by simp) ?_
        all_goals refine AllReadyH.cons rfl (fun K hK => ?_) AllReadyH.nil
        all_goals simp only [List.getElem_toArray, List.getElem_cons_succ, List.getElem_cons_zero]
        all_goals refine skip_want (by kernel_rfl) ?_
        all_goals refine hK.out _ _ hHeld (fun hHeld2 => ?_)
        all_goals clear hK K hHeld
        all_goals have hHeld := hHeld2
        all_goals clear hHeld2
        all_goals try simp only [List.getElem_toArray, List.getElem_cons_succ, List.getElem_cons_zero, Act.put, List.setIfInBounds_toArray, List.set_cons_zero, List.set_cons_succ]
        all_goals refine wpAnyH_take (i := 23) (v := undef) rfl (by kernel_rfl) (by kernel_rfl) (by kernel_rfl) (fun _ _ _ h => h) (Or.inr ⟨by kernel_rfl, rfl⟩) hHeld ?_
        all_goals try simp only [List.getElem_toArray, List.getElem_cons_succ, List.getElem_cons_zero, Act.put, List.setIfInBounds_toArray, List.set_cons_zero, List.set_cons_succ]
        all_goals refine wpAnyH_take (i := 24) (v := undef) rfl (by kernel_rfl) (by kernel_rfl) (by kernel_rfl) (fun _ _ _ h => h) (Or.inr ⟨by kernel_rfl, rfl⟩) hHeld ?_
        all_goals try simp only [List.getElem_toArray, List.getElem_cons_succ, List.getElem_cons_zero, Act.put, List.setIfInBounds_toArray, List.set_cons_zero, List.set_cons_succ]
        all_goals refine wpAnyH_take (i := 25) (v := undef) rfl (by kernel_rfl) (by kernel_rfl) (by kernel_rfl) (fun _ _ _ h => h) (Or.inr ⟨by kernel_rfl, rfl⟩) hHeld ?_
        all_goals try simp only [List.getElem_toArray, List.getElem_cons_succ, List.getElem_cons_zero, Act.put, List.setIfInBounds_toArray, List.set_cons_zero, List.set_cons_succ]
        all_goals refine wpAnyH_take (i := 26) (v := undef) rfl (by kernel_rfl) (by kernel_rfl) (by kernel_rfl) (fun _ _ _ h => h) (Or.inr ⟨by kernel_rfl, rfl⟩) hHeld ?_
        all_goals try simp only [List.getElem_toArray, List.getElem_cons_succ, List.getElem_cons_zero, Act.put, List.setIfInBounds_toArray, List.set_cons_zero, List.set_cons_succ]
        all_goals refine wpAnyH_ready (rs := [27]) (by kernel_rfl) (by simp) ?_
        all_goals refine AllReadyH.cons rfl (fun K hK => ?_) AllReadyH.nil
        all_goals simp only [List.getElem_toArray, List.getElem_cons_succ, List.getElem_cons_zero]
        all_goals refine skip_want (by kernel_rfl) ?_
        all_goals refine hK.out _ _ hHeld (fun hHeld2 => ?_)
        all_goals clear hK K hHeld
        all_goals have hHeld := hHeld2
        all_goals clear hHeld2
        all_goals try simp only [List.getElem_toArray, List.getElem_cons_succ, List.getElem_cons_zero, Act.put, List.setIfInBounds_toArray, List.set_cons_zero, List.set_cons_succ]
        all_goals refine wpAnyH_take (i := 28) (v := undef) rfl (by kernel_rfl) (by kernel_rfl) (by kernel_rfl) (fun _ _ _ h => h) (Or.inr ⟨by kernel_rfl, rfl⟩) hHeld ?_
        all_goals try simp only [List.getElem_toArray, List.getElem_cons_succ, List.getElem_cons_zero, Act.put, List.setIfInBounds_toArray, List.set_cons_zero, List.set_cons_succ]
        all_goals refine wpAnyH_take (i := 29) (v := undef) rfl (by kernel_rfl) (by kernel_rfl) (by kernel_rfl) (fun _ _ _ h => h) (Or.inr ⟨by kernel_rfl, rfl⟩) hHeld ?_
        all_goals try simp only [List.getElem_toArray, List.getElem_cons_succ, List.getElem_cons_zero, Act.put, List.setIfInBounds_toArray, List.set_cons_zero, List.set_cons_succ]
        all_goals refine wpAnyH_take (i := 30) (v := .bool true) rfl (by kernel_rfl) (by kernel_rfl) (by kernel_rfl) (fun _ _ _ h => h) (Or.inl ⟨by kernel_rfl, fun W hW => by go_simp⟩) hHeld ?_
        all_goals try simp only [List.getElem_toArray, List.getElem_cons_succ, List.getElem_cons_zero, Act.put, List.setIfInBounds_toArray, List.set_cons_zero, List.set_cons_succ]
        all_goals refine wpAnyH_take (i := 31) (v := .bool true) rfl (by kernel_rfl) (by kernel_rfl) (by kernel_rfl) (fun _ _ _ h => h) (Or.inl ⟨by kernel_rfl, fun W hW => by go_simp⟩) hHeld ?_
        all_goals try simp only [List.getElem_toArray, List.getElem_cons_succ, List.getElem_cons_zero, Act.put, List.setIfInBounds_toArray, List.set_cons_zero, List.set_cons_succ]
        all_goals refine wpAnyH_take (i := 32) (v := .bool true) rfl (by kernel_rfl) (by kernel_rfl) (by kernel_rfl) (fun _ _ _ h => h) (Or.inl ⟨by kernel_rfl, fun W hW => by go_simp⟩) hHeld ?_
        all_goals try simp only [List.getElem_toArray, List.getElem_cons_succ, List.getElem_cons_zero, Act.put, List.setIfInBounds_toArray, List.set_cons_zero, List.set_cons_succ]
        all_goals refine wpAnyH_done (by kernel_rfl) ?_ _
        all_goals go_wp2
        all_goals go_ret
        all_goals exact ⟨rfl, belh_end HBZ7 hHeld⟩
      · subst hcx
        have HL5 := Lib.hid hl5
        have HW0 := Lib.hid hw0
        clear hl5 hw0 HEND
        have y1 := cellAt HXQ5.out 1 rfl
        have j1 := cellAt HZQ5.out 1 rfl
        obtain ⟨x0, x1, x2, x3, x4, x5, x6, x7⟩ := cells8w HBK5.out
        go_wp2_with fail
        refine HRC5.out.mono ?_
        rintro e w6 ⟨v', R6, rfl, hf6, hr6, hb6⟩
        obtain ⟨a6, c6, rfl⟩ := slice_form hr6.row
        unfold rlog
        have hal6 : Below w6.heap.size w6 (w6.alloc (.cells #[.int .i64 X1.D.room, .slice a6 R6.length c6, .int .i64 X1.D.plan, .bool X1.D.down, .int .i64 X1.most, .int .i64 X1.n, .int .i64 X1.size, .int .i64 X1.waiting] 34)) := (Below.refl _ _).alloc (Nat.le_refl _) _
        have HB57 := Lib.hid (hb6.trans (hal6.mono hb6.size))
        have HB7 := Lib.hid (HB5.out.trans (HB57.out.mono HB5.out.size))
        have hlk := looksC (w := w6.alloc (.cells #[.int .i64 X1.D.room, .slice a6 R6.length c6, .int .i64 X1.D.plan, .bool X1.D.down, .int .i64 X1.most, .int .i64 X1.n, .int .i64 X1.size, .int .i64 X1.waiting] 34)) (bx := bx) (B := w6.heap.size) (M := X1) (a := a6) (c := c6) (R := R6) (HD5.out.frame (fun k _ hk => HB57.out.block k hk)) (hr6.below hal6) hf6 HRL5.out HBN5.out (heap_alloc_new _ _) (by omega) (by omega)
        have HLK := Lib.hid hlk
        have HL7 := Lib.hid (HL5.out.later HB57.out)
        clear hr6 hb6 hf6 hal6 x0 x1 x2 x3 x4 x5 x6 x7 HRC5 HXQ5 HZQ5 HBK5 y1 j1 hlk HB5 HD5 HRL5 HBN5
        go_upto_region 8 with fail
        generalize w6.alloc (.cells #[.int .i64 X1.D.room, .slice a6 R6.length c6, .int .i64 X1.D.plan, .bool X1.D.down, .int .i64 X1.most, .int .i64 X1.n, .int .i64 X1.size, .int .i64 X1.waiting] 34) = w7 at *
        generalize w6.heap.size = B7 at *
        generalize hNL : (R6.map fun r => r.f.name) = NL at *
        have HB00 : Hid (Below w7.heap.size w7 w7.drew) := (Below.refl _ _).drew
        have HBZ7 := Lib.hid (HB0.out.trans (HB7.out.mono HB0.out.size))
        have HALZ : Hid (∀ w', Hid (Below w7.heap.size w7 w') → Calls Tryz.prog 44 #[] w' fun e w'' => e = .returned (.bool true) ∧ Below w'.heap.size w' w'') := fun w' hb => HAL.out w' (HB7.out.trans (hb.out.mono HB7.out.size))
        have HSEG : Hid (∀ w', Hid (Below w7.heap.size w7 w') → Calls Tryz.prog 35 #[.pointer (some ⟨bl2, 0, none⟩)] w' fun e w'' => e = .returned (.int .i64 X1.n) ∧ w'' = w') := fun w' hb => lsegment_any ⟨X1.n, X1.size, 0, m, D5⟩ bl2 _ _ w' (HL7.out.later hb.out)
        have HSIZ : Hid (∀ w', Hid (Below w7.heap.size w7 w') → Calls Tryz.prog 36 #[.pointer (some ⟨bl2, 0, none⟩)] w' fun e w'' => e = .returned (.int .i64 X1.size) ∧ w'' = w') := fun w' hb => lsize_any ⟨X1.n, X1.size, 0, m, D5⟩ bl2 _ _ w' (HL7.out.later hb.out)
        have HWAI : Hid (∀ w', Hid (Below w7.heap.size w7 w') → Calls Tryz.prog 53 #[.pointer (some ⟨bl2, 0, none⟩)] w' fun e w'' => e = .returned (.int .i64 0) ∧ w'' = w') := fun w' hb => lwaiting_any ⟨X1.n, X1.size, 0, m, D5⟩ bl2 _ _ w' (HL7.out.later hb.out)
        clear HL7 HL5 HW0
        clear hNL HQ HQ2 HTQ HAL hbx hbz HPF2 HB7 HB57 hs5 hs55
        go_region_held3 (fun w' => w'.cell? ⟨B7, 0, none⟩ = some (.int .i64 X1.D.room) ∧ w'.cell? ⟨B7, 1, none⟩ = some (.slice a6 R6.length c6) ∧ w'.cell? ⟨B7, 2, none⟩ = some (.int .i64 X1.D.plan) ∧ w'.cell? ⟨B7, 3, none⟩ = some (.bool X1.D.down) ∧ w'.cell? ⟨B7, 4, none⟩ = some (.int .i64 X1.most) ∧ w'.cell? ⟨B7, 5, none⟩ = some (.int .i64 X1.n) ∧ w'.cell? ⟨B7, 6, none⟩ = some (.int .i64 X1.size) ∧ w'.cell? ⟨B7, 7, none⟩ = some (.int .i64 X1.waiting)) (exact HLK.out.cells _ (by assumption))
          (first
          | (go_at_call 51; refine (HLK.out.used _ (by assumption)).mono ?_; rintro e wa4 ⟨rfl, hb4⟩
             have HB4 := belh_step (w0 := w7) (by assumption) hb4
             clear hb4)
          | (go_at_call 52; refine (HLK.out.rused _ (by assumption)).mono ?_; rintro e wa5 ⟨rfl, hb5⟩
             have HB5 := belh_step (w0 := w7) (by assumption) hb5
             clear hb5)
          | (go_at_call 49; refine (HLK.out.list _ (by assumption)).mono ?_; rintro e wa7 ⟨a7, c7, rfl, hr7, hb7⟩
             have HBL7 := belh_step (w0 := w7) (by assumption) hb7
             have HR7 := Lib.hid hr7
             clear hb7 hr7)
          | (go_at_call 50; refine (HLK.out.names _ (by assumption)).mono ?_; rintro e wa8 ⟨a8, c8, rfl, hr8, hb8⟩
             have HB8 := belh_step (w0 := w7) (by assumption) hb8
             have HR7b := Lib.hid (HR7.out.later hb8)
             have HR8 := Lib.hid hr8
             clear hb8 hr8)
          | (go_at_call 48; refine (sequal_any _ _ _ _ NL _ HR7b.out HR8.out HLK.out.len).mono ?_; rintro e wa9 ⟨rfl, hb9⟩
             have HB9 := belh_step (w0 := w7) HB8 hb9
             clear hb9))
        all_goals clear HR7 HR7b HR8 HB8 HBL7 HB9 HB00
        all_goals go_upto_region 10 with fail
        all_goals have hud : undef = Value.tuple #[] := rfl
        all_goals refine wp_region_held_drew (S := fun w' => Hid (Below w7.heap.size w7 w')) (by kernel_rfl) (belh_drew (by assumption)) (fun hHeld => ?_)
        all_goals refine wpAnyH_ready (rs := [0]) (by kernel_rfl) (by simp) ?_
        all_goals refine AllReadyH.cons rfl (fun K hK => ?_) AllReadyH.nil
        all_goals simp only [List.getElem_toArray, List.getElem_cons_succ, List.getElem_cons_zero]
        all_goals go_simp
        all_goals (go_at_call 44; refine (HALZ.out _ hHeld).mono ?_; rintro e wb1 ⟨rfl, hb1⟩)
        all_goals refine hK.out _ _ (belh_step (w0 := w7) hHeld hb1) (fun hHeld2 => ?_)
        all_goals clear hK K hHeld
        all_goals have hHeld := hHeld2
        all_goals clear hHeld2
        all_goals try simp only [List.getElem_toArray, List.getElem_cons_succ, List.getElem_cons_zero, Act.put, List.setIfInBounds_toArray, List.set_cons_zero, List.set_cons_succ]
        all_goals refine wpAnyH_take (i := 1) (v := .bool true) rfl (by kernel_rfl) (by kernel_rfl) (by kernel_rfl) (fun _ _ _ h => h) (Or.inl ⟨by kernel_rfl, fun W hW => by go_simp⟩) hHeld ?_
        all_goals try simp only [List.getElem_toArray, List.getElem_cons_succ, List.getElem_cons_zero, Act.put, List.setIfInBounds_toArray, List.set_cons_zero, List.set_cons_succ]
        all_goals refine wpAnyH_take (i := 2) (v := .int .i64 0) rfl (by kernel_rfl) (by kernel_rfl) (by kernel_rfl) (fun _ _ _ h => h) (Or.inl ⟨by kernel_rfl, fun W hW => by go_simp⟩) hHeld ?_
        all_goals try simp only [List.getElem_toArray, List.getElem_cons_succ, List.getElem_cons_zero, Act.put, List.setIfInBounds_toArray, List.set_cons_zero, List.set_cons_succ]
        all_goals refine wpAnyH_take (i := 3) (v := .bool false) rfl (by kernel_rfl) (by kernel_rfl) (by kernel_rfl) (fun _ _ _ h => h) (Or.inl ⟨by kernel_rfl, fun W hW => by go_simp⟩) hHeld ?_
        all_goals try simp only [List.getElem_toArray, List.getElem_cons_succ, List.getElem_cons_zero, Act.put, List.setIfInBounds_toArray, List.set_cons_zero, List.set_cons_succ]
        all_goals refine wpAnyH_take (i := 4) (v := .bool false) rfl (by kernel_rfl) (by kernel_rfl) (by kernel_rfl) (fun _ _ _ h => h) (Or.inl ⟨by kernel_rfl, fun W hW => by go_simp⟩) hHeld ?_
        all_goals try simp only [List.getElem_toArray, List.getElem_cons_succ, List.getElem_cons_zero, Act.put, List.setIfInBounds_toArray, List.set_cons_zero, List.set_cons_succ]
        all_goals refine wpAnyH_take (i := 5) (v := undef) rfl (by kernel_rfl) (by kernel_rfl) (by kernel_rfl) (fun _ _ _ h => h) (Or.inr ⟨by kernel_rfl, rfl⟩) hHeld ?_
        all_goals try simp only [List.getElem_toArray, List.getElem_cons_succ, List.getElem_cons_zero, Act.put, List.setIfInBounds_toArray, List.set_cons_zero, List.set_cons_succ]
        all_goals refine wpAnyH_take (i := 6) (v := undef) rfl (by kernel_rfl) (by kernel_rfl) (by kernel_rfl) (fun _ _ _ h => h) (Or.inr ⟨by kernel_rfl, rfl⟩) hHeld ?_
        all_goals try simp only [List.getElem_toArray, List.getElem_cons_succ, List.getElem_cons_zero, Act.put, List.setIfInBounds_toArray, List.set_cons_zero, List.set_cons_succ]
        all_goals refine wpAnyH_take (i := 7) (v := .bool false) rfl (by kernel_rfl) (by kernel_rfl) (by kernel_rfl) (fun _ _ _ h => h) (Or.inl ⟨by kernel_rfl, fun W hW => by go_simp⟩) hHeld ?_
        all_goals try simp only [List.getElem_toArray, List.getElem_cons_succ, List.getElem_cons_zero, Act.put, List.setIfInBounds_toArray, List.set_cons_zero, List.set_cons_succ]
        all_goals refine wpAnyH_take (i := 8) (v := .bool false) rfl (by kernel_rfl) (by kernel_rfl) (by kernel_rfl) (fun _ _ _ h => h) (Or.inl ⟨by kernel_rfl, fun W hW => by go_simp⟩) hHeld ?_
        all_goals try simp only [List.getElem_toArray, List.getElem_cons_succ, List.getElem_cons_zero, Act.put, List.setIfInBounds_toArray, List.set_cons_zero, List.set_cons_succ]
        all_goals refine wpAnyH_take (i := 9) (v := .int .i64 0) rfl (by kernel_rfl) (by kernel_rfl) (by kernel_rfl) (fun _ _ _ h => h) (Or.inl ⟨by kernel_rfl, fun W hW => by go_simp⟩) hHeld ?_
        all_goals try simp only [List.getElem_toArray, List.getElem_cons_succ, List.getElem_cons_zero, Act.put, List.setIfInBounds_toArray, List.set_cons_zero, List.set_cons_succ]
        all_goals refine wpAnyH_take (i := 10) (v := .bool true) rfl (by kernel_rfl) (by kernel_rfl) (by kernel_rfl) (fun _ _ _ h => h) (Or.inl ⟨by kernel_rfl, fun W hW => by go_simp⟩) hHeld ?_
        all_goals try simp only [List.getElem_toArray, List.getElem_cons_succ, List.getElem_cons_zero, Act.put, List.setIfInBounds_toArray, List.set_cons_zero, List.set_cons_succ]
        all_goals refine wpAnyH_take (i := 11) (v := .bool true) rfl (by kernel_rfl) (by kernel_rfl) (by kernel_rfl) (fun _ _ _ h => h) (Or.inl ⟨by kernel_rfl, fun W hW => by go_simp⟩) hHeld ?_
        all_goals try simp only [List.getElem_toArray, List.getElem_cons_succ, List.getElem_cons_zero, Act.put, List.setIfInBounds_toArray, List.set_cons_zero, List.set_cons_succ]
        all_goals refine wpAnyH_take (i := 12) (v := .pointer (some ⟨bl2, 0, none⟩)) rfl (by kernel_rfl) (by kernel_rfl) (by kernel_rfl) (fun _ _ _ h => h) (Or.inl ⟨by kernel_rfl, fun W hW => by go_simp⟩) hHeld ?_
        all_goals try simp only [List.getElem_toArray, List.getElem_cons_succ, List.getElem_cons_zero, Act.put, List.setIfInBounds_toArray, List.set_cons_zero, List.set_cons_succ]
        all_goals refine wpAnyH_take (i := 14) (v := .pointer (some ⟨B7, 5, none⟩)) rfl (by kernel_rfl) (by kernel_rfl) (by kernel_rfl) (fun _ _ _ h => h) (Or.inl ⟨by kernel_rfl, fun W hW => by go_simp⟩) hHeld ?_
        all_goals try simp only [List.getElem_toArray, List.getElem_cons_succ, List.getElem_cons_zero, Act.put, List.setIfInBounds_toArray, List.set_cons_zero, List.set_cons_succ]
        all_goals refine wpAnyH_take (i := 15) (v := .int .i64 X1.n) rfl (by kernel_rfl) (by kernel_rfl) (by kernel_rfl) (fun _ _ _ h => h) (Or.inl ⟨by kernel_rfl, fun W hW => by obtain ⟨_, _, _, _, _, _, _, _⟩ := HLK.out.cells W hW; go_simp⟩) hHeld ?_
        all_goals try simp only [List.getElem_toArray, List.getElem_cons_succ, List.getElem_cons_zero, Act.put, List.setIfInBounds_toArray, List.set_cons_zero, List.set_cons_succ]
        all_goals refine wpAnyH_ready (rs := [13]) (by kernel_rfl) (by simp) ?_
        all_goals refine AllReadyH.cons rfl (fun K hK => ?_) AllReadyH.nil
        all_goals simp only [List.getElem_toArray, List.getElem_cons_succ, List.getElem_cons_zero]
        all_goals go_simp
        all_goals (go_at_call 35; refine (HSEG.out _ hHeld).mono ?_; rintro e wb2 ⟨rfl, rfl⟩)
        all_goals refine hK.out _ _ hHeld (fun hHeld2 => ?_)
        all_goals clear hK K hHeld
        all_goals have hHeld := hHeld2
        all_goals clear hHeld2
        all_goals try simp only [List.getElem_toArray, List.getElem_cons_succ, List.getElem_cons_zero, Act.put, List.setIfInBounds_toArray, List.set_cons_zero, List.set_cons_succ]
        all_goals refine wpAnyH_take (i := 16) (v := .bool true) rfl (by kernel_rfl) (by kernel_rfl) (by kernel_rfl) (fun _ _ _ h => h) (Or.inl ⟨by kernel_rfl, fun W hW => by go_simp⟩) hHeld ?_
        all_goals try simp only [List.getElem_toArray, List.getElem_cons_succ, List.getElem_cons_zero, Act.put, List.setIfInBounds_toArray, List.set_cons_zero, List.set_cons_succ]
        all_goals refine wpAnyH_take (i := 17) (v := .bool true) rfl (by kernel_rfl) (by kernel_rfl) (by kernel_rfl) (fun _ _ _ h => h) (Or.inl ⟨by kernel_rfl, fun W hW => by go_simp⟩) hHeld ?_
        all_goals try simp only [List.getElem_toArray, List.getElem_cons_succ, List.getElem_cons_zero, Act.put, List.setIfInBounds_toArray, List.set_cons_zero, List.set_cons_succ]
        all_goals refine wpAnyH_take (i := 18) (v := .bool true) rfl (by kernel_rfl) (by kernel_rfl) (by kernel_rfl) (fun _ _ _ h => h) (Or.inl ⟨by kernel_rfl, fun W hW => by go_simp⟩) hHeld ?_
        all_goals try simp only [List.getElem_toArray, List.getElem_cons_succ, List.getElem_cons_zero, Act.put, List.setIfInBounds_toArray, List.set_cons_zero, List.set_cons_succ]
        all_goals refine wpAnyH_take (i := 19) (v := .pointer (some ⟨bl2, 0, none⟩)) rfl (by kernel_rfl) (by kernel_rfl) (by kernel_rfl) (fun _ _ _ h => h) (Or.inl ⟨by kernel_rfl, fun W hW => by go_simp⟩) hHeld ?_
        all_goals try simp only [List.getElem_toArray, List.getElem_cons_succ, List.getElem_cons_zero, Act.put, List.setIfInBounds_toArray, List.set_cons_zero, List.set_cons_succ]
        all_goals refine wpAnyH_take (i := 21) (v := .pointer (some ⟨B7, 6, none⟩)) rfl (by kernel_rfl) (by kernel_rfl) (by kernel_rfl) (fun _ _ _ h => h) (Or.inl ⟨by kernel_rfl, fun W hW => by go_simp⟩) hHeld ?_
        all_goals try simp only [List.getElem_toArray, List.getElem_cons_succ, List.getElem_cons_zero, Act.put, List.setIfInBounds_toArray, List.set_cons_zero, List.set_cons_succ]
        all_goals refine wpAnyH_take (i := 22) (v := .int .i64 X1.size) rfl (by kernel_rfl) (by kernel_rfl) (by kernel_rfl) (fun _ _ _ h => h) (Or.inl ⟨by kernel_rfl, fun W hW => by obtain ⟨_, _, _, _, _, _, _, _⟩ := HLK.out.cells W hW; go_simp⟩) hHeld ?_
        all_goals try simp only [List.getElem_toArray, List.getElem_cons_succ, List.getElem_cons_zero, Act.put, List.setIfInBounds_toArray, List.set_cons_zero, List.set_cons_succ]
        all_goals refine wpAnyH_ready (rs := [20]) (by kernel_rfl) (by simp) ?_
        all_goals refine AllReadyH.cons rfl (fun K hK => ?_) AllReadyH.nil
        all_goals simp only [List.getElem_toArray, List.getElem_cons_succ, List.getElem_cons_zero]
        all_goals go_simp
        all_goals (go_at_call 36; refine (HSIZ.out _ hHeld).mono ?_; rintro e wb2 ⟨rfl, rfl⟩)
        all_goals refine hK.out _ _ hHeld (fun hHeld2 => ?_)
        all_goals clear hK K hHeld
        all_goals have hHeld := hHeld2
        all_goals clear hHeld2
        all_goals try simp only [List.getElem_toArray, List.getElem_cons_succ, List.getElem_cons_zero, Act.put, List.setIfInBounds_toArray, List.set_cons_zero, List.set_cons_succ]
        all_goals refine wpAnyH_take (i := 23) (v := .bool true) rfl (by kernel_rfl) (by kernel_rfl) (by kernel_rfl) (fun _ _ _ h => h) (Or.inl ⟨by kernel_rfl, fun W hW => by go_simp⟩) hHeld ?_
        all_goals try simp only [List.getElem_toArray, List.getElem_cons_succ, List.getElem_cons_zero, Act.put, List.setIfInBounds_toArray, List.set_cons_zero, List.set_cons_succ]
        all_goals refine wpAnyH_take (i := 24) (v := .bool true) rfl (by kernel_rfl) (by kernel_rfl) (by kernel_rfl) (fun _ _ _ h => h) (Or.inl ⟨by kernel_rfl, fun W hW => by go_simp⟩) hHeld ?_
        all_goals try simp only [List.getElem_toArray, List.getElem_cons_succ, List.getElem_cons_zero, Act.put, List.setIfInBounds_toArray, List.set_cons_zero, List.set_cons_succ]
        all_goals refine wpAnyH_take (i := 25) (v := .bool true) rfl (by kernel_rfl) (by kernel_rfl) (by kernel_rfl) (fun _ _ _ h => h) (Or.inl ⟨by kernel_rfl, fun W hW => by go_simp⟩) hHeld ?_
        all_goals try simp only [List.getElem_toArray, List.getElem_cons_succ, List.getElem_cons_zero, Act.put, List.setIfInBounds_toArray, List.set_cons_zero, List.set_cons_succ]
        all_goals refine wpAnyH_take (i := 26) (v := .pointer (some ⟨bl2, 0, none⟩)) rfl (by kernel_rfl) (by kernel_rfl) (by kernel_rfl) (fun _ _ _ h => h) (Or.inl ⟨by kernel_rfl, fun W hW => by go_simp⟩) hHeld ?_
        all_goals try simp only [List.getElem_toArray, List.getElem_cons_succ, List.getElem_cons_zero, Act.put, List.setIfInBounds_toArray, List.set_cons_zero, List.set_cons_succ]
        all_goals refine wpAnyH_ready (rs := [27]) (by kernel_rfl) (by simp) ?_
        all_goals refine AllReadyH.cons rfl (fun K hK => ?_) AllReadyH.nil
        all_goals simp only [List.getElem_toArray, List.getElem_cons_succ, List.getElem_cons_zero]
        all_goals go_simp
        all_goals (go_at_call 53; refine (HWAI.out _ hHeld).mono ?_; rintro e wb2 ⟨rfl, rfl⟩)
        all_goals refine hK.out _ _ hHeld (fun hHeld2 => ?_)
        all_goals clear hK K hHeld
        all_goals have hHeld := hHeld2
        all_goals clear hHeld2
        all_goals try simp only [List.getElem_toArray, List.getElem_cons_succ, List.getElem_cons_zero, Act.put, List.setIfInBounds_toArray, List.set_cons_zero, List.set_cons_succ]
        all_goals refine wpAnyH_take (i := 28) (v := .bool true) rfl (by kernel_rfl) (by kernel_rfl) (by kernel_rfl) (fun _ _ _ h => h) (Or.inl ⟨by kernel_rfl, fun W hW => by go_simp⟩) hHeld ?_
        all_goals try simp only [List.getElem_toArray, List.getElem_cons_succ, List.getElem_cons_zero, Act.put, List.setIfInBounds_toArray, List.set_cons_zero, List.set_cons_succ]
        all_goals refine wpAnyH_take (i := 29) (v := .bool true) rfl (by kernel_rfl) (by kernel_rfl) (by kernel_rfl) (fun _ _ _ h => h) (Or.inl ⟨by kernel_rfl, fun W hW => by go_simp⟩) hHeld ?_
        all_goals try simp only [List.getElem_toArray, List.getElem_cons_succ, List.getElem_cons_zero, Act.put, List.setIfInBounds_toArray, List.set_cons_zero, List.set_cons_succ]
        all_goals refine wpAnyH_take (i := 30) (v := .bool true) rfl (by kernel_rfl) (by kernel_rfl) (by kernel_rfl) (fun _ _ _ h => h) (Or.inl ⟨by kernel_rfl, fun W hW => by go_simp⟩) hHeld ?_
        all_goals try simp only [List.getElem_toArray, List.getElem_cons_succ, List.getElem_cons_zero, Act.put, List.setIfInBounds_toArray, List.set_cons_zero, List.set_cons_succ]
        all_goals refine wpAnyH_take (i := 31) (v := .bool true) rfl (by kernel_rfl) (by kernel_rfl) (by kernel_rfl) (fun _ _ _ h => h) (Or.inl ⟨by kernel_rfl, fun W hW => by go_simp⟩) hHeld ?_
        all_goals try simp only [List.getElem_toArray, List.getElem_cons_succ, List.getElem_cons_zero, Act.put, List.setIfInBounds_toArray, List.set_cons_zero, List.set_cons_succ]
        all_goals refine wpAnyH_take (i := 32) (v := .bool true) rfl (by kernel_rfl) (by kernel_rfl) (by kernel_rfl) (fun _ _ _ h => h) (Or.inl ⟨by kernel_rfl, fun W hW => by go_simp⟩) hHeld ?_
        all_goals try simp only [List.getElem_toArray, List.getElem_cons_succ, List.getElem_cons_zero, Act.put, List.setIfInBounds_toArray, List.set_cons_zero, List.set_cons_succ]
        all_goals refine wpAnyH_done (by kernel_rfl) ?_ _
        all_goals go_wp2
        all_goals go_ret
        all_goals exact ⟨rfl, belh_end HBZ7 hHeld⟩
end Go.Proofs.YtgdmdbdljmlkkaaGreatDoor
