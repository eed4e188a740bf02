/- TrimCosts: for trimCosts_holds. -/
import Derived.Test.YtgdmdbdljmlkkaaGreatDoorTo01
import Derived.Test.YtgdmdbdljmlkkaaGreatDoorTt40
import Derived.Test.YtgdmdbdljmlkkaaGreatDoorTo02
set_option linter.unusedVariables false
set_option linter.unusedSimpArgs false
namespace Go.Proofs.YtgdmdbdljmlkkaaGreatDoor
open Go.RowKit
theorem framesB_sum (P : List SL) : (framesB ([] :: P.map SL.l)).length = sumL P + 8 * P.length + 8 := by
  have h : ∀ Q : List SL, (framesB (Q.map SL.l)).length = sumL Q + 8 * Q.length := fun Q => by
    induction Q with
    | nil => rfl
    | cons x Q ih =>
      rw [List.map_cons, framesB_cons, List.length_append, ih, frameB_length]
      simp only [sumL, List.map_cons, List.sum_cons, List.length_cons]
      omega
  rw [framesB_cons, List.length_append, h, frameB_length, List.length_nil]
  omega
structure LooksT (w3 : World) (bx bq B : Nat) (D : DS) (M : LS) (a : Option Addr) (c : Nat) (R : List RF) (a1 : Option Addr) (c1 : Nat) (P1 : List SL) (a2 : Option Addr) (c2 : Nat) (P2 : List SL) (u : Nat) : Prop where
  list : ∀ w', Hid (Below w3.heap.size w3 w') → Calls Tryz.prog 49 #[.pointer (some ⟨bx, 0, none⟩)] w' fun e w'' => ∃ (v : Value) (ss : List ByteArray), e = .returned v ∧ Reads w'' v ss.length 1 (strsV ss) ∧ ss.length ≤ 1000 ∧ refL ss = segsD D ∧ Below w'.heap.size w' w''
  read : ∀ (n : Int) (w' : World), Hid (Below w3.heap.size w3 w') → Calls Tryz.prog 57 #[.pointer (some ⟨bx, 0, none⟩), .string (nameI n)] w' fun e w2 => ∃ a c x, e = .returned (.tuple #[.slice a (contD D n).length c, .int .i64 x]) ∧ Below w'.heap.size w' w2
  cost : ∀ w', Hid (Below w3.heap.size w3 w') → Calls Tryz.prog 58 #[.slice a2 P2.length c2] w' fun e w'' => e = .returned (.int .i64 ((sumL P2 + 8 * P2.length + 8 : Nat) : Int)) ∧ Below w'.heap.size w' w''
  size : ∀ w', Hid (Below w3.heap.size w3 w') → Calls Tryz.prog 59 #[.slice a2 P2.length c2] w' fun e w'' => e = .returned (.int .i64 ((sumL P2 + 8 * P2.length : Nat) : Int)) ∧ w'' = w'
  worth : ∀ w', Hid (Below w3.heap.size w3 w') → Calls Tryz.prog 60 #[.pointer (some ⟨bx, 0, none⟩), .slice a2 P2.length c2] w' fun e w'' => e = .returned (.bool (decide (((sumL P2 + 8 * P2.length + 8 : Nat) : Int) < (u : Int)))) ∧ Below w'.heap.size w' w''
  wnil : ∀ w', Hid (Below w3.heap.size w3 w') → Calls Tryz.prog 60 #[.pointer none, .slice a2 P2.length c2] w' fun e w'' => e = .returned (.bool false) ∧ Below w'.heap.size w' w''
  used : ∀ w', Hid (Below w3.heap.size w3 w') → Calls Tryz.prog 61 #[.agg #[.int .i64 M.D.room, .slice a R.length c, .int .i64 M.D.plan, .bool M.D.down]] w' fun e w'' => e = .returned (.int .i64 u) ∧ Below w'.heap.size w' w''
  cells : ∀ w', Hid (Below w3.heap.size w3 w') → w'.cell? ⟨bq, 1, none⟩ = some (.slice a2 P2.length c2) ∧ w'.cell? ⟨B, 0, none⟩ = some (.int .i64 M.D.room) ∧ w'.cell? ⟨B, 1, none⟩ = some (.slice a R.length c) ∧ w'.cell? ⟨B, 2, none⟩ = some (.int .i64 M.D.plan) ∧ w'.cell? ⟨B, 3, none⟩ = some (.bool M.D.down)
  sum : usedL (contD D) (segsD D) = u
  small : u ≤ 10000
  few : (segsD D).length ≤ 1000
set_option maxRecDepth 100000 in
theorem looksT {w0 w : World} {bx bl bq B : Nat} {L M : LS} {a : Option Addr} {c : Nat} {R : List RF} {S T : Nat → Prop} {P : List SL} {most : Int} {a1 : Option Addr} {c1 : Nat} {a2 : Option Addr} {c2 : Nat} {P2 : List SL} (h : DuelL w0 w bl bx B L M a c R S T (sumL P + 8 * P.length) P.length) (hM : M = putsG opsF (segL 100000 most seg0) (P.map SL.l)) (hP : P.length ≤ 60) (hs : sumL P ≤ 1500) (hP2 : P2.length ≤ 60) (hs2 : sumL P2 ≤ 1500)
    (ht : Tab w) (h2 : SLs w (.slice a2 P2.length c2) P2) (hbq : w.heap[bq]? = some (.cells #[.slice a1 P.length c1, .slice a2 P2.length c2] 80 (0, 0))) : LooksT w bx bq B L.D M a c R a1 c1 P a2 c2 P2 (sumR R) := by
  have hps := puts_seg (most := most) (room := 100000) P (by omega) (by omega) (by omega) P.length (Nat.le_refl _)
  rw [List.take_length, ← hM] at hps
  have hi := runI_take most P (by omega) (by omega) P.length (Nat.le_refl _)
  rw [List.take_length] at hi
  generalize runS most seg0 (P.map SL.l) = s at *
  have h5 := hi.i0
  have h4 := hi.pre
  have hrel := h.d.rel.rel
  have hnames : M.D.files.map DF.name = namesN 0 (s.pre.length + 1) := by rw [hps]; show s.files.map DF.name = _; rw [seg_names, h5]
  have hdn : M.D.down = false := by rw [hps]; rfl
  have hf := h.d.files
  have hRs : sumR R = sumD L.D.files := by rw [sumR_f, hf, ← hrel.sum]
  have hbn := h.d.bnd.d
  have hRs2 : sumR R ≤ 2000 := by rw [hRs]; have := hbn.sum; omega
  have hRn : R.length ≤ 100 := by
    have h1 := congrArg List.length hf
    rw [List.length_map] at h1
    rw [h1, ← hrel.len]; have := hbn.len; omega
  have hDl : L.D.files.length ≤ 100 := by have := hbn.len; omega
  have hnm : ∀ f ∈ L.D.files, f.name.size ≤ maxLen := fun f hf => by have := hbn.nm f hf; unfold maxLen; omega
  have hu : usedL (contD L.D) (segsD L.D) = sumR R := by
    rw [rel_cont hrel, rel_segsD hrel, usedL_names hdn hnames (by omega), sumR_f, hf]
  have hseg : (segsD L.D).length ≤ 1000 := by
    have h1 := refL_length (L.D.files.map DF.name)
    rw [List.length_map] at h1
    unfold segsD; omega
  have hnn : ∀ r ∈ R, ∃ k : Nat, 1 ≤ k ∧ k ≤ 99999999 ∧ r.f.name = nameI k := fun r hr => by
    have h1 : r.f.name ∈ namesN 0 (s.pre.length + 1) := by
      rw [← hnames, ← hf, List.map_map]; exact List.mem_map_of_mem (f := DF.name ∘ RF.f) hr
    obtain ⟨k, hk, he⟩ := List.mem_map.1 h1
    rw [List.mem_range] at hk
    exact ⟨0 + k + 1, by omega, by omega, he.symm⟩
  refine ⟨fun w' hb => ?_, fun n w' hb => ?_, fun w' hb => ?_, fun w' hb => ?_, fun w' hb => ?_, fun w' hb => ?_, fun w' hb => ?_, fun w' hb => ?_, hu, by omega, hseg⟩
  · refine (list_any _ L.D _ w' (h.d.log.dsk.frame (fun k _ hk => hb.out.block k hk)) (by omega) hnm).mono ?_
    rintro e w'' ⟨v, ss, rfl, hrow, hb1, hpw, hmem⟩
    have hsl := mkS_len hpw hmem
    rw [List.length_map] at hsl
    refine ⟨v, mkS ss, rfl, ?_, ?_, refL_same (mkS_mem hmem), hb1⟩
    · rw [mkS_V, List.length_map]; exact hrow.reads
    · rw [List.length_map]; omega
  · refine (read_any _ (nameI n) L.D _ w' (h.d.log.dsk.frame (fun k _ hk => hb.out.block k hk)) (by have := hbn.sum; omega)).mono ?_
    rintro e w'' ⟨v, rfl, hr, hb1⟩
    obtain ⟨a9, c9, rfl⟩ := slice_form hr
    exact ⟨a9, c9, _, rfl, hb1⟩
  · exact tcost_any a2 c2 P2 w' (h2.later hb.out) hP2 hs2
  · exact fsize_any a2 c2 P2 w' (h2.later hb.out) (by omega) (by omega)
  · have := tworth_any _ L.D _ a2 c2 P2 w' (h.d.log.dsk.frame (fun k _ hk => hb.out.block k hk)) (tab_below ht hb.out) (by omega) (by have := hbn.sum; omega) hnm (by omega) (h2.later hb.out) hP2 hs2
    rw [hu] at this
    rw [show (decide (((sumL P2 + 8 * P2.length + 8 : Nat) : Int) < ((sumR R : Nat) : Int))) = decide (sumL P2 + 8 * P2.length + 8 < sumR R) from decide_eq_decide.2 Int.ofNat_lt]
    exact this
  · exact tworth_nil a2 c2 P2 w' (h2.later hb.out) hP2 hs2
  · exact rused10_any M.D.room M.D.plan M.D.down _ R T w' (h.d.lst.below hb.out) (by omega) (by omega) hnn
  · have e1 := (hb.out.block _ (lt_of_heap hbq)).trans hbq
    have e2 := (hb.out.block _ (lt_of_heap h.blk)).trans h.blk
    unfold rcell at e2
    obtain ⟨x0, x1, x2, x3, -, -, -, -⟩ := cells8w e2
    exact ⟨cellAt e1 1 rfl, x0, x1, x2, x3⟩
set_option maxRecDepth 100000 in
set_option maxHeartbeats 8000000 in
theorem trimCosts_any (m : Int) (hm : 0 ≤ m ∧ m ≤ 255) (a : Option Addr) (c : Nat) (P : List SL) (a2 : Option Addr) (c2 : Nat) (P2 : List SL) (w : World) (h : SLs w (.slice a P.length c) P) (hl : P.length ≤ 5864062014805) (he : ∀ x ∈ P, x.l.length ≤ 9223372036854775807)
    (h2 : SLs w (.slice a2 P2.length c2) P2) (hl2 : P2.length ≤ 5864062014805) (he2 : ∀ x ∈ P2, x.l.length ≤ 9223372036854775807) (ht : Tab w) :
    Calls Tryz.prog 11 #[.int .u8 m, .agg #[.slice a P.length c, .slice a2 P2.length c2]] w fun e w' => e = .returned (.bool true) ∧ Below w.heap.size w w' := by
  obtain ⟨hm0, hm1⟩ := hm
  have H := Lib.hid h
  have H2 := Lib.hid h2
  have HT := Lib.hid ht
  have HHE := Lib.hid he
  have HHE2 := Lib.hid he2
  have hbx : Hid ((w.alloc (.cells #[.slice a P.length c, .slice a2 P2.length c2] 80)).heap[w.heap.size]? = some (.cells #[.slice a P.length c, .slice a2 P2.length c2] 80 (0, 0))) := heap_alloc_new w _
  have HB0 : Hid (Below w.heap.size w (w.alloc (.cells #[.slice a P.length c, .slice a2 P2.length c2] 80))) := (Below.refl _ _).alloc (Nat.le_refl _) _
  clear h h2 ht he he2
  go_enter Tryz.func11, Tryz.ntmps11
  go_upto_region 1 with fail
  generalize w.alloc (.cells #[.slice a P.length c, .slice a2 P2.length c2] 80) = wq at *
  obtain ⟨bq, hbq⟩ : ∃ bq, bq = w.heap.size := ⟨_, rfl⟩
  rw [← hbq] at hbx ⊢
  have HBQ : Hid (bq < wq.heap.size) := lt_of_heap hbx.out
  clear hbq
  have k0 := cellAt hbx.out 0 rfl
  have k1 := cellAt hbx.out 1 rfl
  have HQ := Lib.hid (H.out.later HB0.out)
  have HQ2 := Lib.hid (H2.out.later HB0.out)
  have HTQ := Lib.hid (tab_below HT.out HB0.out)
  have HFE := Lib.hid (rfewL_any _ P wq HQ.out hl HHE.out)
  have HFE2 := Lib.hid (rfewL_any _ P2 wq HQ2.out hl2 HHE2.out)
  have HAL := Lib.hid (fun (w' : World) (hb : Below wq.heap.size wq w') => talive_any w' (tab_below HTQ.out hb))
  clear H H2 HHE HHE2 HT
  go_wp2_with fail
  refine HFE.out.mono ?_
  rintro e w1 ⟨⟨b, rfl, hb⟩, hw1⟩
  obtain rfl := hw1.symm
  clear hw1 HFE
  cases b with
  | false =>
    clear hb HFE2
    go_wp2_with fail
    refine (HAL.out _ (Below.refl _ _)).mono ?_
    rintro e w1 ⟨rfl, hb⟩
    have HB := Lib.hid (HB0.out.trans (hb.mono HB0.out.size))
    clear hb
    go_wp2
    go_ret
    exact ⟨rfl, HB.out⟩
  | true =>
    obtain ⟨hP60, hsum⟩ := hb rfl
    clear hb hl
    go_wp2_with fail
    refine HFE2.out.mono ?_
    rintro e w1 ⟨⟨b, rfl, hb⟩, hw1⟩
    obtain rfl := hw1.symm
    clear hw1 HFE2
    cases b with
    | false =>
      clear hb
      go_wp2_with fail
      refine (HAL.out _ (Below.refl _ _)).mono ?_
      rintro e w1 ⟨rfl, hb⟩
      have HB := Lib.hid (HB0.out.trans (hb.mono HB0.out.size))
      clear hb
      go_wp2
      go_ret
      exact ⟨rfl, HB.out⟩
    | true =>
      obtain ⟨hP602, hsum2⟩ := hb rfl
      clear hb hl2
      have HST := Lib.hid (tstart_any 100000 m (by omega) (by omega) a c P wq HTQ.out HQ.out hP60 hsum)
      go_wp2_with fail
      refine HST.out.mono ?_
      rintro e w1 ⟨bx, bl, L, M, va, vc, R, S, T, rfl, hd, hM, hmo⟩
      have HDK := Lib.hid hd.kept
      have HM := Lib.hid hM
      clear hd hM hmo HST
      go_upto_region 4 with fail
      unfold rcell at HDK
      generalize w1.alloc (.cells #[.int .i64 M.D.room, .slice va R.length vc, .int .i64 M.D.plan, .bool M.D.down, .int .i64 M.most, .int .i64 M.n, .int .i64 M.size, .int .i64 M.waiting] 34) = wa at *
      obtain ⟨B5, hB5⟩ : ∃ B5, B5 = w1.heap.size := ⟨_, rfl⟩
      rw [← hB5] at HDK ⊢
      clear hB5 w1 k0 k1
      have HXQ := Lib.hid ((HDK.out.d.bel.block _ HBQ.out).trans hbx.out)
      have y1 := cellAt HXQ.out 1 rfl
      have HBA := Lib.hid (HDK.out.d.bel)
      have HBY := Lib.hid (rmbytes_any a2 c2 P2 wa (HQ2.out.later HDK.out.d.bel) (by omega) (lens_of hsum2))
      unfold BytesP at HBY
      go_wp2_with fail
      refine HBY.out.mono ?_
      rintro e w2 ⟨⟨ba, bc, rfl, -⟩, hb2⟩
      have hlk := looksT (HDK.out.later hb2) HM.out hP60 hsum hP602 hsum2 (tab_below HTQ.out (HBA.out.trans (hb2.mono HBA.out.size))) (HQ2.out.later (HBA.out.trans (hb2.mono HBA.out.size))) ((hb2.block _ (lt_of_heap HXQ.out)).trans HXQ.out)
      have HLK := Lib.hid hlk
      have HT2 := Lib.hid (tab_below HTQ.out (HBA.out.trans (hb2.mono HBA.out.size)))
      have HB02 := Lib.hid (HB0.out.trans ((HBA.out.trans (hb2.mono HBA.out.size)).mono HB0.out.size))
      have HALZ : Hid (∀ w', Hid (Below w2.heap.size w2 w') → Calls Tryz.prog 44 #[] w' fun e w'' => e = .returned (.bool true) ∧ Below w'.heap.size w' w'') := fun w' hb => HAL.out w' ((HBA.out.trans (hb2.mono HBA.out.size)).trans (hb.out.mono (HBA.out.trans (hb2.mono HBA.out.size)).size))
      have hsm := HLK.out.small
      rw [framesB_sum]
      have hcz : sumL P2 + 8 * P2.length + 8 ≤ 10000 := by omega
      have HUS := Lib.hid HLK.out.sum
      have HUT := Lib.hid (fun (k : Nat) (hk : k < (segsD L.D).length) => usedL_take (g := contD L.D) hk)
      have HUL := Lib.hid (fun (k : Nat) => usedL_le (contD L.D) (segsD L.D) k)
      clear hlk hb2 HBY HDK HM HAL HXQ hbx HTQ HQ HQ2 HBQ HBA HB0 y1
      go_upto_region 6 with fail
      go_wp2_with fail
      refine (HLK.out.list _ (Below.refl _ _)).mono ?_
      rintro e w3 ⟨v3, ss, rfl, hr3, hss, hsg, hb3⟩
      have hsl := seglist2_any v3 ss w3 hr3 hss
      rw [hsg] at hsl
      have HSL := Lib.hid hsl
      have HB3 := Lib.hid hb3
      have hfw := HLK.out.few
      clear hr3 hss hsg hb3 hsl
      go_wp2_with fail
      refine HSL.out.mono ?_
      rintro e w4 ⟨v4, rfl, hr4, -, hb4⟩
      have HR4 := Lib.hid hr4
      have HB4 := Lib.hid (HB3.out.trans (hb4.mono HB3.out.size))
      obtain ⟨-, sa, sc, hv4, -⟩ := id hr4
      subst hv4
      obtain ⟨u, hu⟩ : ∃ u, u = sumR R := ⟨_, rfl⟩
      rw [← hu] at HLK HUS hsm
      obtain ⟨cst, hcst⟩ : ∃ cst, cst = sumL P2 + 8 * P2.length + 8 := ⟨_, rfl⟩
      obtain ⟨sz, hsz⟩ : ∃ sz, sz = sumL P2 + 8 * P2.length := ⟨_, rfl⟩
      have HCO : Hid (∀ w', Hid (Below w2.heap.size w2 w') → Calls Tryz.prog 58 #[.slice a2 P2.length c2] w' fun e w'' => e = .returned (.int .i64 cst) ∧ Below w'.heap.size w' w'') := fun w' hb => by rw [hcst]; exact HLK.out.cost w' hb
      have HSZ : Hid (∀ w', Hid (Below w2.heap.size w2 w') → Calls Tryz.prog 59 #[.slice a2 P2.length c2] w' fun e w'' => e = .returned (.int .i64 sz) ∧ w'' = w') := fun w' hb => by rw [hsz]; exact HLK.out.size w' hb
      have hwr : IntKind.i64.wrap ((sz : Int) + 8) = cst := by rw [show ((sz : Int) + 8) = (cst : Int) by omega]; exact IntWalk.i64_in _ (by omega)
      obtain ⟨bw, hbw⟩ : ∃ bw, decide ((cst : Int) < (u : Int)) = bw := ⟨_, rfl⟩
      have hbw2 : decide (cst < u) = bw := by rw [← hbw]; exact (decide_eq_decide.2 Int.ofNat_lt).symm
      have HWO : Hid (∀ w', Hid (Below w2.heap.size w2 w') → Calls Tryz.prog 60 #[.pointer (some ⟨bx, 0, none⟩), .slice a2 P2.length c2] w' fun e w'' => e = .returned (.bool bw) ∧ Below w'.heap.size w' w'') := fun w' hb => by rw [← hbw, hcst]; exact HLK.out.worth w' hb
      rw [← hcst]
      clear hb4 HSL hr4 HB3 hcst hsz hcz hu
      obtain ⟨g, hg⟩ : ∃ g, g = contD L.D := ⟨_, rfl⟩
      obtain ⟨LS, hLS⟩ : ∃ LS, LS = segsD L.D := ⟨_, rfl⟩
      have HRE : Hid (∀ (n : Int) (w' : World), Hid (Below w2.heap.size w2 w') → Calls Tryz.prog 57 #[.pointer (some ⟨bx, 0, none⟩), .string (nameI n)] w' fun e w2 => ∃ a c x, e = .returned (.tuple #[.slice a (g n).length c, .int .i64 x]) ∧ Below w'.heap.size w' w2) := fun n w' hb => by rw [hg]; exact HLK.out.read n w' hb
      rw [← hg, ← hLS] at HUT HUL HUS
      rw [← hLS] at HR4 hfw ⊢
      clear hg hLS
      go_wp2_with fail
      go_loopw [10, 47] (fun u i w' => ∃ k : Nat, k ≤ LS.length ∧ i = .int .i64 k ∧ u = .int .i64 (usedL g (LS.take k) : Nat) ∧ Hid (Below w4.heap.size w4 w')) (fun _ i _ => LS.length - (RowKit.intOf i).toNat)
      case atStart => exact ⟨0, by omega, rfl, rfl, Below.refl _ _⟩
      case round =>
        obtain ⟨k, hk, rfl, rfl, HB⟩ := hrel
        by_cases hlt : k < LS.length
        · obtain ⟨b, o, c', hv, hle, hb, hc⟩ := (HR4.out.later HB.out).at (by omega)
          obtain ⟨rfl, rfl⟩ : sa = some ⟨b, o, none⟩ ∧ sc = c' := by cases hv; exact ⟨rfl, rfl⟩
          have hck : wr.cell? ⟨b, o + k, none⟩ = some (.int .i64 LS[k]) := hc k _ (by simp [ints, hlt])
          have hut := HUT.out k hlt
          have hul := HUL.out (k + 1)
          rw [HUS.out] at hul
          generalize LS[k] = n at *
          have HBW : Hid (Below w2.heap.size w2 wr) := HB4.out.trans (HB.out.mono HB4.out.size)
          have HNM := Lib.hid (segName_any n wr (tab_below HT2.out HBW.out))
          have HRD := Lib.hid (HRE.out n)
          generalize g n = l at *
          have HUX : Hid (usedL g (LS.take (k + 1)) = usedL g (LS.take k) + l.length) := hut
          have hx1 : l.length ≤ 100000 := by omega
          have hx2 : usedL g (LS.take k) ≤ 100000 := by omega
          generalize usedL g (LS.take k) = uk at *
          clear hv hc hut hul hbw hbw2 hwr
          go_wp2_with fail
          refine HNM.out.mono ?_
          rintro e w5 ⟨rfl, hb5⟩
          have HB5 := Lib.hid (HB.out.trans (hb5.mono HB.out.size))
          have HRR := Lib.hid (HRD.out w5 (HB4.out.trans (HB5.out.mono HB4.out.size)))
          clear hb5 HNM HRD hck
          go_wp2_with fail
          refine HRR.out.mono ?_
          rintro e w6 ⟨a6, c6, x6, rfl, hb6⟩
          have HB6 := Lib.hid (HB5.out.trans (hb6.mono HB5.out.size))
          clear hb6 HRR
          go_wp2_with fail
          go_roundw
          case rel => exact ⟨k + 1, by omega, by go_num, by have := HUX.out; congr 1; omega, HB6⟩
          case measure => simp [RowKit.intOf]; omega
        · obtain rfl : k = LS.length := by omega
          rw [List.take_length, HUS.out]
          have HBW : Hid (Below w2.heap.size w2 wr) := HB4.out.trans (HB.out.mono HB4.out.size)
          have HBE : Hid (Below w2.heap.size w2 wr.drew) := HBW.out.drew
          have HUSED := Lib.hid HLK.out.used
          have HWW : Hid (∀ (o : Option Addr) (w' : World), (o = none ∨ o = some ⟨bx, 0, none⟩) → Hid (Below w2.heap.size w2 w') → Calls Tryz.prog 60 #[.pointer o, .slice a2 P2.length c2] w' fun e w'' => e = .returned (.bool (o.elim false fun _ => bw)) ∧ Below w'.heap.size w' w'') := fun o w' ho hb => by
            rcases ho with rfl | rfl
            · exact HLK.out.wnil w' hb
            · exact HWO.out w' hb
          have HCELL := Lib.hid HLK.out.cells
          clear HR4 HB HRE HUT HUL HUS HLK HB4 HWO hsm hfw hlt hk HT2
          cases bw
          all_goals go_upto_region 13 with fail
          all_goals
           go_region_held3 (fun w' => w'.cell? ⟨bq, 1, none⟩ = some (.slice a2 P2.length c2) ∧ w'.cell? ⟨B5, 0, none⟩ = some (.int .i64 M.D.room) ∧ w'.cell? ⟨B5, 1, none⟩ = some (.slice va R.length vc) ∧ w'.cell? ⟨B5, 2, none⟩ = some (.int .i64 M.D.plan) ∧ w'.cell? ⟨B5, 3, none⟩ = some (.bool M.D.down)) (first | exact HCELL.out _ (by assumption) | exact HCELL.out _ HBE)
            (first
            | (go_at_call 44; refine (HALZ.out _ (by assumption)).mono ?_; rintro e wb1 ⟨rfl, hb1⟩
               have HBA := belh_step (w0 := w2) (by assumption) hb1
               clear hb1)
            | (go_at_call 58; refine (HCO.out _ (by assumption)).mono ?_; rintro e wb2 ⟨rfl, hb2⟩
               have HBB := belh_step (w0 := w2) (by assumption) hb2
               clear hb2)
            | (go_at_call 59; refine (HSZ.out _ (by assumption)).mono ?_; rintro e wb3 ⟨rfl, rfl⟩)
            | (go_at_call 60; refine (HWW.out _ _ (by first | exact .inl rfl | exact .inr rfl) (by assumption)).mono ?_; rintro e wb4 ⟨rfl, hb4⟩
               simp only [Option.elim_none, Option.elim_some]
               have HBD := belh_step (w0 := w2) (by assumption) hb4
               clear hb4)
            | (go_at_call 61; refine (HUSED.out _ (by assumption)).mono ?_; rintro e wb5 ⟨rfl, hb5⟩
               have HBF := belh_step (w0 := w2) (by assumption) hb5
               clear hb5))
          all_goals go_wp2
          all_goals go_ret
          all_goals exact ⟨rfl, belh_end HB02 (by assumption)⟩
end Go.Proofs.YtgdmdbdljmlkkaaGreatDoor
