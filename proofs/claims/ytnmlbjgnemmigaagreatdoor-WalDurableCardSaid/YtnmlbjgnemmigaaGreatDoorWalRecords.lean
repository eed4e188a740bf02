/- The law WalRecords returns true. -/
import Derived.Test.YtnmlbjgnemmigaaGreatDoorWalRotates
import Derived.Test.YtnmlbjgnemmigaaGreatDoorRefRecs
namespace Go.Proofs.YtnmlbjgnemmigaaGreatDoor
set_option linter.unusedVariables false
set_option linter.unusedSimpArgs false
open Go.RowKit

/-- Something else has changed. -/
theorem Live8.away {w0 w w' : World} {bl bx : Nat} {L : LS} {room most : Int} {s : Seg} {q : Nat} {S T : Nat → Prop} (h : Live8 w0 w bl bx L room most s q S) (hc : Chg T w w') (hT : ∀ k, k < w.heap.size → T k → w0.heap.size ≤ k ∧ ¬ S k) : Live8 w0 w' bl bx L room most s q S where
  log := h.log.frame (fun k hk hlt => hc.block k hlt (fun e => (hT k hlt e).2 hk))
  sub := fun k hk => ⟨(h.sub k hk).1, Nat.lt_of_lt_of_le (h.sub k hk).2 hc.size⟩
  rel := h.rel
  bnd := h.bnd
  bel := h.bel.trans (hc.toBelow h.bel.size (fun k hk e => by have := hT k (Nat.lt_of_lt_of_le hk h.bel.size) e; omega))
  good := h.good

/-- What Put leaves of a list that lies elsewhere. -/
theorem want_put {w0 w w' : World} {v : Value} {n : Nat} {xs : List Value} {S S' : Nat → Prop} {e : TypeId} (h : Row w e 1 v n xs (fun j => w0.heap.size ≤ j ∧ ¬ S j)) (hc : Chg S w w') (hS : ∀ k, S' k → S k ∨ w.heap.size ≤ k) : Row w' e 1 v n xs (fun j => (w0.heap.size ≤ j ∧ ¬ S' j) ∧ j < w.heap.size) :=
  (h.tight.frame (fun k hk hlt => hc.block k hlt hk.1.2)).mono (fun k hk => ⟨⟨hk.1.1, fun e => by rcases hS k e with h1 | h1; exact hk.1.2 h1; omega⟩, hk.2⟩)

theorem runS_all {P : List SL} {k : Nat} (h : k < P.length) (most : Int) : (runS most seg0 ((P.take (k + 1)).map SL.l)).all = (runS most seg0 ((P.take k).map SL.l)).all ++ (if takes most P[k].l then [P[k].l] else []) := by
  rw [runS_take h, stepS_all]

/-- The records of the segments' files, in order. -/
theorem seg_flat {most : Int} {s : Seg} (hg : s.good most) : s.files.flatMap (fun f => (splitB f.b).1) = s.all := by
  have := hg.num
  rw [← recs_seg hg, recsF_names (seg_names s) (by omega)]

set_option maxRecDepth 100000 in
set_option maxHeartbeats 8000000 in
theorem walRecords_any (m : Nat) (hm : m < 65536) (a : Option Addr) (c : Nat) (P : List SL) (w : World) (h : SLs w (.slice a P.length c) P) (hl : P.length ≤ 5864062014805) (he : ∀ x ∈ P, x.l.length ≤ 9223372036854775807) (ht : Tab w) :
    Calls Tryz.prog 3 #[.int .u16 m, .slice a P.length c] w fun e w' => e = .returned (.bool true) ∧ Below w.heap.size w w' := by
  have H := Lib.hid h
  have HT := Lib.hid ht
  have HFE := Lib.hid (rfewL_any _ P w h hl he)
  clear h ht he
  go_enter Tryz.func3, Tryz.ntmps3
  go_wp2_with fail
  refine HFE.out.mono ?_
  rintro e w1 ⟨⟨b, rfl, hb⟩, hw1⟩
  obtain rfl := hw1.symm
  clear hw1 HFE
  cases b with
  | false =>
    clear hb
    go_wp2_with fail
    refine (alive_any w HT.out).mono ?_
    rintro e w1 ⟨rfl, hb⟩
    have HB := Lib.hid hb
    clear hb
    go_wp2
    go_ret
    exact ⟨rfl, HB.out⟩
  | true =>
    obtain ⟨hP60, hsum⟩ := hb rfl
    clear hb hl
    have HRUN := Lib.hid (runI_take (m : Int) P (by omega) (by omega))
    go_wp2_with fail
    refine (live8_start 100000 m w (by omega)).mono ?_
    rintro e w1 ⟨bx, bl, L0, S0, rfl, hl0⟩
    have HL0 := Lib.hid hl0
    clear hl0
    go_wp2_with fail
    go_loopw [7, 28] (fun want i w' => ∃ (k : Nat) (L : LS) (S : Nat → Prop) (W : List SL), k ≤ P.length ∧ i = .int .i64 k ∧ Hid (Live8 w w' bl bx L 100000 m (runS m seg0 ((P.take k).map SL.l)) k S) ∧ Hid (Row w' 30 1 want W.length (W.map SL.v) (fun j => w.heap.size ≤ j ∧ ¬ S j)) ∧ Hid (∀ x ∈ W, Reads w x.v x.l.length 1 (byts x.l)) ∧ Hid (W.map SL.l = (runS m seg0 ((P.take k).map SL.l)).all) ∧ W.length ≤ k) (fun _ i _ => P.length - (RowKit.intOf i).toNat)
    case atStart => exact ⟨0, L0, S0, [], by omega, rfl, HL0, Row.nil _ _ _ _, by simp [Hid], rfl, by simp⟩
    case round =>
      obtain ⟨k, L, S, W, hk, rfl, HL, HW, HWE, HWL, hwk⟩ := hrel
      by_cases hlt : k < P.length
      · obtain ⟨b, o, ea, ec, rfl, hle, hbl, hev, hc, hr⟩ := (H.out.later HL.out.bel).head hlt
        have hxl := sumL_at hlt
        have HI := Lib.hid (HRUN.out k hk)
        have hi0 := HI.out.i0
        have hipre := HI.out.pre
        have hilen := HI.out.len
        have hsk := sumL_le P k
        have HST := Lib.hid (runS_take hlt (m : Int) seg0)
        have HAL := Lib.hid (runS_all hlt (m : Int))
        have HEV : Hid (Reads w (.slice ea P[k].l.length ec) P[k].l.length 1 (byts P[k].l)) := by
          have := H.out.each P[k] (List.getElem_mem hlt)
          rwa [hev] at this
        have hcode := stepS_code (m : Int) (runS m seg0 ((P.take k).map SL.l)) P[k].l
        have HPU := Lib.hid (HL.out.put HT.out (by omega) (by omega) ea ec P[k].l hr (by omega) (by omega) (by omega))
        rw [← HST.out] at HPU
        generalize (stepS m (runS m seg0 ((P.take k).map SL.l)) P[k].l).2 = cd at *
        generalize P[k].l = pl at *
        clear hr hi0 hipre hilen hsk hev
        by_cases hcd : cd = 0
        · subst hcd
          rw [if_pos (hcode.1 rfl)] at HAL
          clear hcode
          go_wp2_with fail
          refine HPU.out.mono ?_
          rintro e w2 ⟨L2, S2, rfl, hl2, hch2, hs2⟩
          have HL2 := Lib.hid hl2
          have HW2 := Lib.hid (want_put HW.out hch2 hs2)
          have hz2 := hch2.size
          have hz0 := hl2.bel.size
          clear hl2 HPU HL hch2 hs2 HW
          go_wp2_with (
            refine wpList_row elemRec rfl rfl (S := fun j => (w.heap.size ≤ j ∧ ¬ S2 j) ∧ j < wr.heap.size) (n := W.length) (xs := W.map SL.v) rfl (HW2.out.frame (fun k _ hk => Below.heap_alloc _ _ _ hk)) (y := .slice (some ⟨w2.heap.size, 0, none⟩) 1 1) (m := 1) (news := [.slice ea pl.length ec]) rfl (reads_one w2 _ _) (one_of rfl) (by unfold maxLen; omega) (by omega) ?_
            intro v5 w5 hr5 hc5)
          have HL5 : Hid (Live8 w w5 bl bx L2 100000 m (runS m seg0 ((P.take (k + 1)).map SL.l)) (k + 1) S2) := (HL2.out.later ((Below.refl _ _).alloc (Nat.le_refl _) _)).away hc5 (fun j hj e => e.1)
          have HW5 : Hid (Row w5 30 1 v5 (W ++ [(⟨.slice ea pl.length ec, pl⟩ : SL)]).length ((W ++ [(⟨.slice ea pl.length ec, pl⟩ : SL)]).map SL.v) (fun j => w.heap.size ≤ j ∧ ¬ S2 j)) := by
            rw [Hid, List.length_append, List.map_append]
            refine hr5.mono (fun j hj => ?_)
            rcases hj with hj | hj
            · exact hj.1
            · simp only [World.size_alloc] at hj
              exact ⟨by omega, fun e => by have := (HL2.out.sub j e).2; omega⟩
          have HWE5 : Hid (∀ x ∈ W ++ [(⟨.slice ea pl.length ec, pl⟩ : SL)], Reads w x.v x.l.length 1 (byts x.l)) := by
            intro x hx
            rcases List.mem_append.1 hx with hx | hx
            · exact HWE.out x hx
            · rw [List.mem_singleton.1 hx]; exact HEV.out
          have HWL5 : Hid ((W ++ [(⟨.slice ea pl.length ec, pl⟩ : SL)]).map SL.l = (runS m seg0 ((P.take (k + 1)).map SL.l)).all) := by
            rw [Hid, HAL.out, List.map_append, HWL.out]; rfl
          clear hr5 hc5 HW2 HL2 HWE HWL
          go_wp2
          go_roundw
          case rel => exact ⟨k + 1, L2, S2, W ++ [(⟨.slice ea pl.length ec, pl⟩ : SL)], by omega, by go_num, HL5, HW5, HWE5, HWL5, by simp; omega⟩
          case measure => simp [RowKit.intOf]; omega
        · have hcb : (cd == 0) = false := by simpa using hcd
          have hcb2 : decide (cd = 0) = false := decide_eq_false hcd
          rw [if_neg (fun e => hcd (hcode.2 e)), List.append_nil] at HAL
          clear hcode
          go_wp2_with fail
          refine HPU.out.mono ?_
          rintro e w2 ⟨L2, S2, rfl, hl2, hch2, hs2⟩
          have HL2 := Lib.hid hl2
          have HW2 := Lib.hid ((want_put HW.out hch2 hs2).mono (fun j hj => hj.1))
          rw [← HAL.out] at HWL
          clear hl2 HPU HL hch2 hs2 HW
          go_wp2
          go_roundw
          case rel => exact ⟨k + 1, L2, S2, W, by omega, by go_num, HL2, HW2, HWE, HWL, by omega⟩
          case measure => simp [RowKit.intOf]; omega
      · obtain rfl : k = P.length := by omega
        rw [List.take_length] at HL HWL
        have HI := Lib.hid (HRUN.out P.length (Nat.le_refl _))
        rw [List.take_length] at HI
        clear hlt hk HL0
        go_wp2_with fail
        have HN := Lib.hid (rnewL_any 100000 m wr)
        rw [show max (100000 : Int) 0 = 100000 from rfl] at HN
        refine HN.out.mono ?_
        rintro e w2 ⟨v, R, rfl, hf, hr2, hb2⟩
        have HL2 := Lib.hid (HL.out.later hb2)
        have hs2 := HL.out.bel.size
        obtain ⟨n1, z1, t1, o1, rm1, a1, c1, pl1, dn1, hag, rfl, hn1⟩ := refAt_of (w0 := wr) (room := 100000) (most := m) hf hr2
        rw [hag]
        have HF2 := Lib.hid hf
        have HR2 := Lib.hid hr2
        have HAG := Lib.hid hag
        have HN1 := Lib.hid hn1
        have HBW := Lib.hid hb2
        have hsb := hb2.size
        clear hf hr2 hag hn1 hb2 HN HL2
        go_upto_region 14 with fail
        have HX3 : Hid ((w2.alloc (.cells #[.int .i64 rm1, .slice a1 R.length c1, .int .i64 pl1, .bool dn1, .int .i64 o1, .int .i64 n1, .int .i64 z1, .int .i64 t1] 37)).heap[w2.heap.size]? = some (.cells #[.int .i64 rm1, .slice a1 R.length c1, .int .i64 pl1, .bool dn1, .int .i64 o1, .int .i64 n1, .int .i64 z1, .int .i64 t1] 37 (0, 0))) := heap_alloc_new _ _
        have HRA3 : Hid (RefAt wr (w2.alloc (.cells #[.int .i64 rm1, .slice a1 R.length c1, .int .i64 pl1, .bool dn1, .int .i64 o1, .int .i64 n1, .int .i64 z1, .int .i64 t1] 37)) w2.heap.size 100000 m seg0 n1 z1 t1 o1 rm1 a1 R.length c1 pl1 dn1) := ⟨HX3.out, ⟨R, rfl, HF2.out, (HR2.out.tight.below ((Below.refl _ _).alloc (Nat.le_refl _) _)).mono (fun k hk => ⟨hk.1, by have := hk.2; omega⟩), HAG.out⟩, HN1.out⟩
        have HB3 : Hid (Below wr.heap.size wr (w2.alloc (.cells #[.int .i64 rm1, .slice a1 R.length c1, .int .i64 pl1, .bool dn1, .int .i64 o1, .int .i64 n1, .int .i64 z1, .int .i64 t1] 37))) := HBW.out.alloc hsb _
        generalize w2.alloc (.cells #[.int .i64 rm1, .slice a1 R.length c1, .int .i64 pl1, .bool dn1, .int .i64 o1, .int .i64 n1, .int .i64 z1, .int .i64 t1] 37) = w3 at *
        have HBT : Hid (wr.heap.size ≤ w2.heap.size) := hsb
        generalize w2.heap.size = bt at *
        clear HX3 HF2 HR2 HAG HN1 HBW
        obtain ⟨wl, hwl⟩ : ∃ wl : World, wl = wr := ⟨_, rfl⟩
        subst hwl
        go_wp2_with fail
        go_loopw [46] (fun i w' => ∃ (k : Nat) (n size wt mo rm : Int) (a : Option Addr) (ln c : Nat) (pl : Int) (dn : Bool), k ≤ P.length ∧ i = .int .i64 k ∧ Hid (RefAt wl w' bt 100000 m (runS m seg0 ((P.take k).map SL.l)) n size wt mo rm a ln c pl dn) ∧ Hid (Below wl.heap.size wl w')) (fun i _ => P.length - (RowKit.intOf i).toNat)
        case atStart => exact ⟨0, _, _, _, _, _, _, _, _, _, _, by omega, rfl, HRA3, HB3⟩
        case round =>
          obtain ⟨k, n2, z2, t2, o2, rm2, a2, ln2, c2, pl2, dn2, hk, rfl, HRA, HBA⟩ := hrel
          have HBWA := Lib.hid (HL.out.bel.trans (HBA.out.mono HL.out.bel.size))
          by_cases hlt : k < P.length
          · obtain ⟨b, o, ea, ec, rfl, hle, hbl, -, hc, hr⟩ := (H.out.later HBWA.out).head hlt
            have hxl := sumL_at hlt
            have HIK := Lib.hid (HRUN.out k hk)
            have hilen := HIK.out.len
            have hsk := sumL_le P k
            have HST := Lib.hid (runS_take hlt (m : Int) seg0)
            obtain ⟨R3, hRl, hRf, hRr, heq⟩ := HRA.out.eq
            have hpu := rput_seg (room := 100000) HIK.out (by omega) (by omega) (.slice a2 ln2 c2) R3 _ ea ec P[k].l wr hRr hRf hr (by omega) (by omega)
            rw [heq] at hpu
            have HPU := Lib.hid hpu
            obtain ⟨x0, x1, x2, x3, x4, x5, x6, x7⟩ := cells8w HRA.out.blk
            generalize P[k].l = pl at *
            clear hr hilen hsk hpu hRl hRf hRr heq
            go_wp2_with fail
            refine HPU.out.mono ?_
            rintro e w4 ⟨v', R4, rfl, hf4, hr4, hb4⟩
            obtain ⟨n4, z4, t4, o4, rm4, a4, c4, pl4, dn4, hag4, rfl, hn4⟩ := refAt_of (w0 := wl) (room := 100000) (most := m) (s := (stepS m (runS m seg0 ((P.take k).map SL.l)) pl).1) hf4 (hr4.mono (fun x hx => by have := HBA.out.size; rcases hx with h | h; exact h.1; omega))
            rw [hag4]
            have HX4 := Lib.hid ((hb4.block _ (lt_of_heap HRA.out.blk)).trans HRA.out.blk)
            have hbtl := lt_of_heap HRA.out.blk
            have hws := HBA.out.size
            have HRS := Lib.hid (ref_store HX4.out rfl hf4 hr4 (fun x hx => by rcases hx with h | h; exact h; exact ⟨by omega, by omega⟩) hag4 hn4 (HBA.out.trans (hb4.mono HBA.out.size)) HBT.out)
            rw [← HST.out] at HRS
            clear hf4 hr4 hb4 hag4 hn4 HPU HBA HBWA hbtl hws HRA x0 x1 x2 x3 x4 x5 x6 x7
            generalize (stepS m (runS m seg0 ((P.take k).map SL.l)) pl).2 = code at *
            obtain ⟨x0, x1, x2, x3, x4, x5, x6, x7⟩ := cells8w HX4.out
            have q0 := freeAt HX4.out 0
            have q1 := freeAt HX4.out 1
            have q2 := freeAt HX4.out 2
            have q3 := freeAt HX4.out 3
            have q4 := freeAt HX4.out 4
            have q5 := freeAt HX4.out 5
            have q6 := freeAt HX4.out 6
            have q7 := freeAt HX4.out 7
            go_upto_region 18 with fail
            generalize ((((((((w4.setCell ⟨bt, 0, none⟩ (.int .i64 rm4)).setCell ⟨bt, 1, none⟩ (.slice a4 R4.length c4)).setCell ⟨bt, 2, none⟩ (.int .i64 pl4)).setCell ⟨bt, 3, none⟩ (.bool dn4)).setCell ⟨bt, 4, none⟩ (.int .i64 o4)).setCell ⟨bt, 5, none⟩ (.int .i64 n4)).setCell ⟨bt, 6, none⟩ (.int .i64 z4)).setCell ⟨bt, 7, none⟩ (.int .i64 t4)) = w5 at *
            have HRA5 := Lib.hid HRS.out.1
            have HB5 := Lib.hid HRS.out.2
            clear HRS HX4 x0 x1 x2 x3 x4 x5 x6 x7 q0 q1 q2 q3 q4 q5 q6 q7
            go_wp2
            go_roundw
            case rel => exact ⟨k + 1, _, _, _, _, _, _, _, _, _, _, by omega, by go_num, HRA5, HB5⟩
            case measure => simp [RowKit.intOf]; omega
          · obtain rfl : k = P.length := by omega
            rw [List.take_length] at HRA
            have HLr := Lib.hid (HL.out.later HBA.out)
            have HWr := Lib.hid (HW.out.reads.later HBA.out)
            generalize runS m seg0 (P.map SL.l) = s at *
            obtain ⟨hg, hi0, hpr, hgl⟩ := HI.out
            have hrel := HLr.out.rel.rel
            have hfl := HLr.out.bnd.d.len
            have hnm : ∀ f ∈ L.D.files, f.name.size ≤ maxLen := fun f hf => by have := HLr.out.bnd.d.nm f hf; unfold maxLen; omega
            have hsm : sumD L.D.files = (framesB s.all).length := by rw [hrel.sum]; exact seg_sum s
            have hsg : refL (L.D.files.map DF.name) = upto 0 (s.pre.length + 1) := by have := rel_segs hrel (by omega); rwa [hi0] at this
            have hrc : recsD L.D = s.all := rel_recs hrel hg
            obtain ⟨R3, hRl, hRf, hRr, -⟩ := HRA.out.eq
            have hRn : R3.length = s.pre.length + 1 := by have := congrArg List.length hRf; rw [List.length_map, files_len] at this; exact this
            have hRnm : R3.map (fun r => r.f.name) = namesN 0 R3.length := by
              rw [hRn, ← hi0, ← seg_names s, ← hRf, List.map_map]; rfl
            have hRb : ∀ r ∈ R3, r.f.b.length ≤ 100000 := fun r hr => by
              have h1 : r.f ∈ s.files := by rw [← hRf]; exact List.mem_map_of_mem hr
              have h2 := len_le_sum h1
              rw [seg_sum] at h2
              omega
            have hRflat : R3.flatMap (fun r => (splitB r.f.b).1) = s.all := by
              rw [← seg_flat hg, ← hRf, List.flatMap_map]
            have HNM := Lib.hid hnm
            have HRC := Lib.hid hrc
            have HSG0 := Lib.hid hsg
            have hBW := HLr.out.bel
            have HBW := Lib.hid hBW
            obtain ⟨np, hnp⟩ : ∃ np, np = s.pre.length + 1 := ⟨_, rfl⟩
            rw [← hnp] at HSG0
            have hnp1 : np ≤ 61 := by omega
            have HBLK := Lib.hid HRA.out.blk
            have HRR0 : Hid (∀ w', Below wr.heap.size wr w' → Calls Tryz.prog 15 #[rdisk rm2 (.slice a2 ln2 c2) pl2 dn2] w' (RRecP w' R3)) := fun w' hb => rrecords_any rm2 pl2 dn2 _ R3 _ w' (hRr.below hb) 0 (by omega) (by omega) hRnm hRb
            unfold rdisk at HRR0
            have HRF := Lib.hid hRflat
            have hal : s.all.length ≤ 1000000 := by have := framesB_len8 s.all; omega
            have HRE := Lib.hid (records_any _ L.D _ wr HLr.out.log.dsk (tab_below HT.out HBW.out) (by omega) (by omega) hnm)
            clear hrel hnm hrc hsg hBW HRA HL HBA hg HRUN hlt hk hRl hRf hRr hRnm hRb hRflat hnp HW
            go_wp2_with fail
            refine HRE.out.mono ?_
            rintro e w5 ⟨v5, X, rfl, hrow5, hx5, he5, hxl5, hb5⟩
            rw [HRC.out] at he5
            have HB5 := Lib.hid (HBW.out.trans (hb5.mono HBW.out.size))
            have HG : Hid (SLs w5 v5 (X.map slOf)) := sls_rx hrow5 hx5
            have HGL : Hid ((X.map slOf).map SL.l = s.all) := by rw [Hid, List.map_map, ← he5]; rfl
            have HGN : Hid ((X.map slOf).length ≤ 1000000000) := by rw [Hid, List.length_map]; omega
            have HWS : Hid (SLs w5 u7 W) := ⟨HWr.out.later hb5, fun x hx => (HWE.out x hx).later HB5.out⟩
            have HL5 := Lib.hid (HLr.out.later hb5)
            have HX5 := Lib.hid ((hb5.block _ (lt_of_heap HBLK.out)).trans HBLK.out)
            have HS1 : Hid (∀ w', Hid (Below w5.heap.size w5 w') → Calls Tryz.prog 14 #[v5, u7] w' fun e w'' => e = .returned (.bool true) ∧ Below w'.heap.size w' w'') := fun w' hb =>
              rsameL_any _ _ _ _ _ (HG.out.later hb.out) (HWS.out.later hb.out) (by rw [HGL.out, HWL.out]) HGN.out
            have HAL5 : Hid (∀ w', Hid (Below w5.heap.size w5 w') → Calls Tryz.prog 8 #[] w' fun e w'' => e = .returned (.bool true) ∧ Below w'.heap.size w' w'') := fun w' hb =>
              alive_any w' (tab_below HT.out (HB5.out.trans (hb.out.mono HB5.out.size)))
            have HRR : Hid (∀ w', Hid (Below w5.heap.size w5 w') → Calls Tryz.prog 15 #[.agg #[.int .i64 rm2, .slice a2 ln2 c2, .int .i64 pl2, .bool dn2]] w' (RRecP w' R3)) := fun w' hb => HRR0.out w' (hb5.trans (hb.out.mono hb5.size))
            have HLI : Hid (∀ w', Hid (Below w5.heap.size w5 w') → Calls Tryz.prog 18 #[.pointer (some ⟨bx, 0, none⟩)] w' fun e w'' => ∃ v ss, e = .returned v ∧ Below w'.heap.size w' w'' ∧ Calls Tryz.prog 17 #[v] w'' fun e w3 => ∃ v', e = .returned v' ∧ Reads w3 v' np 1 (ints (upto 0 np)) ∧ Below w''.heap.size w'' w3) := fun w' hb => by
              refine (list_any _ L.D _ w' (HL5.out.later hb.out).log.dsk (by omega) HNM.out).mono ?_
              rintro e w2 ⟨v2, ss, rfl, hrow, hb2, hpw, hmem⟩
              have hsl := mkS_len hpw hmem
              rw [List.length_map] at hsl
              have hrl : refL (mkS ss) = refL (L.D.files.map DF.name) := refL_same (mkS_mem hmem)
              have hseg := seglist_any v2 (mkS ss) w2 (by rw [mkS_V, List.length_map]; exact hrow.reads) (by rw [List.length_map]; omega)
              rw [hrl, HSG0.out, upto_length] at hseg
              exact ⟨v2, ss, rfl, hb2, hseg⟩
            have HK : Hid (∀ w', Hid (Below w5.heap.size w5 w') → w'.cell? ⟨bt, 0, none⟩ = some (.int .i64 rm2) ∧ w'.cell? ⟨bt, 1, none⟩ = some (.slice a2 ln2 c2) ∧ w'.cell? ⟨bt, 2, none⟩ = some (.int .i64 pl2) ∧ w'.cell? ⟨bt, 3, none⟩ = some (.bool dn2)) := fun w' hb => by
              have hx := (hb.out.block _ (lt_of_heap HX5.out)).trans HX5.out
              exact ⟨cellAt hx 0 rfl, cellAt hx 1 rfl, cellAt hx 2 rfl, cellAt hx 3 rfl⟩
            clear hrow5 hx5 he5 hb5 HRE HRR0 HWr HLr
            have HB00 : Hid (Below w5.heap.size w5 w5) := Below.refl _ _
            go_wp2_with fail
            refine (HAL5.out _ HB00).mono ?_
            rintro e wa ⟨rfl, hba⟩
            have HBa := belh_step (w0 := w5) HB00 hba
            clear hba
            go_wp2_with fail
            refine (HS1.out _ HBa).mono ?_
            rintro e wb ⟨rfl, hbb⟩
            have HBb := belh_step (w0 := w5) HBa hbb
            obtain ⟨x0, x1, x2, x3⟩ := HK.out _ HBb
            clear hbb
            go_wp2_with fail
            refine (HRR.out _ HBb).mono ?_
            rintro e wc ⟨vb, Xb, rfl, hrowb, hxb, heb, hlb, hbc⟩
            have HBc := belh_step (w0 := w5) HBb hbc
            have HSB : Hid (Calls Tryz.prog 14 #[v5, vb] wc fun e w'' => e = .returned (.bool true) ∧ Below wc.heap.size wc w'') := rsameL_any _ _ (X.map slOf) Xb wc (HG.out.later HBc.out) ⟨hrowb.reads, fun x hx => (hxb x hx).2.later hbc⟩ (by rw [HGL.out, heb, HRF.out]) HGN.out
            clear hrowb hxb heb hlb hbc x0 x1 x2 x3
            go_wp2_with fail
            refine HSB.out.mono ?_
            rintro e wd ⟨rfl, hbd⟩
            have HBd := belh_step (w0 := w5) HBc hbd
            clear hbd HSB
            go_wp2_with fail
            refine (HLI.out _ HBd).mono ?_
            rintro e we ⟨ve, ss, rfl, hbe, hse⟩
            have HBe := belh_step (w0 := w5) HBd hbe
            have HSE := Lib.hid hse
            clear hbe hse
            go_wp2_with fail
            refine HSE.out.mono ?_
            rintro e wf ⟨vf, rfl, hrf, hbf⟩
            have HBf := belh_step (w0 := w5) HBe hbf
            have HGA := Lib.hid (gap_any 0 np vf wf hrf (by omega) (by omega))
            clear hbf hrf HSE
            go_wp2_with fail
            refine HGA.out.mono ?_
            rintro e wg ⟨rfl, hbg⟩
            have HBg := belh_step (w0 := w5) HBf hbg
            clear hbg HGA
            go_wp2
            go_ret
            exact ⟨rfl, HB5.out.trans (HBg.out.mono HB5.out.size)⟩
end Go.Proofs.YtnmlbjgnemmigaaGreatDoor
