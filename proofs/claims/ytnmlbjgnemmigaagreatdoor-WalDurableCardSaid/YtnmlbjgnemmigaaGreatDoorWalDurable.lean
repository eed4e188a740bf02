/- The law WalDurable returns true. -/
import Derived.Test.YtnmlbjgnemmigaaGreatDoorWalRecords
import Derived.Test.YtnmlbjgnemmigaaGreatDoorRuns
import Derived.Test.YtnmlbjgnemmigaaGreatDoorRefRecs
namespace Go.Proofs.YtnmlbjgnemmigaaGreatDoor
set_option linter.unusedVariables false
set_option linter.unusedSimpArgs false
open Go.RowKit

theorem crash_sumK {D F : DS} (h : Rel D F) {ss : List (List UInt8)} (h1 : ss.Pairwise (· < ·)) (h2 : ∀ x : List UInt8, x ∈ ss ↔ ⟨x.toArray⟩ ∈ D.files.map DF.name) (ks : List Int) : sumD (crashN D ss ks ss.length).files ≤ sumD F.files := by
  rw [(rel_crash h h1 h2 ks).sum]
  exact crashF_sum _ _
theorem RefAt.later {w0 w w' : World} {bt : Nat} {room most : Int} {s : Seg} {n size wt mo rm : Int} {a : Option Addr} {ln c : Nat} {pl : Int} {dn : Bool} (h : RefAt w0 w bt room most s n size wt mo rm a ln c pl dn) (hb : Below w.heap.size w w') : RefAt w0 w' bt room most s n size wt mo rm a ln c pl dn := by
  obtain ⟨R, h1, h2, h3, h4⟩ := h.eq
  exact ⟨(hb.block _ (lt_of_heap h.blk)).trans h.blk, ⟨R, h1, h2, h3.below hb, h4⟩, h.num⟩
theorem sl_one {w : World} {v : Value} {P : List SL} (h : SLs w v P) : ∀ u ∈ P.map SL.v, u.oneCell' = true := fun u hu => by
  obtain ⟨x, hx, rfl⟩ := List.mem_map.1 hu
  obtain ⟨-, a, c, hv, -⟩ := h.each x hx
  rw [hv]; rfl
theorem reads_two (w : World) (x y : Value) (T : TypeId) : Reads (w.alloc (.cells #[x, y] T)) (.slice (some ⟨w.heap.size, 0, none⟩) 2 2) 2 1 [x, y] := by
  refine ⟨rfl, some ⟨w.heap.size, 0, none⟩, 2, rfl, Nat.le_refl _, (fun h => by cases h), fun ad had j u hu => ?_⟩
  cases had
  have hb : (w.alloc (.cells #[x, y] T)).heap[w.heap.size]? = some (.cells #[x, y] T (0, 0)) := heap_alloc_new w _
  match j, hu with
  | 0, hu => cases hu; exact cellAt hb 0 rfl
  | 1, hu => cases hu; exact cellAt hb 1 rfl

set_option maxRecDepth 100000 in
set_option maxHeartbeats 8000000 in
theorem walDurable_any (m : Nat) (hm : m < 65536) (a : Option Addr) (c : Nat) (P : List SL) (a2 : Option Addr) (c2 : Nat) (P2 : List SL) (keep : Int) (w : World) (h : SLs w (.slice a P.length c) P) (hl : P.length ≤ 5864062014805) (he : ∀ x ∈ P, x.l.length ≤ 9223372036854775807)
    (h2 : SLs w (.slice a2 P2.length c2) P2) (hl2 : P2.length ≤ 5864062014805) (he2 : ∀ x ∈ P2, x.l.length ≤ 9223372036854775807) (ht : Tab w) :
    Calls Tryz.prog 5 #[.int .u16 m, .agg #[.slice a P.length c, .slice a2 P2.length c2], .int .i64 keep] w fun e w' => e = .returned (.bool true) ∧ Below w.heap.size w w' := by
  have H := Lib.hid h
  have H2 := Lib.hid h2
  have HT := Lib.hid ht
  have HHE := Lib.hid he
  have HHE2 := Lib.hid he2
  have hbx : Hid ((w.alloc (.cells #[.slice a P.length c, .slice a2 P2.length c2] 57)).heap[w.heap.size]? = some (.cells #[.slice a P.length c, .slice a2 P2.length c2] 57 (0, 0))) := heap_alloc_new w _
  have HB00 : Hid (Below w.heap.size w (w.alloc (.cells #[.slice a P.length c, .slice a2 P2.length c2] 57))) := (Below.refl _ _).alloc (Nat.le_refl _) _
  have x0 := cellAt hbx.out 0 rfl
  have x1 := cellAt hbx.out 1 rfl
  clear h h2 ht he he2
  go_enter Tryz.func5, Tryz.ntmps5
  go_upto_region 1 with fail
  generalize hwx : w.alloc (.cells #[.slice a P.length c, .slice a2 P2.length c2] 57) = wx at *
  go_quiet (fail)
  have HB0 : Hid (Below w.heap.size w (wx.drewN nq)) := ⟨HB00.out.os, HB00.out.tape, HB00.out.output, HB00.out.size, HB00.out.block⟩
  clear hbx x0 x1 hwx HB00
  generalize wx.drewN nq = wq at *
  have HQ := Lib.hid (H.out.later HB0.out)
  have HQ2 := Lib.hid (H2.out.later HB0.out)
  have HTQ := Lib.hid (tab_below HT.out HB0.out)
  have HFE := Lib.hid (rfewL_any _ P wq HQ.out hl HHE.out)
  have HFE2 := Lib.hid (rfewL_any _ P2 wq HQ2.out hl2 HHE2.out)
  have HAL0 := Lib.hid (alive_any wq HTQ.out)
  clear H H2 HHE HHE2
  clear wx
  go_wp2_with fail
  refine HFE.out.mono ?_
  rintro e w1 ⟨⟨b, rfl, hb⟩, hw1⟩
  obtain rfl := hw1.symm
  clear hw1 HFE
  cases b with
  | false =>
    clear hb HFE2
    go_wp2_with fail
    refine HAL0.out.mono ?_
    rintro e w1 ⟨rfl, hb⟩
    have HB := Lib.hid (HB0.out.trans (hb.mono HB0.out.size))
    clear hb
    go_wp2
    go_ret
    exact ⟨rfl, HB.out⟩
  | true =>
    obtain ⟨hP60, hsum⟩ := hb rfl
    clear hb hl
    go_wp2_with fail
    refine HFE2.out.mono ?_
    rintro e w1 ⟨⟨b, rfl, hb⟩, hw1⟩
    obtain rfl := hw1.symm
    clear hw1 HFE2
    cases b with
    | false =>
      clear hb
      go_wp2_with fail
      refine HAL0.out.mono ?_
      rintro e w1 ⟨rfl, hb⟩
      have HB := Lib.hid (HB0.out.trans (hb.mono HB0.out.size))
      clear hb
      go_wp2
      go_ret
      exact ⟨rfl, HB.out⟩
    | true =>
      obtain ⟨hP602, hsum2⟩ := hb rfl
      clear hb hl2 HAL0
      have HE : Hid (∀ x ∈ P, x.l.length ≤ 2000) := fun x hx => by
        obtain ⟨k, hk, rfl⟩ := List.mem_iff_getElem.1 hx
        have := sumL_at hk; omega
      have HE2 : Hid (∀ x ∈ P2, x.l.length ≤ 2000) := fun x hx => by
        obtain ⟨k, hk, rfl⟩ := List.mem_iff_getElem.1 hx
        have := sumL_at hk; omega
      have HRUN := Lib.hid (runI_take (m : Int) P (by omega) (by omega))
      have HRI1 := Lib.hid (HRUN.out P.length (Nat.le_refl _)).synced
      rw [List.take_length] at HRI1
      have HRUN2 := Lib.hid (runI_from HRI1.out P2 (by omega) HE2.out)
      go_wp2_with fail
      refine (live8_start 100000 m wq (by omega)).mono ?_
      rintro e w1 ⟨bx, bl, L0, S0, rfl, hl0⟩
      have HL0 := Lib.hid hl0
      clear hl0
      go_wp2_with fail
      go_loopw [11, 45] (fun want i w' => ∃ (k : Nat) (L : LS) (S : Nat → Prop) (W : List SL), k ≤ P.length ∧ i = .int .i64 k ∧ Hid (Live8 wq w' bl bx L 100000 m (runS m seg0 ((P.take k).map SL.l)) k S) ∧ Hid (Row w' 30 1 want W.length (W.map SL.v) (fun j => wq.heap.size ≤ j ∧ ¬ S j)) ∧ Hid (∀ x ∈ W, Reads wq x.v x.l.length 1 (byts x.l)) ∧ Hid (W.map SL.l = (runS m seg0 ((P.take k).map SL.l)).all) ∧ W.length ≤ k) (fun _ i _ => P.length - (RowKit.intOf i).toNat)
      case atStart => exact ⟨0, L0, S0, [], by omega, rfl, HL0, Row.nil _ _ _ _, by simp [Hid], rfl, by simp⟩
      case round =>
        obtain ⟨k, L, S, W, hk, rfl, HL, HW, HWE, HWL, hwk⟩ := hrel
        by_cases hlt : k < P.length
        · obtain ⟨b, o, ea, ec, rfl, hle, hbl, hev, hc, hr⟩ := (HQ.out.later HL.out.bel).head hlt
          have hxl := sumL_at hlt
          have HI := Lib.hid (HRUN.out k hk)
          have hi0 := HI.out.i0
          have hipre := HI.out.pre
          have hilen := HI.out.len
          have hsk := sumL_le P k
          have HST := Lib.hid (runS_take hlt (m : Int) seg0)
          have HAL := Lib.hid (runS_all hlt (m : Int))
          have HEV : Hid (Reads wq (.slice ea P[k].l.length ec) P[k].l.length 1 (byts P[k].l)) := by
            have := HQ.out.each P[k] (List.getElem_mem hlt)
            rwa [hev] at this
          have hcode := stepS_code (m : Int) (runS m seg0 ((P.take k).map SL.l)) P[k].l
          have HPU := Lib.hid (HL.out.put HTQ.out (by omega) (by omega) ea ec P[k].l hr (by omega) (by omega) (by omega))
          rw [← HST.out] at HPU
          generalize (stepS m (runS m seg0 ((P.take k).map SL.l)) P[k].l).2 = cd at *
          generalize P[k].l = pl at *
          clear hr hi0 hipre hilen hsk hev
          by_cases hcd : cd = 0
          · subst hcd
            rw [if_pos (hcode.1 rfl)] at HAL
            clear hcode
            go_wp2_with fail
            refine HPU.out.mono ?_
            rintro e w2 ⟨L2, S2, rfl, hl2, hch2, hs2⟩
            have HL2 := Lib.hid hl2
            have HW2 := Lib.hid (want_put HW.out hch2 hs2)
            have hz2 := hch2.size
            have hz0 := hl2.bel.size
            clear hl2 HPU HL hch2 hs2 HW
            go_wp2_with (
              refine wpList_row elemRec rfl rfl (S := fun j => (wq.heap.size ≤ j ∧ ¬ S2 j) ∧ j < wr.heap.size) (n := W.length) (xs := W.map SL.v) rfl (HW2.out.frame (fun k _ hk => Below.heap_alloc _ _ _ hk)) (y := .slice (some ⟨w2.heap.size, 0, none⟩) 1 1) (m := 1) (news := [.slice ea pl.length ec]) rfl (reads_one w2 _ _) (one_of rfl) (by unfold maxLen; omega) (by omega) ?_
              intro v5 w5 hr5 hc5)
            have HL5 : Hid (Live8 wq w5 bl bx L2 100000 m (runS m seg0 ((P.take (k + 1)).map SL.l)) (k + 1) S2) := (HL2.out.later ((Below.refl _ _).alloc (Nat.le_refl _) _)).away hc5 (fun j hj e => e.1)
            have HW5 : Hid (Row w5 30 1 v5 (W ++ [(⟨.slice ea pl.length ec, pl⟩ : SL)]).length ((W ++ [(⟨.slice ea pl.length ec, pl⟩ : SL)]).map SL.v) (fun j => wq.heap.size ≤ j ∧ ¬ S2 j)) := by
              rw [Hid, List.length_append, List.map_append]
              refine hr5.mono (fun j hj => ?_)
              rcases hj with hj | hj
              · exact hj.1
              · simp only [World.size_alloc] at hj
                exact ⟨by omega, fun e => by have := (HL2.out.sub j e).2; omega⟩
            have HWE5 : Hid (∀ x ∈ W ++ [(⟨.slice ea pl.length ec, pl⟩ : SL)], Reads wq x.v x.l.length 1 (byts x.l)) := by
              intro x hx
              rcases List.mem_append.1 hx with hx | hx
              · exact HWE.out x hx
              · rw [List.mem_singleton.1 hx]; exact HEV.out
            have HWL5 : Hid ((W ++ [(⟨.slice ea pl.length ec, pl⟩ : SL)]).map SL.l = (runS m seg0 ((P.take (k + 1)).map SL.l)).all) := by
              rw [Hid, HAL.out, List.map_append, HWL.out]; rfl
            clear hr5 hc5 HW2 HL2 HWE HWL
            go_wp2
            go_roundw
            case rel => exact ⟨k + 1, L2, S2, W ++ [(⟨.slice ea pl.length ec, pl⟩ : SL)], by omega, by go_num, HL5, HW5, HWE5, HWL5, by simp; omega⟩
            case measure => simp [RowKit.intOf]; omega
          · have hcb : (cd == 0) = false := by simpa using hcd
            have hcb2 : decide (cd = 0) = false := decide_eq_false hcd
            rw [if_neg (fun e => hcd (hcode.2 e)), List.append_nil] at HAL
            clear hcode
            go_wp2_with fail
            refine HPU.out.mono ?_
            rintro e w2 ⟨L2, S2, rfl, hl2, hch2, hs2⟩
            have HL2 := Lib.hid hl2
            have HW2 := Lib.hid ((want_put HW.out hch2 hs2).mono (fun j hj => hj.1))
            rw [← HAL.out] at HWL
            clear hl2 HPU HL hch2 hs2 HW
            go_wp2
            go_roundw
            case rel => exact ⟨k + 1, L2, S2, W, by omega, by go_num, HL2, HW2, HWE, HWL, by omega⟩
            case measure => simp [RowKit.intOf]; omega
        · obtain rfl : k = P.length := by omega
          rw [List.take_length] at HL HWL
          obtain ⟨W1, hW1⟩ : ∃ W1, W1 = W := ⟨_, rfl⟩
          subst hW1
          have HI := Lib.hid (HRUN.out P.length (Nat.le_refl _))
          rw [List.take_length] at HI
          have HSY := Lib.hid (HL.out.sync HTQ.out)
          have HF1 := Lib.hid (runS_filter (m : Int) (P.map SL.l) seg0)
          have HN1 : Hid (W1.length = (runS m seg0 (P.map SL.l)).all.length) := by have := congrArg List.length HWL.out; rwa [List.length_map] at this
          clear hlt hk HL0
          generalize runS m seg0 (P.map SL.l) = s1 at *
          go_wp2_with fail
          refine HSY.out.mono ?_
          rintro e w2 ⟨L2, S2, rfl, hl2, hch2, hs2⟩
          have HL2 := Lib.hid hl2
          have HW2 := Lib.hid ((want_put HW.out hch2 hs2).mono (fun j hj => hj.1))
          have HWT := Lib.hid (lwaiting_any L2 bl _ S2 w2 hl2.log)
          have HLW : Hid (L2.waiting = 0) := by
            have := hl2.rel.waiting
            exact this
          rw [HLW.out] at HWT
          clear hl2 HSY HL hch2 hs2 HW
          go_wp2_with fail
          refine HWT.out.mono ?_
          rintro e w3 ⟨rfl, hw3⟩
          obtain rfl := hw3
          clear HWT
          obtain ⟨s2, hs2⟩ : ∃ s2 : Seg, s2 = { s1 with wt := 0 } := ⟨_, rfl⟩
          have HA2 : Hid (s2.all = s1.all) := by rw [hs2]; rfl
          have HW0 : Hid (s2.wt = 0) := by rw [hs2]; rfl
          change Hid (Live8 wq w3 bl bx L2 100000 m { s1 with wt := 0 } P.length S2) at HL2
          rw [← hs2] at HL2 HRI1 HRUN2
          rw [← HA2.out] at HWL HN1 HF1
          clear hs2 HA2 HRUN HI HLW
          obtain ⟨wa1, wc1, hv1⟩ : ∃ a c, u11 = .slice a W1.length c := by
            obtain ⟨-, a, c, hv, -⟩ := HW2.out.reads
            exact ⟨a, c, hv⟩
          subst hv1
          go_wp2_with fail
          go_loopw [11, 70] (fun want i w' => ∃ (k : Nat) (L : LS) (S : Nat → Prop) (W : List SL), k ≤ P2.length ∧ i = .int .i64 k ∧ Hid (Live8 wq w' bl bx L 100000 m (runS m s2 ((P2.take k).map SL.l)) (P.length + k) S) ∧ Hid (Row w' 30 1 want W.length (W.map SL.v) (fun j => wq.heap.size ≤ j ∧ ¬ S j)) ∧ Hid (∀ x ∈ W, Reads wq x.v x.l.length 1 (byts x.l)) ∧ Hid (W.map SL.l = (runS m s2 ((P2.take k).map SL.l)).all) ∧ W.length ≤ P.length + k) (fun _ i _ => P2.length - (RowKit.intOf i).toNat)
          case atStart => exact ⟨0, L2, S2, W1, by omega, rfl, HL2, HW2, HWE, HWL, by omega⟩
          case round =>
            obtain ⟨k, L, S, W, hk, rfl, HL, HW, HWE, HWL, hwk⟩ := hrel
            by_cases hlt : k < P2.length
            · obtain ⟨b, o, ea, ec, rfl, hle, hbl, hev, hc, hr⟩ := (HQ2.out.later HL.out.bel).head hlt
              have hxl := sumL_at hlt
              have HI := Lib.hid (HRUN2.out k hk)
              have hi0 := HI.out.i0
              have hipre := HI.out.pre
              have hilen := HI.out.len
              have hsk := sumL_le P2 k
              have HST := Lib.hid (runS_take hlt (m : Int) s2)
              have HAL := Lib.hid (runS_len hlt (m : Int) s2)
              have HEV : Hid (Reads wq (.slice ea P2[k].l.length ec) P2[k].l.length 1 (byts P2[k].l)) := by
                have := HQ2.out.each P2[k] (List.getElem_mem hlt)
                rwa [hev] at this
              have hcode := stepS_code (m : Int) (runS m s2 ((P2.take k).map SL.l)) P2[k].l
              have HPU := Lib.hid (HL.out.put HTQ.out (by omega) (by omega) ea ec P2[k].l hr (by omega) (by omega) (by omega))
              rw [← HST.out] at HPU
              generalize (stepS m (runS m s2 ((P2.take k).map SL.l)) P2[k].l).2 = cd at *
              generalize P2[k].l = pl at *
              clear hr hi0 hipre hilen hsk hev
              by_cases hcd : cd = 0
              · subst hcd
                rw [if_pos (hcode.1 rfl)] at HAL
                clear hcode
                go_wp2_with fail
                refine HPU.out.mono ?_
                rintro e w2 ⟨L2, S2, rfl, hl2, hch2, hs2⟩
                have HL2 := Lib.hid hl2
                have HW2 := Lib.hid (want_put HW.out hch2 hs2)
                have hz2 := hch2.size
                have hz0 := hl2.bel.size
                clear hl2 HPU HL hch2 hs2 HW
                go_wp2_with (
                  refine wpList_row elemRec rfl rfl (S := fun j => (wq.heap.size ≤ j ∧ ¬ S2 j) ∧ j < wr.heap.size) (n := W.length) (xs := W.map SL.v) rfl (HW2.out.frame (fun k _ hk => Below.heap_alloc _ _ _ hk)) (y := .slice (some ⟨w2.heap.size, 0, none⟩) 1 1) (m := 1) (news := [.slice ea pl.length ec]) rfl (reads_one w2 _ _) (one_of rfl) (by unfold maxLen; omega) (by omega) ?_
                  intro v5 w5 hr5 hc5)
                have HL5 : Hid (Live8 wq w5 bl bx L2 100000 m (runS m s2 ((P2.take (k + 1)).map SL.l)) (P.length + (k + 1)) S2) := (HL2.out.later ((Below.refl _ _).alloc (Nat.le_refl _) _)).away hc5 (fun j hj e => e.1)
                have HW5 : Hid (Row w5 30 1 v5 (W ++ [(⟨.slice ea pl.length ec, pl⟩ : SL)]).length ((W ++ [(⟨.slice ea pl.length ec, pl⟩ : SL)]).map SL.v) (fun j => wq.heap.size ≤ j ∧ ¬ S2 j)) := by
                  rw [Hid, List.length_append, List.map_append]
                  refine hr5.mono (fun j hj => ?_)
                  rcases hj with hj | hj
                  · exact hj.1
                  · simp only [World.size_alloc] at hj
                    exact ⟨by omega, fun e => by have := (HL2.out.sub j e).2; omega⟩
                have HWE5 : Hid (∀ x ∈ W ++ [(⟨.slice ea pl.length ec, pl⟩ : SL)], Reads wq x.v x.l.length 1 (byts x.l)) := by
                  intro x hx
                  rcases List.mem_append.1 hx with hx | hx
                  · exact HWE.out x hx
                  · rw [List.mem_singleton.1 hx]; exact HEV.out
                have HWL5 : Hid ((W ++ [(⟨.slice ea pl.length ec, pl⟩ : SL)]).map SL.l = (runS m s2 ((P2.take (k + 1)).map SL.l)).all) := by
                  rw [Hid, HAL.out, List.map_append, HWL.out]; rfl
                clear hr5 hc5 HW2 HL2 HWE HWL
                go_wp2
                go_roundw
                case rel => exact ⟨k + 1, L2, S2, W ++ [(⟨.slice ea pl.length ec, pl⟩ : SL)], by omega, by go_num, HL5, HW5, HWE5, HWL5, by simp; omega⟩
                case measure => simp [RowKit.intOf]; omega
              · have hcb : (cd == 0) = false := by simpa using hcd
                have hcb2 : decide (cd = 0) = false := decide_eq_false hcd
                rw [if_neg (fun e => hcd (hcode.2 e)), List.append_nil] at HAL
                clear hcode
                go_wp2_with fail
                refine HPU.out.mono ?_
                rintro e w2 ⟨L2, S2, rfl, hl2, hch2, hs2⟩
                have HL2 := Lib.hid hl2
                have HW2 := Lib.hid ((want_put HW.out hch2 hs2).mono (fun j hj => hj.1))
                rw [← HAL.out] at HWL
                clear hl2 HPU HL hch2 hs2 HW
                go_wp2
                go_roundw
                case rel => exact ⟨k + 1, L2, S2, W, by omega, by go_num, HL2, HW2, HWE, HWL, by omega⟩
                case measure => simp [RowKit.intOf]; omega
            · obtain rfl : k = P2.length := by omega
              rw [List.take_length] at HL HWL
              have HI := Lib.hid (HRUN2.out P2.length (Nat.le_refl _))
              rw [List.take_length] at HI
              have HFI := Lib.hid (runS_filter (m : Int) (P2.map SL.l) s2)
              have HWTI := Lib.hid (runS_wt (most := (m : Int)) (n := W1.length) (P2.map SL.l) (s := s2) (by rw [HW0.out, HN1.out]; omega))
              clear hlt hk HL2 HW2
              generalize runS m s2 (P2.map SL.l) = s at *
              obtain ⟨hg, hi0, hpr, hgl⟩ := HI.out
              have hrel := HL.out.rel.rel
              have hfl := HL.out.bnd.d.len
              have hnm : ∀ f ∈ L.D.files, f.name.size ≤ maxLen := fun f hf => by have := HL.out.bnd.d.nm f hf; unfold maxLen; omega
              have hsk1 : sumL P2 ≤ 1500 := hsum2
              have HNM := Lib.hid hnm
              have hcut := fun (ss : List (List UInt8)) (h1 : ss.Pairwise (· < ·)) (h2 : ∀ x : List UInt8, x ∈ ss ↔ ⟨x.toArray⟩ ∈ L.D.files.map DF.name) (ks : List Int) => rel_cut hrel hg h1 h2 ks
              have hcsum := fun (ss : List (List UInt8)) (h1 : ss.Pairwise (· < ·)) (h2 : ∀ x : List UInt8, x ∈ ss ↔ ⟨x.toArray⟩ ∈ L.D.files.map DF.name) (ks : List Int) => crash_sumK hrel h1 h2 ks
              have hcb := fun (ss : List (List UInt8)) (ks : List Int) => bnd_crash HL.out.bnd.d ss ks ss.length
              have HCUT := Lib.hid hcut
              have HCS := Lib.hid hcsum
              have HCB := Lib.hid hcb
              have HLI := Lib.hid (list_any _ L.D _ wr HL.out.log.dsk (by omega) hnm)
              have hal : s.all.length ≤ 1000000 := by have := framesB_len8 s.all; omega
              obtain ⟨wa, wc, hv1⟩ : ∃ a c, u11 = .slice a W.length c := by
                obtain ⟨-, a, c, hv, -⟩ := HW.out.reads
                exact ⟨a, c, hv⟩
              subst hv1
              have HBQ := Lib.hid HL.out.bel
              obtain ⟨wl2, hwl2⟩ : ∃ wl2 : World, wl2 = wr := ⟨_, rfl⟩
              subst hwl2
              clear hrel hnm hcut hcsum hcb hg HRUN2
              go_wp2_with fail
              refine HLI.out.mono ?_
              rintro e w2 ⟨v2, ss, rfl, hrow, hb2, hpw, hmem⟩
              have hsl := mkS_len hpw hmem
              rw [List.length_map] at hsl
              obtain ⟨va2, vc2, hv2⟩ : ∃ a c, v2 = .slice a ss.length c := by
                obtain ⟨-, a, c, hv, -⟩ := hrow.reads
                exact ⟨a, c, hv⟩
              subst hv2
              have HB2 := Lib.hid hb2
              generalize ss.length = ns at *
              clear hrow hb2 hpw hmem HLI
              go_wp2_with fail
              go_loopw [17, 86] (fun out i w' => ∃ k : Nat, k ≤ ns ∧ i = .int .i64 k ∧ Hid (w'.ownsRow w2.heap.size 3 1 out (List.replicate k keep).length (ints (List.replicate k keep))) ∧ Hid (Below w2.heap.size w2 w')) (fun _ i _ => ns - (RowKit.intOf i).toNat)
              case atStart => exact ⟨0, by omega, rfl, World.ownsRow_nil _ _ _ _, Below.refl _ _⟩
              case round =>
                obtain ⟨k, hk, rfl, HO, HB⟩ := hrel
                by_cases hlt : k < ns
                · have hsz := HB.out.size
                  have hrl : (List.replicate k keep).length = k := List.length_replicate
                  go_wp2_with (at_builtin; refine wpList_app elemInt rfl rfl (n := (List.replicate k keep).length) (xs := ints (List.replicate k keep)) rfl (base := w2.heap.size) (HO.out.alloc _) (y := .slice (some ⟨_, 0, none⟩) 1 1) (m := 1) (news := [.int .i64 keep]) rfl (reads_cell (by simp)) (one_of rfl) (by rw [hrl]; unfold maxLen; omega) (by rw [hrl]; omega) (by simp; omega) ?_; intro v3 w3 hown3 hgr3 _)
                  have HO3 : Hid (w3.ownsRow w2.heap.size 3 1 v3 (List.replicate (k + 1) keep).length (ints (List.replicate (k + 1) keep))) := by
                    rw [Hid, List.replicate_succ', List.length_append]
                    unfold ints at hown3 ⊢
                    rw [List.map_append]
                    exact hown3
                  have HB3 := Lib.hid ((HB.out.alloc hsz _).grown hgr3 (by simp; omega) (fun k hk => (HO.out.lt k hk).1))
                  clear hown3 hgr3
                  go_wp2
                  go_roundw
                  case rel => exact ⟨k + 1, by omega, by go_num, HO3, HB3⟩
                  case measure => simp [RowKit.intOf]; omega
                · obtain rfl : k = ns := by omega
                  have hrd := reads_of_owns HO.out
                  obtain ⟨-, ka, kc, hv3, -⟩ := id hrd
                  subst hv3
                  have hrl : (List.replicate k keep).length = k := List.length_replicate
                  have hkg : ∀ ad, ka = some ad → 0 < (List.replicate k keep).length → w2.heap.size ≤ ad.block := fun ad had h0 => by
                    rcases HO.out.2 with ⟨h, -⟩ | ⟨g, cap, cur, hv, hbg, -⟩
                    · simp only [Value.slice.injEq] at h; rw [h.1] at had; cases had
                    · simp only [Value.slice.injEq] at hv; rw [hv.1] at had; cases had; exact hbg
                  have HB4 := Lib.hid (HB2.out.trans (HB.out.mono HB2.out.size))
                  have hL4 := HL.out.later HB4.out
                  have hs2 := HB2.out.size
                  have hsub := HL.out.sub
                  have hcr := crash_any (.pointer (some ⟨bx, 0, none⟩)) ka kc (List.replicate k keep) L.D _ wr hL4.log.dsk (by omega) HNM.out hrd (by omega) (by
                    intro ad had h0 hS
                    have h1 := hkg ad had h0
                    have h2 := (hsub _ hS.1).2
                    omega)
                  rw [hrl] at hcr
                  have HCR := Lib.hid hcr
                  have HWA := Lib.hid ((HW.out.tight.frame (fun k _ hk => HB4.out.block k hk)))
                  have HBQ4 := Lib.hid hL4.bel
                  have hs4 := HB4.out.size
                  have HSUB := Lib.hid hsub
                  clear hrd hrl hkg hL4 hsub hcr HO HB HB2 HW
                  go_wp2_with fail
                  refine HCR.out.mono ?_
                  rintro e w9 ⟨ss9, ⟨hp1, hp2⟩, rfl, hd9, hc9⟩
                  have HW9 := Lib.hid (HWA.out.frame (fun j hj hj2 => hc9.block j hj2 (fun e => hj.1.2 e.1))).reads
                  have HBQ9 := Lib.hid (HBQ4.out.trans (hc9.toBelow HBQ4.out.size (fun j hj h => by have := (HSUB.out j h.1).1; omega)))
                  obtain ⟨jj, hj1, hj2, hj3, -⟩ := HCUT.out ss9 hp1 hp2 (List.replicate k keep)
                  have hcs := HCS.out ss9 hp1 hp2 (List.replicate k keep)
                  rw [show (segL 100000 (m : Int) s).D.files = s.files from rfl, seg_sum] at hcs
                  have hcb := HCB.out ss9 (List.replicate k keep)
                  have hwti := HWTI.out
                  obtain ⟨D9, hD9⟩ : ∃ D9, D9 = crashN L.D ss9 (List.replicate k keep) ss9.length := ⟨_, rfl⟩
                  rw [← hD9] at hd9 hj1 hcs hcb
                  have hnm9 : ∀ f ∈ D9.files, f.name.size ≤ maxLen := fun f hf => by have := hcb.nm f hf; unfold maxLen; omega
                  have hln9 := hcb.len
                  have HRE := Lib.hid (records_any _ D9 _ w9 hd9 (tab_below HTQ.out HBQ9.out) (by omega) (by omega) hnm9)
                  clear hp1 hp2 hd9 hc9 hcs hcb hD9 hnm9 hln9 HCR HWA HBQ4 HSUB HCUT HCS HCB HL HB4 HBQ HNM
                  go_wp2_with fail
                  refine HRE.out.mono ?_
                  rintro e w10 ⟨v5, X, rfl, hrow5, hx5, he5, hxl5, hb5⟩
                  rw [hj1] at he5
                  have HB10 := Lib.hid (HBQ9.out.trans (hb5.mono HBQ9.out.size))
                  have hxj : X.length = jj := by have := congrArg List.length he5; rw [List.length_map, List.length_take] at this; omega
                  have hwl : W.length = s.all.length := by have := congrArg List.length HWL.out; rwa [List.length_map] at this
                  have HXW : Hid (W1.length ≤ X.length ∧ X.length ≤ W.length) := ⟨by omega, by omega⟩
                  have HG : Hid (SLs w10 v5 (X.map slOf)) := sls_rx hrow5 hx5
                  have HGL : Hid ((X.map slOf).map SL.l = s.all.take X.length) := by rw [Hid, List.map_map, hxj, ← he5]; rfl
                  have HGN : Hid ((X.map slOf).length ≤ 1000000000) := by rw [Hid, List.length_map]; omega
                  have HWS : Hid (SLs w10 (.slice wa W.length wc) W) := ⟨HW9.out.later hb5, fun x hx => (HWE.out x hx).later HB10.out⟩
                  obtain ⟨xa, xc, hv5⟩ : ∃ a c, v5 = .slice a X.length c := by
                    obtain ⟨-, a, c, hv, -⟩ := hrow5.reads
                    exact ⟨a, c, hv⟩
                  subst hv5
                  clear hrow5 hx5 he5 hb5 hj1 hj2 hj3 hxj hwl hwti HRE HW9 HBQ9
                  go_wp2_with fail
                  have HN := Lib.hid (rnewL_any 100000 m w10)
                  rw [show max (100000 : Int) 0 = 100000 from rfl] at HN
                  refine HN.out.mono ?_
                  rintro e w2 ⟨v, R, rfl, hf, hr2, hb2⟩
                  obtain ⟨n1, z1, t1, o1, rm1, a1, c1, pl1, dn1, hag, rfl, hn1⟩ := refAt_of (w0 := w10) (room := 100000) (most := m) hf hr2
                  rw [hag]
                  have HF2 := Lib.hid hf
                  have HR2 := Lib.hid hr2
                  have HAG := Lib.hid hag
                  have HNN1 := Lib.hid hn1
                  have HBW := Lib.hid hb2
                  have hsb := hb2.size
                  clear hf hr2 hag hn1 hb2 HN
                  go_upto_region 31 with fail
                  have HX3 : Hid ((w2.alloc (.cells #[.int .i64 rm1, .slice a1 R.length c1, .int .i64 pl1, .bool dn1, .int .i64 o1, .int .i64 n1, .int .i64 z1, .int .i64 t1] 37)).heap[w2.heap.size]? = some (.cells #[.int .i64 rm1, .slice a1 R.length c1, .int .i64 pl1, .bool dn1, .int .i64 o1, .int .i64 n1, .int .i64 z1, .int .i64 t1] 37 (0, 0))) := heap_alloc_new _ _
                  have HRA3 : Hid (RefAt w10 (w2.alloc (.cells #[.int .i64 rm1, .slice a1 R.length c1, .int .i64 pl1, .bool dn1, .int .i64 o1, .int .i64 n1, .int .i64 z1, .int .i64 t1] 37)) w2.heap.size 100000 m seg0 n1 z1 t1 o1 rm1 a1 R.length c1 pl1 dn1) := ⟨HX3.out, ⟨R, rfl, HF2.out, (HR2.out.tight.below ((Below.refl _ _).alloc (Nat.le_refl _) _)).mono (fun k hk => ⟨hk.1, by have := hk.2; omega⟩), HAG.out⟩, HNN1.out⟩
                  have HB3 : Hid (Below w10.heap.size w10 (w2.alloc (.cells #[.int .i64 rm1, .slice a1 R.length c1, .int .i64 pl1, .bool dn1, .int .i64 o1, .int .i64 n1, .int .i64 z1, .int .i64 t1] 37))) := HBW.out.alloc hsb _
                  generalize w2.alloc (.cells #[.int .i64 rm1, .slice a1 R.length c1, .int .i64 pl1, .bool dn1, .int .i64 o1, .int .i64 n1, .int .i64 z1, .int .i64 t1] 37) = w3 at *
                  have HBT : Hid (w10.heap.size ≤ w2.heap.size) := hsb
                  generalize w2.heap.size = bt at *
                  clear HX3 HF2 HR2 HAG HNN1 HBW
                  obtain ⟨wl, hwl⟩ : ∃ wl : World, wl = w10 := ⟨_, rfl⟩
                  subst hwl
                  have hbt3 := lt_of_heap HRA3.out.blk
                  have hrt := reads_two w3 (.slice a P.length c) (.slice a2 P2.length c2) 23
                  have HB3a : Hid (Below wl.heap.size wl (w3.alloc (.cells #[.slice a P.length c, .slice a2 P2.length c2] 23))) := HB3.out.alloc HB3.out.size _
                  have HRA3a : Hid (RefAt wl (w3.alloc (.cells #[.slice a P.length c, .slice a2 P2.length c2] 23)) bt 100000 m seg0 n1 z1 t1 o1 rm1 a1 R.length c1 pl1 dn1) := HRA3.out.later ((Below.refl _ _).alloc (Nat.le_refl _) _)
                  have HBQ3 := Lib.hid (HB10.out.trans (HB3a.out.mono HB10.out.size))
                  have hco := concatL_any (some ⟨w3.heap.size, 0, none⟩) 2 [(a, P.map SL.v, c), (a2, P2.map SL.v, c2)] (w3.alloc (.cells #[.slice a P.length c, .slice a2 P2.length c2] 23)) (by
                      have : [(a, P.map SL.v, c), (a2, P2.map SL.v, c2)].map LpartV = [.slice a P.length c, .slice a2 P2.length c2] := by simp [LpartV]
                      rw [this]; exact hrt) (by simp) (by
                      intro p hp
                      simp only [List.mem_cons, List.not_mem_nil, or_false] at hp
                      rcases hp with rfl | rfl
                      · unfold LpartV; rw [List.length_map]; exact (HQ.out.later HBQ3.out).rd
                      · unfold LpartV; rw [List.length_map]; exact (HQ2.out.later HBQ3.out).rd) (by simp [Llens]; omega) (by
                      intro p hp
                      simp only [List.mem_cons, List.not_mem_nil, or_false] at hp
                      rcases hp with rfl | rfl
                      · exact sl_one HQ.out
                      · exact sl_one HQ2.out)
                  obtain ⟨P3, hP3⟩ : ∃ P3, P3 = P ++ P2 := ⟨_, rfl⟩
                  have hj3 : Ljoined [(a, P.map SL.v, c), (a2, P2.map SL.v, c2)] = P3.map SL.v := by rw [hP3]; simp [Ljoined]
                  rw [hj3, List.length_map] at hco
                  have HCO := Lib.hid hco
                  have hp3 : P3.length ≤ 120 := by rw [hP3, List.length_append]; omega
                  have HE3 : Hid (∀ x ∈ P3, x.l.length ≤ 2000) := fun x hx => by
                    rw [hP3] at hx
                    rcases List.mem_append.1 hx with hx | hx
                    · exact HE.out x hx
                    · exact HE2.out x hx
                  have hsum3 : sumL P3 ≤ 3000 := by
                    have : sumL P3 = sumL P + sumL P2 := by rw [hP3]; unfold sumL; rw [List.map_append, List.sum_append]
                    omega
                  have HRUN3 := Lib.hid (runI_from (runI_0 (m : Int)) P3 (by omega) HE3.out)
                  have HP3E : Hid (∀ x ∈ P3, Reads wq x.v x.l.length 1 (byts x.l)) := fun x hx => by
                    rw [hP3] at hx
                    rcases List.mem_append.1 hx with hx | hx
                    · exact HQ.out.each x hx
                    · exact HQ2.out.each x hx
                  have HF3 : Hid ((runS (m : Int) seg0 (P3.map SL.l)).all = s.all) := by
                    rw [Hid, runS_filter, HFI.out, HF1.out, hP3, List.map_append, List.filter_append, List.append_assoc]
                  clear hrt hco hj3 hP3 HRA3 HB3 HQ HQ2 HE HE2 HFI HF1
                  go_wp2_with fail
                  refine HCO.out.mono ?_
                  rintro e w4 ⟨ca, cc, rfl, hrow4, hb4⟩
                  have HB4 := Lib.hid (HB3a.out.trans (hb4.mono HB3a.out.size))
                  have HRA4 := Lib.hid (HRA3a.out.later hb4)
                  have HRO4 : Hid (Row w4 30 1 (.slice ca P3.length cc) P3.length (P3.map SL.v) (fun j => bt + 1 ≤ j)) := hrow4.mono (fun j hj => by simp only [World.size_alloc] at hj; omega)
                  clear hrow4 hb4 HCO HRA3a HB3a HBQ3 hbt3
                  go_wp2_with fail
                  go_loopw [106] (fun i w' => ∃ (k : Nat) (n size wt mo rm : Int) (a : Option Addr) (ln c : Nat) (pl : Int) (dn : Bool), k ≤ P3.length ∧ i = .int .i64 k ∧ Hid (RefAt wl w' bt 100000 m (runS m seg0 ((P3.take k).map SL.l)) n size wt mo rm a ln c pl dn) ∧ Hid (Below wl.heap.size wl w') ∧ Hid (Row w' 30 1 (.slice ca P3.length cc) P3.length (P3.map SL.v) (fun j => bt + 1 ≤ j))) (fun i _ => P3.length - (RowKit.intOf i).toNat)
                  case atStart => exact ⟨0, _, _, _, _, _, _, _, _, _, _, by omega, rfl, HRA4, HB4, HRO4⟩
                  case round =>
                    obtain ⟨k, n2, z2, t2, o2, rm2, a3, ln2, c3, pl2, dn2, hk, rfl, HRA, HBA, HRO⟩ := hrel
                    have HC : Hid (SLs wr (.slice ca P3.length cc) P3) := ⟨HRO.out.reads, fun x hx => (HP3E.out x hx).later (HB10.out.trans (HBA.out.mono HB10.out.size))⟩
                    by_cases hlt : k < P3.length
                    · obtain ⟨b, o, ea, ec, rfl, hle, hbl, -, hc, hr⟩ := HC.out.head hlt
                      have hx2 := HE3.out P3[k] (List.getElem_mem hlt)
                      have hxl := sumL_at hlt
                      have HIK := Lib.hid (HRUN3.out k hk)
                      have hilen := HIK.out.len
                      have hsk := sumL_le P3 k
                      have HST := Lib.hid (runS_take hlt (m : Int) seg0)
                      obtain ⟨R3, hRl, hRf, hRr, heq⟩ := HRA.out.eq
                      have hpu := rput_seg (room := 100000) HIK.out (by omega) (by omega) (.slice a3 ln2 c3) R3 _ ea ec P3[k].l wr hRr hRf hr (by omega) (by omega)
                      rw [heq] at hpu
                      have HPU := Lib.hid hpu
                      obtain ⟨x0, x1, x2, x3, x4, x5, x6, x7⟩ := cells8w HRA.out.blk
                      generalize P3[k].l = pl at *
                      clear hr hilen hsk hpu hRl hRf hRr heq
                      go_wp2_with fail
                      refine HPU.out.mono ?_
                      rintro e w4 ⟨v', R4, rfl, hf4, hr4, hb4⟩
                      obtain ⟨n4, z4, t4, o4, rm4, a4, c4, pl4, dn4, hag4, rfl, hn4⟩ := refAt_of (w0 := wl) (room := 100000) (most := m) (s := (stepS m (runS m seg0 ((P3.take k).map SL.l)) pl).1) hf4 (hr4.mono (fun x hx => by have := HBA.out.size; rcases hx with h | h; exact h.1; omega))
                      rw [hag4]
                      have HX4 := Lib.hid ((hb4.block _ (lt_of_heap HRA.out.blk)).trans HRA.out.blk)
                      have hbtl := lt_of_heap HRA.out.blk
                      have hws := HBA.out.size
                      have HRS := Lib.hid (ref_store HX4.out rfl hf4 hr4 (fun x hx => by rcases hx with h | h; exact h; exact ⟨by omega, by omega⟩) hag4 hn4 (HBA.out.trans (hb4.mono HBA.out.size)) HBT.out)
                      rw [← HST.out] at HRS
                      have HRO5 := Lib.hid (((((((((((((((((HRO.out.frame (fun k _ hk => hb4.block k hk))).store (p := ⟨bt, 0, none⟩) (Nat.lt_succ_self bt) (.int .i64 rm4))).store (p := ⟨bt, 1, none⟩) (Nat.lt_succ_self bt) (.slice a4 R4.length c4))).store (p := ⟨bt, 2, none⟩) (Nat.lt_succ_self bt) (.int .i64 pl4))).store (p := ⟨bt, 3, none⟩) (Nat.lt_succ_self bt) (.bool dn4))).store (p := ⟨bt, 4, none⟩) (Nat.lt_succ_self bt) (.int .i64 o4))).store (p := ⟨bt, 5, none⟩) (Nat.lt_succ_self bt) (.int .i64 n4))).store (p := ⟨bt, 6, none⟩) (Nat.lt_succ_self bt) (.int .i64 z4))).store (p := ⟨bt, 7, none⟩) (Nat.lt_succ_self bt) (.int .i64 t4))
                      clear hf4 hr4 hb4 hag4 hn4 HPU HBA hbtl hws HRA HRO HC x0 x1 x2 x3 x4 x5 x6 x7
                      generalize (stepS m (runS m seg0 ((P3.take k).map SL.l)) pl).2 = code at *
                      obtain ⟨x0, x1, x2, x3, x4, x5, x6, x7⟩ := cells8w HX4.out
                      have q0 := freeAt HX4.out 0
                      have q1 := freeAt HX4.out 1
                      have q2 := freeAt HX4.out 2
                      have q3 := freeAt HX4.out 3
                      have q4 := freeAt HX4.out 4
                      have q5 := freeAt HX4.out 5
                      have q6 := freeAt HX4.out 6
                      have q7 := freeAt HX4.out 7
                      go_upto_region 18 with fail
                      generalize ((((((((w4.setCell ⟨bt, 0, none⟩ (.int .i64 rm4)).setCell ⟨bt, 1, none⟩ (.slice a4 R4.length c4)).setCell ⟨bt, 2, none⟩ (.int .i64 pl4)).setCell ⟨bt, 3, none⟩ (.bool dn4)).setCell ⟨bt, 4, none⟩ (.int .i64 o4)).setCell ⟨bt, 5, none⟩ (.int .i64 n4)).setCell ⟨bt, 6, none⟩ (.int .i64 z4)).setCell ⟨bt, 7, none⟩ (.int .i64 t4)) = w5 at *
                      have HRA5 := Lib.hid HRS.out.1
                      have HB5 := Lib.hid HRS.out.2
                      clear HRS HX4 x0 x1 x2 x3 x4 x5 x6 x7 q0 q1 q2 q3 q4 q5 q6 q7
                      go_wp2
                      go_roundw
                      case rel => exact ⟨k + 1, _, _, _, _, _, _, _, _, _, _, by omega, by go_num, HRA5, HB5, HRO5⟩
                      case measure => simp [RowKit.intOf]; omega
                    · obtain rfl : k = P3.length := by omega
                      rw [List.take_length] at HRA
                      have HI3 := Lib.hid (HRUN3.out P3.length (Nat.le_refl _))
                      rw [List.take_length] at HI3
                      have HBR := Lib.hid (HB10.out.trans (HBA.out.mono HB10.out.size))
                      generalize runS m seg0 (P3.map SL.l) = s3 at *
                      obtain ⟨hg3, hi3, hpr3, hgl3⟩ := HI3.out
                      obtain ⟨R3, hRl, hRf, hRr, -⟩ := HRA.out.eq
                      have hRn : R3.length = s3.pre.length + 1 := by have := congrArg List.length hRf; rw [List.length_map, files_len] at this; exact this
                      have hRnm : R3.map (fun r => r.f.name) = namesN 0 R3.length := by
                        rw [hRn, ← hi3, ← seg_names s3, ← hRf, List.map_map]; rfl
                      have hRb : ∀ r ∈ R3, r.f.b.length ≤ 100000 := fun r hr => by
                        have h1 : r.f ∈ s3.files := by rw [← hRf]; exact List.mem_map_of_mem hr
                        have h2 := len_le_sum h1
                        rw [seg_sum] at h2
                        omega
                      have hRflat : R3.flatMap (fun r => (splitB r.f.b).1) = s.all := by
                        rw [← HF3.out, ← seg_flat hg3, ← hRf, List.flatMap_map]
                      have HRR : Hid (∀ w', Hid (Below wr.heap.size wr w') → Calls Tryz.prog 15 #[rdisk rm2 (.slice a3 ln2 c3) pl2 dn2] w' (RRecP w' R3)) := fun w' hb => rrecords_any rm2 pl2 dn2 _ R3 _ w' (hRr.below hb.out) 0 (by omega) (by omega) hRnm hRb
                      unfold rdisk at HRR
                      have HRF := Lib.hid hRflat
                      have HBLK := Lib.hid HRA.out.blk
                      have HGr := Lib.hid (HG.out.later HBA.out)
                      have HWSr := Lib.hid (HWS.out.later HBA.out)
                      have HAL5 := Lib.hid (alive_any wr (tab_below HTQ.out HBR.out))
                      obtain ⟨hxw1, hxw2⟩ := HXW.out
                      have hwcap : W.length ≤ wc := by obtain ⟨_, ao, c', hv, hle, _⟩ := HWS.out.rd; cases hv; exact hle
                      have hd1 : decide ((W1.length : Int) ≤ (X.length : Int)) = true := decide_eq_true (by omega)
                      have hd2 : decide ((X.length : Int) ≤ (W.length : Int)) = true := decide_eq_true (by omega)
                      have hd3 : decide (W1.length ≤ X.length) = true := decide_eq_true hxw1
                      have hd4 : decide (X.length ≤ W.length) = true := decide_eq_true hxw2
                      have hi0 : (0 : Int) ≤ (X.length : Int) := by omega
                      have hi1 : (X.length : Int) ≤ (W.length : Int) := by omega
                      have hi2 : (X.length : Int) ≤ (wc : Int) := by omega
                      have hi3' : X.length ≤ wc := by omega
                      clear hg3 hRl hRf hRr hRnm hRb hRflat HRA HRO HC HG HWS HRUN3 HBA
                      go_wp2_with fail
                      refine HAL5.out.mono ?_
                      rintro e wa1 ⟨rfl, hba⟩
                      have HBa := Lib.hid hba
                      clear hba HAL5
                      go_wp2_with fail
                      have hpre : SLs wa1 (.slice wa (W.take X.length).length wc) (W.take X.length) := by
                        have hlk : (W.take X.length).length = X.length := by rw [List.length_take]; omega
                        refine ⟨?_, fun x hx => ((HWSr.out.later HBa.out).each x (List.mem_of_mem_take hx))⟩
                        have := (HWSr.out.later HBa.out).rd.takeN X.length hxw2
                        rw [Nat.mul_one] at this
                        rw [hlk, List.map_take]
                        exact this
                      rw [show (W.take X.length).length = X.length by rw [List.length_take]; omega] at hpre
                      have HS1 := Lib.hid (rsameL_any _ _ (X.map slOf) (W.take X.length) wa1 (HGr.out.later HBa.out) hpre (by rw [HGL.out, List.map_take, HWL.out]) HGN.out)
                      clear hpre
                      refine HS1.out.mono ?_
                      rintro e wb ⟨rfl, hbb⟩
                      have HBb := Lib.hid (HBa.out.trans (hbb.mono HBa.out.size))
                      have hx := (HBb.out.block _ (lt_of_heap HBLK.out)).trans HBLK.out
                      have y0 := cellAt hx 0 rfl
                      have y1 := cellAt hx 1 rfl
                      have y2 := cellAt hx 2 rfl
                      have y3 := cellAt hx 3 rfl
                      clear hbb HS1 hx
                      go_wp2_with fail
                      refine (HRR.out _ HBb).mono ?_
                      rintro e wc1 ⟨vb, Xb, rfl, hrowb, hxb, heb, hlb, hbc⟩
                      have HBc := Lib.hid (HBb.out.trans (hbc.mono HBb.out.size))
                      have HSB := Lib.hid (rsameL_any (.slice wa W.length wc) vb W Xb wc1 (HWSr.out.later HBc.out) ⟨hrowb.reads, fun x hx => (hxb x hx).2.later hbc⟩ (by rw [HWL.out, heb, HRF.out]) (by omega))
                      clear hrowb hxb heb hlb hbc y0 y1 y2 y3
                      go_wp2_with fail
                      refine HSB.out.mono ?_
                      rintro e wd ⟨rfl, hbd⟩
                      have HBd := Lib.hid (HBc.out.trans (hbd.mono HBc.out.size))
                      clear hbd HSB
                      go_wp2
                      go_ret
                      exact ⟨rfl, HB0.out.trans ((HBR.out.trans (HBd.out.mono HBR.out.size)).mono HB0.out.size)⟩
end Go.Proofs.YtnmlbjgnemmigaaGreatDoor
