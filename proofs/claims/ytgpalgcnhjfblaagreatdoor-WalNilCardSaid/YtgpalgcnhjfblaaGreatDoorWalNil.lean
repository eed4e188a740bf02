/- The law WalNil returns true. -/
import Derived.Test.YtgpalgcnhjfblaaGreatDoorLive8
import Derived.Test.YtgpalgcnhjfblaaGreatDoorRefPut
namespace Go.Proofs.YtgpalgcnhjfblaaGreatDoor
set_option linter.unusedVariables false
set_option linter.unusedSimpArgs false
open Go.RowKit

theorem step0 (most : Int) (r : List UInt8) : stepS most seg0 r = if r = [] then (seg0, 2) else if most < (r.length : Int) + 8 then (seg0, 4) else (⟨0, [], [r], 1⟩, 0) := by
  unfold stepS
  rw [if_neg (show ¬ (seg0.cur ≠ [] ∧ _) from fun e => e.1 rfl)]
  rfl
theorem step0_room (most : Int) (r : List UInt8) (hl : r.length ≤ 1000) : (stepS most seg0 r).1.i0 + (stepS most seg0 r).1.pre.length + 2 ≤ 1000 ∧ (framesB (stepS most seg0 r).1.all).length ≤ 1008 ∧ ((stepS most seg0 r).2 ≠ 0 → (stepS most seg0 r).1 = seg0) := by
  rw [step0]
  split
  · exact ⟨by decide, by decide, fun _ => rfl⟩
  · split
    · exact ⟨by decide, by decide, fun _ => rfl⟩
    · refine ⟨by show 0 + 0 + 2 ≤ 1000; decide, ?_, fun e => absurd rfl e⟩
      show (framesB ([].flatten ++ [r])).length ≤ 1008
      rw [List.flatten_nil, List.nil_append, framesB_one, frameB_length]; omega

set_option maxRecDepth 100000 in
set_option maxHeartbeats 4000000 in
theorem walNil_any (m : Nat) (hm : m < 256) (ra : Option Addr) (rc : Nat) (r : List UInt8) (w : World) (hr : Reads w (.slice ra r.length rc) r.length 1 (byts r)) (hl : r.length ≤ maxLen) (ht : Tab w) :
    Calls Tryz.prog 3 #[.int .u8 m, .slice ra r.length rc] w fun e w' => e = .returned (.bool true) ∧ Below w.heap.size w w' := by
  have HR := Lib.hid hr
  have HT := Lib.hid ht
  unfold maxLen at hl
  clear hr ht
  by_cases hbig : 1000 < r.length
  · go_enter Tryz.func3, Tryz.ntmps3
    go_wp2_with fail
    refine (alive_any w HT.out).mono ?_
    rintro e w1 ⟨rfl, hb⟩
    have HB := Lib.hid hb
    clear hb
    go_wp2
    go_ret
    exact ⟨rfl, HB.out⟩
  obtain ⟨hs1, hs2, hs3⟩ := step0_room m r (by omega)
  have HS2 := Lib.hid hs2
  have HS3 := Lib.hid hs3
  have HS1 := Lib.hid hs1
  have HFP : Hid (putG opsF (segL 10000 m seg0) r = (segL 10000 m (stepS m seg0 r).1, (stepS m seg0 r).2)) := put_seg (seg0_good m) (by decide) r (by omega) (by show ((0 : Nat) : Int) + _ ≤ _; omega)
  clear hs1 hs2 hs3
  go_enter Tryz.func3, Tryz.ntmps3
  go_wp2_with fail
  refine (live8_start 10000 m w (by omega)).mono ?_
  rintro e w1 ⟨bx, bl, L0, S0, rfl, hl0⟩
  have HL0 := Lib.hid hl0
  clear hl0
  have HP1 := Lib.hid (HL0.out.put HT.out (by omega) (by omega) ra rc r (HR.out.later HL0.out.bel) (by omega) (by decide) (by show ((0 : Nat) : Int) + _ ≤ _; omega))
  obtain ⟨⟨s1, C⟩, hC⟩ : ∃ p, p = stepS m seg0 r := ⟨_, rfl⟩
  rw [← hC] at HP1 HFP HS1 HS2 HS3
  clear hC
  simp only at HP1 HFP HS1 HS2 HS3
  go_upto_region 7 with (first
    | (go_at_call 20; refine (put_nil _ _ _ _).mono ?_; rintro e w2 ⟨rfl, rfl⟩)
    | (go_at_call 21; refine (lsync_nil _).mono ?_; rintro e w2 ⟨rfl, rfl⟩)
    | (go_at_call 22; refine (lsegment_nil _).mono ?_; rintro e w2 ⟨rfl, rfl⟩)
    | (go_at_call 23; refine (lsize_nil _).mono ?_; rintro e w2 ⟨rfl, rfl⟩)
    | (go_at_call 24; refine (lwaiting_nil _).mono ?_; rintro e w2 ⟨rfl, rfl⟩))
  go_wp2_with fail
  refine HP1.out.mono ?_
  rintro e w3 ⟨L1, S1, rfl, hl1, hc1, hs1⟩
  have HL1 := Lib.hid hl1
  clear hl1 hc1 hs1 HP1 HL0
  have HN := Lib.hid (rnewL_any 10000 m w3)
  rw [show max (10000 : Int) 0 = 10000 from rfl] at HN
  go_wp2_with fail
  refine HN.out.mono ?_
  rintro e w4 ⟨v, R, rfl, hf, hr4, hb4⟩
  have HB4 := Lib.hid hb4
  have HRF := Lib.hid ((HR.out.later HL1.out.bel).later hb4)
  have HD0 : Hid ((segL 10000 m seg0).D.files = [⟨nameI 1, [], 0⟩]) := by rw [Hid, segL0]
  have hRL : R.length = 1 := by
    have h1 := congrArg List.length hf
    rw [List.length_map, HD0.out] at h1
    exact h1
  have hRS : sumR R = 0 := by rw [sumR_f, hf, HD0.out]; rfl
  have hPU := rput_stay (segL 10000 m seg0) v R _ ra rc r w4 hr4 hf (by omega) (by show (0 : Int) ≤ 0 ∧ (0 : Int) ≤ 9223372036854775807; omega) (by omega) HRF.out (by omega) (by rw [segL0]; show (0 : Int) ≤ 0 ∧ (0 : Int) ≤ 1000000000; omega) (by rw [segL0]; show (0 : Int) ≤ 0 ∧ (0 : Int) ≤ 1000000000; omega) (by rw [segL0]; intro e; exact absurd (show (0 : Int) < 0 from e.1) (by decide))
  rw [HFP.out] at hPU
  have HPU := Lib.hid hPU
  clear hPU hRL hRS hf hr4 hb4 HN HD0 HRF
  go_wp2_with fail
  refine HPU.out.mono ?_
  rintro e w5 ⟨v', R', rfl, hf5, hr5, hb5⟩
  obtain ⟨a5, c5, rfl⟩ := slice_form hr5.row
  have HL5 := Lib.hid ((HL1.out.later HB4.out).later hb5)
  clear hf5 hr5 hb5 HPU HB4 HL1
  generalize hM : segL 10000 m s1 = M5 at *
  generalize R'.length = l5 at *
  clear hM
  obtain ⟨n5, z5, t5, o5, ⟨rm5, fs5, pl5, dn5⟩⟩ := M5
  simp only [rlog]
  go_upto_region 9 with fail
  have HL6 : Hid (Live8 w (w5.alloc (.cells #[.int .i64 rm5, .slice a5 l5 c5, .int .i64 pl5, .bool dn5, .int .i64 o5, .int .i64 n5, .int .i64 z5, .int .i64 t5] 36)) bl bx L1 10000 m s1 1 S1) := HL5.out.later ((Below.refl _ _).alloc (Nat.le_refl _) _)
  generalize w5.alloc (.cells #[.int .i64 rm5, .slice a5 l5 c5, .int .i64 pl5, .bool dn5, .int .i64 o5, .int .i64 n5, .int .i64 z5, .int .i64 t5] 36) = w6 at *
  have HA := Lib.hid (alive_any w6 (tab_below HT.out HL6.out.bel))
  clear HL5
  by_cases hc : C = 0
  · subst hc
    go_wp2_with fail
    refine HA.out.mono ?_
    rintro e w7 ⟨rfl, hb7⟩
    have HL7 := Lib.hid (HL6.out.later hb7)
    have hpn := HL7.out.put HT.out (by omega) (by omega) none 0 [] (Reads.nil _ _) (by decide) HS1.out (by have := HS2.out; show _ + (((0 : Nat) : Int) + 8) ≤ _; omega)
    rw [show stepS m s1 [] = (s1, 2) from if_pos rfl] at hpn
    have HPN := Lib.hid hpn
    clear hpn hb7 HA HL6
    go_wp2_with fail
    refine HPN.out.mono ?_
    rintro e w8 ⟨L8, S8, rfl, hl8, hc8, hs8⟩
    have HB8 := Lib.hid hl8.bel
    clear hl8 hc8 hs8 HPN HL7
    go_wp2
    go_ret
    exact ⟨rfl, HB8.out⟩
  · have hs0 : s1 = seg0 := HS3.out hc
    subst hs0
    have hcb : (C == 0) = false := by simpa using hc
    go_wp2_with fail
    refine HA.out.mono ?_
    rintro e w7 ⟨rfl, hb7⟩
    have HL7 := Lib.hid (HL6.out.later hb7)
    have hsum : sumD L1.D.files = 0 := by
      have := HL7.out.rel.rel.sum
      rw [this, segL0]
      rfl
    have HSU := Lib.hid hsum
    have hus := used_any (.pointer (some ⟨bx, 0, none⟩)) L1.D _ w7 HL7.out.log.dsk (by rw [hsum]; omega)
    rw [hsum] at hus
    have HUS := Lib.hid hus
    have hwt : L1.waiting = 0 := by rw [HL7.out.rel.waiting, segL0]
    have HWT0 := Lib.hid hwt
    clear hus hsum hb7 HA HL6 hwt
    go_wp2_with fail
    refine HUS.out.mono ?_
    rintro e w8 ⟨rfl, hb8⟩
    have HL8 := Lib.hid (HL7.out.later hb8)
    have hwa := lwaiting_any L1 bl _ S1 w8 HL8.out.log
    rw [HWT0.out] at hwa
    have HWA := Lib.hid hwa
    have hpn := HL8.out.put HT.out (by omega) (by omega) none 0 [] (Reads.nil _ _) (by decide) HS1.out (by have := HS2.out; show _ + (((0 : Nat) : Int) + 8) ≤ _; omega)
    rw [show stepS m seg0 [] = (seg0, 2) from if_pos rfl] at hpn
    have HPN := Lib.hid hpn
    clear hpn hwa hb8 HUS HL7
    go_wp2_with fail
    refine HWA.out.mono ?_
    rintro e w9 ⟨rfl, rfl⟩
    go_wp2_with fail
    refine HPN.out.mono ?_
    rintro e w10 ⟨L8, S8, rfl, hl8, hc8, hs8⟩
    have HB8 := Lib.hid hl8.bel
    clear hl8 hc8 hs8 HPN HL8
    go_wp2
    go_ret
    exact ⟨rfl, HB8.out⟩
end Go.Proofs.YtgpalgcnhjfblaaGreatDoor
