/- The reference's Number: as segment.Number. -/
import Derived.Test.YtgdmdbdljmlkkaaGreatDoorChecked
import Derived.Test.YtgdmdbdljmlkkaaGreatDoorSegNumber
namespace Go.Proofs.YtgdmdbdljmlkkaaGreatDoor
set_option linter.unusedVariables false
set_option linter.unusedSimpArgs false
open Go.RowKit Go.Lib

theorem long_bad (l : List UInt8) (h : l.length ≠ 12) : goodB l = false := by
  simp [goodB, h]

theorem digit_bad (l : List UInt8) (k : Nat) (c : UInt8) (h : (l.drop 4).take (k + 1) = (l.drop 4).take k ++ [c]) (hc : isD c = false) : goodB l = false := by
  have := all_false h hc
  simp [goodB, this]

/-- Twelve bytes, the last eight digits: good just if the number's name is the text. -/
theorem good_by_name (l : List UInt8) (_h12 : l.length = 12) (_hd : (l.drop 4).all isD = true) (hne : nameL (val (l.drop 4)) ≠ l) : goodB l = false := by
  cases hg : goodB l with
  | false => rfl
  | true => exact absurd (name_of_good l hg) hne

theorem good_of_name (l : List UInt8) (_h12 : l.length = 12) (_hd : (l.drop 4).all isD = true) (he : nameL (val (l.drop 4)) = l) : goodB l = true := by
  rw [← he]; exact good_name _

theorem out_good (l : List UInt8) (h : goodB l = true) (hp : 0 < val (l.drop 4)) : numOut l = .tuple #[.int .i64 (val (l.drop 4)), .bool true] := by
  unfold numOut numV
  rw [if_pos h]
  simp [hp]

theorem out_zero (l : List UInt8) (h : val (l.drop 4) = 0) : numOut l = .tuple #[.int .i64 0, .bool false] := by
  unfold numOut numV
  split <;> simp_all

set_option maxRecDepth 100000 in
set_option maxHeartbeats 1000000 in
theorem refNumber_any (s : ByteArray) (w : World) :
    Calls Tryz.prog 119 #[.string s] w fun e w' => e = .returned (numOut s.data.toList) ∧ w = w' := by
  by_cases h12 : s.size = 12
  · have HL : Hid (s.data.toList.length = 12) := by rw [Hid, ← Lib.size_eq]; exact h12
    have hle : s.size ≤ 12 := by omega
    have hge : 12 ≤ s.size := by omega
    have h12' : ((s.size : Int) != 12) = false := by rw [bne_eq_false_iff_eq]; omega
    obtain ⟨l, hl⟩ : ∃ l, l = s.data.toList := ⟨_, rfl⟩
    rw [← hl] at HL ⊢
    have HD := Lib.hid (digit_bad l)
    have HB := Lib.hid (bad_out l)
    have HN := Lib.hid (good_by_name l HL.out)
    have HM := Lib.hid (good_of_name l HL.out)
    have HO := Lib.hid (out_good l)
    have HZ := Lib.hid (out_zero l)
    generalize goodB l = good at *
    generalize numOut l = out at *
    obtain ⟨d, hd⟩ : ∃ d, d = l.drop 4 := ⟨_, rfl⟩
    rw [← hd] at HD HN HM HO HZ
    have HDL : Hid (d.length = 8) := by rw [Hid, hd, List.length_drop, HL.out]
    have HE := Lib.hid hd
    have HS := Lib.hid hl
    clear hd hl h12
    go_enter Tryz.func119, Tryz.ntmps119
    go_wp2
    go_loop [4, 5] (fun n i => ∃ k v : Nat, k ≤ 8 ∧ i = .int .i64 ((k + 4 : Nat) : Int) ∧ v < 10 ^ 8 ∧ n = .int .i64 (v : Int) ∧ Hid (v = val (d.take k) ∧ (d.take k).all isD = true)) (fun _ i => 12 - (RowKit.intOf i).toNat)
    case atStart => exact ⟨0, 0, by omega, rfl, by omega, rfl, rfl, rfl⟩
    case round =>
      obtain ⟨k, v, hk, rfl, hv, rfl, Hv⟩ := hrel
      by_cases hlt : k < 8
      · obtain ⟨j, hj⟩ : ∃ j, j = k + 4 := ⟨_, rfl⟩
        have hpos : j < s.size := by omega
        obtain ⟨c, hc⟩ : ∃ c : UInt8, c = s[j] := ⟨_, rfl⟩
        have Hstep : Hid (d.take (k + 1) = d.take k ++ [c]) := by
          rw [Hid, List.take_succ_eq_append_getElem (by rw [HDL.out]; exact hlt), hc]
          simp only [HE.out, HS.out, List.getElem_drop, hj, Nat.add_comm k 4]; rfl
        rw [← hj]
        have Hj := Lib.hid hj
        have hc' := hc.symm
        have hj12 : j < 12 := by omega
        clear hj hc
        by_cases h48 : c.toNat < 48
        · have hcd : isD c = false := by simp [isD]; omega
          have H := Lib.hid (HB.out (HD.out _ _ Hstep.out hcd))
          clear hcd
          go_wp2
          go_ret2
          exact ⟨congrArg Ending.returned H.out.symm, rfl⟩
        · by_cases h57 : 57 < c.toNat
          · have hcd : isD c = false := by simp [isD]; omega
            have H := Lib.hid (HB.out (HD.out _ _ Hstep.out hcd))
            clear hcd
            go_wp2
            go_ret2
            exact ⟨congrArg Ending.returned H.out.symm, rfl⟩
          · have hcd : isD c = true := by simp [isD]; omega
            have hall : (d.take (k + 1)).all isD = true := by rw [Hstep.out, List.all_append, Hv.out.2]; simp [hcd]
            have hval : val (d.take (k + 1)) = 10 * v + (c.toNat - 48) := by rw [Hstep.out, val_snoc, ← Hv.out.1]
            have hbd := val_bound (k + 1) (d.take (k + 1)) (by rw [List.length_take, HDL.out]; omega) hall
            have hpow : 10 ^ (k + 1) ≤ 10 ^ 8 := Nat.pow_le_pow_right (by decide) (by omega)
            have hnew : 10 * v + (c.toNat - 48) < 10 ^ 8 := by rw [← hval]; omega
            have HN' := Lib.hid (And.intro hval.symm hall)
            clear hcd hall hval hbd hpow
            go_wp2
            go_round
            case rel => exact ⟨k + 1, 10 * v + (c.toNat - 48), by omega, by rw [Hj.out]; go_num, hnew, by go_num, HN'.out⟩
            case measure => simp [RowKit.intOf]; omega
      · obtain rfl : k = 8 := by omega
        have ht : d.take 8 = d := List.take_of_length_le (by rw [HDL.out]; omega)
        have hv2 := Hv.out
        rw [ht] at hv2
        obtain ⟨hve, hall⟩ := hv2
        rw [← hve] at HN HM HO HZ
        have HALL := Lib.hid hall
        clear hve hall ht Hv
        by_cases hv0 : v = 0
        · have H := Lib.hid (HZ.out hv0)
          subst hv0
          go_wp2_with fail
          refine (refName_no ((0 : Nat) : Int) w (by left; decide)).mono ?_
          rintro e w1 ⟨rfl, rfl⟩
          go_wp2
          go_ret2
          exact ⟨congrArg Ending.returned H.out.symm, rfl⟩
        · go_wp2_with fail
          refine (refName_yes v w (by omega) (by omega)).mono ?_
          rintro e w1 ⟨rfl, rfl⟩
          by_cases hne : nameL v = l
          · have H := Lib.hid (HO.out (HM.out HALL.out hne) (by omega))
            have hq : (!nameL v == s.toList) = false := by rw [Lib.toList_data, ← HS.out, hne]; simp
            clear hne
            go_wp2
            go_ret2
            exact ⟨congrArg Ending.returned H.out.symm, rfl⟩
          · have H := Lib.hid (HB.out (HN.out HALL.out hne))
            have hq : (!nameL v == s.toList) = true := by rw [Lib.toList_data, ← HS.out]; simp [hne]
            clear hne
            go_wp2
            go_ret2
            exact ⟨congrArg Ending.returned H.out.symm, rfl⟩
  · have H := Lib.hid (bad_out _ (long_bad s.data.toList (by rw [← Lib.size_eq]; exact h12)))
    have h12' : ((s.size : Int) != 12) = true := by rw [bne_iff_ne]; omega
    clear h12
    go_enter Tryz.func119, Tryz.ntmps119
    go_wp2
    go_ret2
    exact ⟨congrArg Ending.returned H.out.symm, rfl⟩
end Go.Proofs.YtgdmdbdljmlkkaaGreatDoor
