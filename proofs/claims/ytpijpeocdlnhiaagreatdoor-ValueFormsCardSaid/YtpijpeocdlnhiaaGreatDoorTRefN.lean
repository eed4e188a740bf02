/- The reference's Number. -/
import Derived.Test.YtpijpeocdlnhiaaGreatDoorTRefB
namespace Go.Proofs.YtpijpeocdlnhiaaGreatDoor
set_option linter.unusedVariables false
set_option linter.unusedSimpArgs false
open Go.RowKit

theorem natR_snoc (l : List UInt8) (x : UInt8) : natR (l ++ [x]) = stepN (natR l) x := by simp [natR]
theorem i64_wrap (n : Int) : IntKind.i64.wrap n = i64 n := by rw [IntKind.wrap_i64]; unfold i64; omega
theorem str_eqL (a s : ByteArray) (l : List UInt8) (ha : a = ⟨l.toArray⟩) : (a.toList == s.toList) = decide (l = s.data.toList) := by
  rw [ByteArray.toList_eq, ByteArray.toList_eq, ha]
  by_cases h : l = s.data.toList
  · simp [h]
  · simp [h]
set_option maxRecDepth 100000 in
set_option maxHeartbeats 4000000 in
theorem rnumber_any (s : ByteArray) (hs : s.size ≤ 1000000) (w : World) :
    Calls Tryz.prog 97 #[.string s] w fun e w' => e = .returned (.tuple #[.int .i64 (numberR s.data.toList).1, .bool (numberR s.data.toList).2]) ∧ w = w' := by
  go_enter Tryz.func97, Tryz.ntmps97
  go_wp2_with fail
  go_loopw [4, 5] (fun a i w' => ∃ (m : Nat) (q : Nat), i = .int .i64 m ∧ a = .int .u64 q ∧ m ≤ s.size ∧ q < 18446744073709551616 ∧ Hid (q = natR (s.data.toList.take m)) ∧ w' = w) (fun _ i _ => s.size - (RowKit.intOf i).toNat)
  case atStart => exact ⟨0, 0, rfl, rfl, Nat.zero_le _, by decide, rfl, rfl⟩
  case round =>
    obtain ⟨m, q, rfl, rfl, hm, hq, HQ, rfl⟩ := hrel
    by_cases hlt : m < s.size
    · have hlt' : m < s.data.toList.length := by rw [bsize]; exact hlt
      obtain ⟨x, hx⟩ : ∃ x, x = s[m]'hlt := ⟨_, rfl⟩
      have hx2 : s.data.toList[m] = x := by rw [hx]; exact Array.getElem_toList _
      have hxe : s[m]'hlt = x := hx.symm
      have hx256 : x.toNat < 256 := x.toNat_lt
      have HN : Hid (natR (s.data.toList.take (m + 1)) = stepN q x) := by
        rw [Hid, List.take_succ_eq_append_getElem hlt', natR_snoc, hx2, ← HQ.out]
      clear hx hx2 hlt'
      by_cases hd : 48 ≤ x.toNat ∧ x.toNat ≤ 57
      · have h1 : (48 : Int) ≤ (x.toNat : Int) := by omega
        have h2 : (x.toNat : Int) ≤ 57 := by omega
        have hst : stepN q x = (q * 10 + (x.toNat - 48)) % 18446744073709551616 := by unfold stepN; rw [if_pos hd]
        have hw1 : IntKind.u64.wrap ((q : Int) * 10) = ((q * 10 % 18446744073709551616 : Nat) : Int) := by rw [IntKind.wrap_u64]; omega
        have hw2 : IntKind.u8.wrap ((x.toNat : Int) - 48) = ((x.toNat - 48 : Nat) : Int) := by rw [IntKind.wrap_u8]; omega
        have hw4 : IntKind.u64.wrap ((x.toNat - 48 : Nat) : Int) = ((x.toNat - 48 : Nat) : Int) := by rw [IntKind.wrap_u64]; omega
        have hw3 : IntKind.u64.wrap (((q * 10 % 18446744073709551616 : Nat) : Int) + ((x.toNat - 48 : Nat) : Int)) = (stepN q x : Int) := by rw [IntKind.wrap_u64, hst]; omega
        have hlt2 : stepN q x < 18446744073709551616 := by rw [hst]; exact Nat.mod_lt _ (by decide)
        generalize stepN q x = q2 at *
        generalize q * 10 % 18446744073709551616 = q10 at *
        generalize x.toNat - 48 = x48 at *
        clear hst hd
        go_wp2_with fail
        refine ⟨⟨m + 1, q2, by go_num, rfl, by omega, hlt2, HN.out.symm, trivial⟩, ?_⟩
        simp [RowKit.intOf]; omega
      · have hst : stepN q x = q := by unfold stepN; rw [if_neg hd]
        rw [hst] at HN
        clear hst
        rcases Nat.lt_or_ge x.toNat 48 with h1 | h1
        · have h2 : ¬ (48 : Int) ≤ (x.toNat : Int) := by omega
          clear hd h1
          go_wp2_with fail
          refine ⟨⟨m + 1, q, by go_num, rfl, by omega, hq, HN.out.symm, trivial⟩, ?_⟩
          simp [RowKit.intOf]; omega
        · have h2 : (48 : Int) ≤ (x.toNat : Int) := by omega
          have h3 : ¬ (x.toNat : Int) ≤ 57 := by omega
          clear hd h1
          go_wp2_with fail
          refine ⟨⟨m + 1, q, by go_num, rfl, by omega, hq, HN.out.symm, trivial⟩, ?_⟩
          simp [RowKit.intOf]; omega
    · obtain rfl : m = s.size := by omega
      have hqn : q = natR s.data.toList := by
        have h := HQ.out
        rwa [← bsize s, List.take_length] at h
      obtain ⟨v, hv⟩ : ∃ v, v = i64 (q : Int) := ⟨_, rfl⟩
      obtain ⟨v2, hv2⟩ : ∃ v2, v2 = i64 (-v) := ⟨_, rfl⟩
      have hnr : numberR s.data.toList = if Lib.itoa v = s.data.toList then (v, true) else (v2, decide (Lib.itoa v2 = s.data.toList)) := by
        unfold numberR; rw [← hqn, ← hv, ← hv2]
      have hvr : -9223372036854775808 ≤ v ∧ v ≤ 9223372036854775807 := by rw [hv]; unfold i64; omega
      have hv2r : -9223372036854775808 ≤ v2 ∧ v2 ≤ 9223372036854775807 := by rw [hv2]; unfold i64; omega
      have hw1 : IntKind.i64.wrap (q : Int) = v := by rw [i64_wrap, hv]
      have hw2 : IntKind.i64.wrap (-v) = v2 := by rw [i64_wrap, hv2]
      have HD1 := Lib.hid (rdecimal_any v hvr.1 hvr.2)
      have HD2 := Lib.hid (rdecimal_any v2 hv2r.1 hv2r.2)
      obtain ⟨d1, hd1⟩ : ∃ d : ByteArray, d = ⟨(Lib.itoa v).toArray⟩ := ⟨_, rfl⟩
      obtain ⟨d2, hd2⟩ : ∃ d : ByteArray, d = ⟨(Lib.itoa v2).toArray⟩ := ⟨_, rfl⟩
      have he1 := str_eqL d1 s _ hd1
      have he2 := str_eqL d2 s _ hd2
      simp only [← hd1] at HD1
      simp only [← hd2] at HD2
      have HNR := Lib.hid hnr
      obtain ⟨c1, hc1⟩ : ∃ c, c = decide (Lib.itoa v = s.data.toList) := ⟨_, rfl⟩
      obtain ⟨c2, hc2⟩ : ∃ c, c = decide (Lib.itoa v2 = s.data.toList) := ⟨_, rfl⟩
      rw [← hc1] at he1
      rw [← hc2] at he2
      have HC1 := Lib.hid hc1
      have HC2 := Lib.hid hc2
      clear hnr hv hv2 hd1 hd2 hqn hc1 hc2 hvr hv2r
      go_wp2_with fail
      refine (HD1.out _).mono ?_
      rintro e w2 ⟨rfl, rfl⟩
      cases c1 with
      | true =>
        have hp : numberR s.data.toList = (v, true) := by rw [HNR.out, if_pos (of_decide_eq_true HC1.out.symm)]
        have HP := Lib.hid hp
        clear hp
        go_wp2_with fail
        go_ret2
        exact ⟨by rw [HP.out]; rfl, rfl⟩
      | false =>
        have hp : numberR s.data.toList = (v2, c2) := by rw [HNR.out, if_neg (of_decide_eq_false HC1.out.symm), ← HC2.out]
        have HP := Lib.hid hp
        clear hp
        go_wp2_with fail
        refine (HD2.out _).mono ?_
        rintro e w3 ⟨rfl, rfl⟩
        go_wp2_with fail
        go_ret2
        exact ⟨by rw [HP.out]; rfl, rfl⟩
end Go.Proofs.YtpijpeocdlnhiaaGreatDoor
