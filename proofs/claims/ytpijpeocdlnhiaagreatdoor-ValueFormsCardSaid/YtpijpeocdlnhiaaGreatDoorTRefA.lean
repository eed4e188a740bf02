/- The reference's texts of integers and of bytes. -/
import Derived.Test.YtpijpeocdlnhiaaGreatDoorTTextA
import Derived.Test.YtpijpeocdlnhiaaGreatDoorTNumP
namespace Go.Proofs.YtpijpeocdlnhiaaGreatDoor
set_option linter.unusedVariables false
set_option linter.unusedSimpArgs false
open Go.RowKit

abbrev digD : ByteArray := ⟨#[48, 49, 50, 51, 52, 53, 54, 55, 56, 57]⟩
theorem digD_all : ∀ n : Fin 10, (digD.extract n.val (n.val + 1)) = ⟨#[UInt8.ofNat (48 + n.val)]⟩ := by decide +kernel
theorem digD_at (n : Nat) (h : n < 10) : digD.extract n (n + 1) = ⟨#[UInt8.ofNat (48 + n)]⟩ := digD_all ⟨n, h⟩
theorem dec_len : ∀ (k u : Nat), u < 10 ^ (k + 1) → (Lib.decDigits u).length ≤ k + 1
  | 0, u, h => by rw [Lib.decDigits, dif_pos (by simpa using h)]; simp
  | k + 1, u, h => by
    rw [Lib.decDigits]
    split
    · simp
    · rw [List.length_append]
      have := dec_len k (u / 10) (by rw [Nat.div_lt_iff_lt_mul (by decide)]; exact h)
      simp; omega
/-- The digits of a number without its last one. -/
def decPre (u : Nat) : List UInt8 := if u < 10 then [] else Lib.decDigits (u / 10)
theorem dec_split (u : Nat) : Lib.decDigits u = decPre u ++ [UInt8.ofNat (48 + u % 10)] := by
  rw [Lib.decDigits]
  unfold decPre
  split
  · rename_i h; rw [Nat.mod_eq_of_lt h]; rfl
  · rfl
set_option maxRecDepth 100000 in
set_option maxHeartbeats 1000000 in
theorem rdigits_any (n : Nat) (hn : n < 18446744073709551616) (w : World) :
    Calls Tryz.prog 111 #[.int .u64 n] w fun e w' => e = .returned (.string ⟨(Lib.decDigits n).toArray⟩) ∧ w = w' := by
  have hlen := dec_len 20 n (by omega)
  obtain ⟨D, hD⟩ : ∃ D, D = Lib.decDigits n := ⟨_, rfl⟩
  rw [← hD] at hlen ⊢
  have hm : n % 10 < 10 := Nat.mod_lt _ (by decide)
  have hx := digD_at (n % 10) hm
  have HD : Hid (D = decPre n ++ (digD.extract (n % 10) (n % 10 + 1)).data.toList) := by rw [Hid, hD, dec_split, hx]
  clear hD hx
  go_enter Tryz.func111, Tryz.ntmps111
  go_wp2_with fail
  go_loopw [0, 3] (fun a b w' => ∃ (m : Nat) (sm : ByteArray), a = .int .u64 m ∧ b = .string sm ∧ m < 18446744073709551616 ∧ Hid (D = decPre m ++ sm.data.toList) ∧ w' = w) (fun a _ _ => (RowKit.intOf a).toNat)
  case atStart => exact ⟨n, _, rfl, rfl, hn, HD.out, rfl⟩
  case round =>
    obtain ⟨m, sm, rfl, rfl, hm1, HM, rfl⟩ := hrel
    have hsm : sm.size ≤ 21 := by
      have h := congrArg List.length HM.out
      rw [List.length_append, ← Lib.size_eq] at h
      omega
    by_cases h10 : 10 ≤ m
    · have hm2 : m / 10 % 10 < 10 := Nat.mod_lt _ (by decide)
      have hx := digD_at (m / 10 % 10) hm2
      have HN : Hid (D = decPre (m / 10) ++ (digD.extract (m / 10 % 10) (m / 10 % 10 + 1) ++ sm).data.toList) := by
        rw [Hid, HM.out, hx]
        have h1 : decPre m = Lib.decDigits (m / 10) := by unfold decPre; rw [if_neg (by omega)]
        rw [h1, dec_split, ByteArray.data_append, Array.toList_append, List.append_assoc]
      have hxs : (digD.extract (m / 10 % 10) (m / 10 % 10 + 1)).size = 1 := by rw [hx]; rfl
      clear hx
      go_wp2_with fail
      refine ⟨⟨m / 10, _, by go_num, rfl, by omega, HN.out, trivial⟩, ?_⟩
      simp [RowKit.intOf]
      omega
    · have HF : Hid (D = sm.data.toList) := by
        rw [Hid, HM.out]; unfold decPre; rw [if_pos (by omega)]; rfl
      go_wp2_with fail
      go_ret
      exact ⟨by rw [HF.out, ba_data']; rfl, rfl⟩
set_option maxRecDepth 100000 in
set_option maxHeartbeats 1000000 in
theorem rdecimal_any (n : Int) (h0 : -9223372036854775808 ≤ n) (h1 : n ≤ 9223372036854775807) (w : World) :
    Calls Tryz.prog 78 #[.int .i64 n] w fun e w' => e = .returned (.string ⟨(Lib.itoa n).toArray⟩) ∧ w = w' := by
  by_cases hn : n < 0
  · obtain ⟨m, rfl⟩ : ∃ m : Nat, n = -(m : Int) := ⟨n.natAbs, by omega⟩
    have hi : Lib.itoa (-(m : Int)) = 45 :: Lib.decDigits m := Lib.itoa_neg m (by omega)
    have hlen := dec_len 20 m (by omega)
    have HDG := Lib.hid (rdigits_any m (by omega) w)
    obtain ⟨d, hd⟩ : ∃ d : ByteArray, d = ⟨(Lib.decDigits m).toArray⟩ := ⟨_, rfl⟩
    have hds : d.size ≤ 21 := by rw [hd]; show (Lib.decDigits m).toArray.size ≤ _; rw [List.size_toArray]; exact hlen
    have hcc : (⟨(45 :: Lib.decDigits m).toArray⟩ : ByteArray) = ⟨#[45]⟩ ++ d := by rw [hd]; exact (ba_app [45] _).symm
    rw [hi, hcc]
    rw [← hd] at HDG
    obtain ⟨q, hq⟩ : ∃ q : Int, q = -(m : Int) := ⟨_, rfl⟩
    rw [← hq] at hn ⊢
    have hw1 : IntKind.i64.wrap (q + 1) = q + 1 := by rw [IntKind.wrap_i64]; omega
    have hw2 : IntKind.i64.wrap (-(q + 1)) = -(q + 1) := by rw [IntKind.wrap_i64]; omega
    have hw3 : IntKind.u64.wrap (-(q + 1)) = -(q + 1) := by rw [IntKind.wrap_u64]; omega
    have hw4 : IntKind.u64.wrap (-(q + 1) + 1) = (m : Int) := by rw [IntKind.wrap_u64]; omega
    clear hi hcc hd hlen h0 h1 hq
    go_enter Tryz.func78, Tryz.ntmps78
    go_wp2_with fail
    refine HDG.out.mono ?_
    rintro e w2 ⟨rfl, rfl⟩
    go_wp2_with fail
    go_ret
    exact ⟨rfl, rfl⟩
  · obtain ⟨m, rfl⟩ : ∃ m : Nat, n = (m : Int) := ⟨n.toNat, by omega⟩
    have hi : Lib.itoa (m : Int) = Lib.decDigits m := Lib.itoa_nonneg m
    have HDG := Lib.hid (rdigits_any m (by omega) w)
    rw [hi]
    have hw3 : IntKind.u64.wrap (m : Int) = (m : Int) := by rw [IntKind.wrap_u64]; omega
    clear hi
    go_enter Tryz.func78, Tryz.ntmps78
    go_wp2_with fail
    refine HDG.out.mono ?_
    rintro e w2 ⟨rfl, rfl⟩
    go_wp2_with fail
    go_ret
    exact ⟨rfl, rfl⟩
end Go.Proofs.YtpijpeocdlnhiaaGreatDoor
