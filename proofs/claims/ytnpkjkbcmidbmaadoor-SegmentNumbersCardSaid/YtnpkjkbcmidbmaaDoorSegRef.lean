/- The reference's Name: for 1 .. 99999999 the prefix and eight digits, else none. -/
import Derived.Test.YtnpkjkbcmidbmaaDoorChecked
import Derived.Test.YtnpkjkbcmidbmaaDoorSegPlain
import Derived.Test.YtnpkjkbcmidbmaaDoorBase
namespace Go.Proofs.YtnpkjkbcmidbmaaDoor
open Go.RowKit Go.Lib

set_option maxRecDepth 100000 in
set_option maxHeartbeats 1000000 in
theorem refName_no (n : Int) (w : World) (h : n < 1 ∨ 99999999 < n) :
    Calls Tryd.prog 9 #[.int .i64 n] w fun e w' => e = .returned (.tuple #[bs [], .bool false]) ∧ w = w' := by
  rcases h with h | h
  · go_enter Tryd.func9, Tryd.ntmps9
    go_wp2
    go_ret2
    exact ⟨rfl, rfl⟩
  · have h' : ¬ n < 1 := by omega
    go_enter Tryd.func9, Tryd.ntmps9
    go_wp2
    go_ret2
    exact ⟨rfl, rfl⟩

theorem piece_fin : ∀ d : Fin 10, (ByteArray.mk #[48, 49, 50, 51, 52, 53, 54, 55, 56, 57]).extract d.val (d.val + 1) = ⟨[UInt8.ofNat (48 + d.val)].toArray⟩ := by decide +kernel

set_option maxRecDepth 100000 in
set_option maxHeartbeats 1000000 in
theorem refName_yes (n : Nat) (w : World) (h1 : 1 ≤ n) (h2 : n ≤ 99999999) :
    Calls Tryd.prog 9 #[.int .i64 n] w fun e w' => e = .returned (.tuple #[bs (nameL n), .bool true]) ∧ w = w' := by
  have a1 : decide ((n : Int) < 1) = false := by simp; omega
  have a2 : decide ((99999999 : Int) < (n : Int)) = false := by simp; omega
  go_enter Tryd.func9, Tryd.ntmps9
  go_wp2
  go_loop [0, 4, 5] (fun m s i => ∃ k q : Nat, k ≤ 8 ∧ i = .int .i64 k ∧ q ≤ 99999999 ∧ Hid (q = n / 10 ^ k) ∧ m = .int .i64 (q : Int) ∧ s = .string ⟨(low n k).toArray⟩) (fun _ _ i => 8 - (intOf i).toNat)
  case atStart => exact ⟨0, n, by omega, rfl, h2, by simp [Hid], rfl, rfl⟩
  case round =>
    obtain ⟨k, q, hk, rfl, hq, Hq, rfl, rfl⟩ := hrel
    have hl : (low n k).length ≤ 8 := by rw [low_length]; exact hk
    obtain ⟨d, hd10, hd⟩ : ∃ d : Nat, d < 10 ∧ (q : Int) % 10 = d := ⟨q % 10, by omega, by omega⟩
    obtain ⟨r, hr10, hr⟩ : ∃ r : Nat, r ≤ 99999999 ∧ (q : Int) / 10 = r := ⟨q / 10, by omega, by omega⟩
    have hp := piece_fin ⟨d, hd10⟩
    simp only at hp
    obtain ⟨c, hc⟩ : ∃ c : UInt8, c = UInt8.ofNat (48 + d) := ⟨_, rfl⟩
    rw [← hc] at hp
    have HC : Hid (c = dg n k) := by
      rw [Hid, hc, dg, ← Hq.out]
      congr 2
      omega
    have HR : Hid (r = n / 10 ^ (k + 1)) := by
      rw [Hid, Nat.pow_succ, ← Nat.div_div_eq_div_mul, ← Hq.out]
      omega
    clear hc
    by_cases hlt : k < 8
    · go_wp2
      go_round
      case rel => exact ⟨k + 1, r, by omega, by go_num, hr10, HR, rfl, by rw [low_succ, ← HC.out, ba_app [c]]; rfl⟩
      case measure => simp [intOf]; omega
    · go_wp2
      go_ret2
      obtain rfl : k = 8 := by omega
      refine ⟨?_, rfl⟩
      simp only [Array.getD_eq_getD_getElem?]
      rw [ba_app [108, 111, 103, 45], low_eight]; rfl
end Go.Proofs.YtnpkjkbcmidbmaaDoor
