/- How numbers stand to nought and to the infinities, by their bits. -/
import Derived.Test.YtpijpeocdlnhiaaGreatDoorBase
namespace Go.Proofs.YtpijpeocdlnhiaaGreatDoor
set_option linter.unusedVariables false
set_option linter.unusedSimpArgs false
open Go.RowKit

theorem dbl_sign : Ieee.double.signWeight = 9223372036854775808 := by decide
theorem dbl_bin : Ieee.double.binade = 4503599627370496 := by decide
theorem dbl_inf : Ieee.double.infRung = 9218868437227405312 := by decide
/-- What bits of a finite number read as. -/
theorem read_fin (f : Nat) (h : f % 9223372036854775808 < 9218868437227405312) :
    ∃ m p, Ieee.double.read f = .number (f / 9223372036854775808 % 2 == 1) m (Ieee.double.leastPlace + ((p : Nat) : Int)) ∧ m < 9007199254740992 ∧ p ≤ 2045 ∧ (m = 0 ↔ f % 9223372036854775808 = 0) := by
  unfold Ieee.Format.read
  rw [dbl_sign, dbl_bin, dbl_inf]
  generalize f % 9223372036854775808 = r at *
  simp only
  split
  · exact ⟨r, 0, by simp, by omega, by omega, Iff.rfl⟩
  · rename_i h1
    exact ⟨_, _, rfl, by omega, by omega, by omega⟩
theorem read_inf (f : Nat) (h : f % 9223372036854775808 = 9218868437227405312) : Ieee.double.read f = .infinity (f / 9223372036854775808 % 2 == 1) := by
  unfold Ieee.Format.read
  rw [dbl_sign, dbl_bin, dbl_inf, h]
  rfl
theorem read_nan (f : Nat) (h : 9218868437227405312 < f % 9223372036854775808) : ∃ s t, Ieee.double.read f = .nan s t := by
  unfold Ieee.Format.read
  rw [dbl_sign, dbl_bin, dbl_inf]
  simp only
  rw [if_neg (by omega), if_neg (by omega), if_neg (by omega)]
  exact ⟨_, _, rfl⟩
theorem read_zero : Ieee.double.read 0 = .number false 0 Ieee.double.leastPlace := by decide
theorem signed_val (s : Bool) (m k : Nat) : Ieee.signed s m k = if s then -((m * 2 ^ k : Nat) : Int) else ((m * 2 ^ k : Nat) : Int) := by
  unfold Ieee.signed
  rw [Nat.shiftLeft_eq]
theorem cmp_val (a b : Int) : compare a b = if a < b then Ordering.lt else if a = b then Ordering.eq else Ordering.gt := rfl
theorem cmp_eq (a b : Int) : (some (compare a b) == some Ordering.eq) = decide (a = b) := by
  rw [cmp_val]
  by_cases h : a < b
  · rw [if_pos h, decide_eq_false (by omega)]; rfl
  · rw [if_neg h]
    by_cases h2 : a = b
    · rw [if_pos h2, decide_eq_true h2]; rfl
    · rw [if_neg h2, decide_eq_false h2]; rfl
theorem cmp_gt (a b : Int) : (some (compare a b) == some Ordering.gt) = decide (b < a) := by
  rw [cmp_val]
  by_cases h : a < b
  · rw [if_pos h, decide_eq_false (by omega)]; rfl
  · rw [if_neg h]
    by_cases h2 : a = b
    · rw [if_pos h2, decide_eq_false (by omega)]; rfl
    · rw [if_neg h2, decide_eq_true (by omega)]; rfl
theorem cmp_lt (a b : Int) : (some (compare a b) == some Ordering.lt) = decide (a < b) := by
  rw [cmp_val]
  by_cases h : a < b
  · rw [if_pos h, decide_eq_true h]; rfl
  · rw [if_neg h, decide_eq_false h]
    by_cases h2 : a = b
    · rw [if_pos h2]; rfl
    · rw [if_neg h2]; rfl
theorem order_zero (f : Nat) : (FloatKind.f64.format.order f 0 == some .eq) = decide (f % 9223372036854775808 = 0) := by
  show (Ieee.double.order f 0 == some .eq) = _
  unfold Ieee.Format.order
  rw [read_zero]
  rcases Nat.lt_trichotomy (f % 9223372036854775808) 9218868437227405312 with h | h | h
  · obtain ⟨m, p, e, hm, hp, h0⟩ := read_fin f h
    rw [e]
    simp only [Ieee.Datum.order]
    rw [cmp_eq, decide_eq_decide, ← h0, signed_val, signed_val]
    have hpos : ∀ k : Nat, 0 < 2 ^ k := fun k => Nat.two_pow_pos k
    generalize (Ieee.double.leastPlace + ↑p - min (Ieee.double.leastPlace + ↑p) Ieee.double.leastPlace).toNat = k
    have hk := hpos k
    have hmul : m * 2 ^ k = 0 ↔ m = 0 := by rw [Nat.mul_eq_zero]; omega
    generalize m * 2 ^ k = x at *
    cases (f / 9223372036854775808 % 2 == 1) <;> simp <;> omega
  · rw [read_inf f h]
    simp only [Ieee.Datum.order]
    rw [decide_eq_false (by omega)]
    cases (f / 9223372036854775808 % 2 == 1) <;> rfl
  · obtain ⟨s, t, e⟩ := read_nan f h
    rw [e]
    simp only [Ieee.Datum.order]
    rw [decide_eq_false (by omega)]
    rfl
theorem read_max : Ieee.double.read 9218868437227405311 = .number false 9007199254740991 (Ieee.double.leastPlace + ((2045 : Nat) : Int)) := by decide
theorem read_min : Ieee.double.read 18442240474082181119 = .number true 9007199254740991 (Ieee.double.leastPlace + ((2045 : Nat) : Int)) := by decide
theorem mag_le {m p : Nat} (hm : m < 9007199254740992) (hp : p ≤ 2045) (L : Int) :
    m * 2 ^ (L + (p : Int) - min (L + (p : Int)) (L + ((2045 : Nat) : Int))).toNat ≤ 9007199254740991 * 2 ^ (L + ((2045 : Nat) : Int) - min (L + (p : Int)) (L + ((2045 : Nat) : Int))).toNat := by
  have e : min (L + (p : Int)) (L + ((2045 : Nat) : Int)) = L + (p : Int) := by omega
  rw [e, show (L + (p : Int) - (L + (p : Int))).toNat = 0 by omega]
  have := Nat.two_pow_pos (L + ((2045 : Nat) : Int) - (L + (p : Int))).toNat
  generalize 2 ^ (L + ((2045 : Nat) : Int) - (L + (p : Int))).toNat = y at *
  have h1 : 9007199254740991 * 1 ≤ 9007199254740991 * y := Nat.mul_le_mul_left _ this
  simp only [Nat.pow_zero, Nat.mul_one]
  omega
theorem order_max (f : Nat) (hf : f < 18446744073709551616) : (FloatKind.f64.format.order f 9218868437227405311 == some .gt) = decide (f = 9218868437227405312) := by
  show (Ieee.double.order f 9218868437227405311 == some .gt) = _
  unfold Ieee.Format.order
  rw [read_max]
  rcases Nat.lt_trichotomy (f % 9223372036854775808) 9218868437227405312 with h | h | h
  · obtain ⟨m, p, e, hm, hp, h0⟩ := read_fin f h
    rw [e]
    simp only [Ieee.Datum.order]
    rw [cmp_gt, decide_eq_decide, signed_val, signed_val]
    have hle := mag_le hm hp Ieee.double.leastPlace
    generalize m * 2 ^ _ = x at *
    generalize 9007199254740991 * 2 ^ _ = y at *
    cases (f / 9223372036854775808 % 2 == 1) <;> simp <;> omega
  · rw [read_inf f h]
    simp only [Ieee.Datum.order]
    have hs : f / 9223372036854775808 = 0 ∨ f / 9223372036854775808 = 1 := by omega
    rcases hs with hs | hs
    · rw [hs, decide_eq_true (by omega)]; rfl
    · rw [hs, decide_eq_false (by omega)]; rfl
  · obtain ⟨s, t, e⟩ := read_nan f h
    rw [e]
    simp only [Ieee.Datum.order]
    rw [decide_eq_false (by omega)]
    rfl
theorem order_min (f : Nat) (hf : f < 18446744073709551616) : (FloatKind.f64.format.order f 18442240474082181119 == some .lt) = decide (f = 18442240474082181120) := by
  show (Ieee.double.order f 18442240474082181119 == some .lt) = _
  unfold Ieee.Format.order
  rw [read_min]
  rcases Nat.lt_trichotomy (f % 9223372036854775808) 9218868437227405312 with h | h | h
  · obtain ⟨m, p, e, hm, hp, h0⟩ := read_fin f h
    rw [e]
    simp only [Ieee.Datum.order]
    rw [cmp_lt, decide_eq_decide, signed_val, signed_val]
    have hle := mag_le hm hp Ieee.double.leastPlace
    generalize m * 2 ^ _ = x at *
    generalize 9007199254740991 * 2 ^ _ = y at *
    cases (f / 9223372036854775808 % 2 == 1) <;> simp <;> omega
  · rw [read_inf f h]
    simp only [Ieee.Datum.order]
    have hs : f / 9223372036854775808 = 0 ∨ f / 9223372036854775808 = 1 := by omega
    rcases hs with hs | hs
    · rw [hs, decide_eq_false (by omega)]; rfl
    · rw [hs, decide_eq_true (by omega)]; rfl
  · obtain ⟨s, t, e⟩ := read_nan f h
    rw [e]
    simp only [Ieee.Datum.order]
    rw [decide_eq_false (by omega)]
    rfl
end Go.Proofs.YtpijpeocdlnhiaaGreatDoor
