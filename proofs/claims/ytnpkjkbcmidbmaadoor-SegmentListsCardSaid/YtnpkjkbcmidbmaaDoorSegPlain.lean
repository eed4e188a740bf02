/- The plain law of the segments' names: the eight digits of a number, and the number of eight digits, undo one another; no program in sight. -/
import Derived.Lib.ItoaNum
import Derived.Lib.Repeat
import GoSem.Op.String
namespace Go.Proofs.YtnpkjkbcmidbmaaDoor
open Go.Lib

def pre4 : List UInt8 := [108, 111, 103, 45]
def dg8 (n : Nat) : List UInt8 := (List.range 8).map fun t => dg n (7 - t)
def low (n i : Nat) : List UInt8 := (List.range i).map fun t => dg n (i - 1 - t)
def nameL (n : Nat) : List UInt8 := pre4 ++ dg8 n

def isD (c : UInt8) : Bool := 48 ≤ c.toNat && c.toNat ≤ 57
def val (l : List UInt8) : Nat := l.foldl (fun n c => 10 * n + (c.toNat - 48)) 0

def goodB (l : List UInt8) : Bool := l.length == 12 && l.take 4 == pre4 && (l.drop 4).all isD
def numV (l : List UInt8) : Nat := if goodB l then val (l.drop 4) else 0

theorem low_succ (n i : Nat) : low n (i + 1) = dg n i :: low n i := by
  unfold low
  rw [List.range_succ_eq_map]
  simp only [List.map_cons, List.map_map, Nat.add_sub_cancel, Nat.sub_zero, List.cons.injEq, true_and]
  apply List.map_congr_left
  intro t ht
  have : t < i := List.mem_range.1 ht
  simp only [Function.comp]
  congr 1
  omega

theorem low_eight (n : Nat) : low n 8 = dg8 n := rfl
theorem low_length (n i : Nat) : (low n i).length = i := by simp [low]
theorem dg8_length (n : Nat) : (dg8 n).length = 8 := by simp [dg8]
theorem nameL_length (n : Nat) : (nameL n).length = 12 := by simp [nameL, pre4, dg8_length]

theorem nDigits_le8 (n : Nat) (h : n ≤ 99999999) : nDigits n ≤ 8 := by
  by_cases h0 : n < 10
  · rw [nDigits_small h0]; omega
  · have hp := nDigits_pos n
    by_cases h8 : nDigits n ≤ 8
    · exact h8
    · exfalso
      have key : ∀ k u, u < 10 ^ (k + 1) → nDigits u ≤ k + 1 := by
        intro k
        induction k with
        | zero => intro u hu; rw [nDigits_small (by simpa using hu)]; omega
        | succ k ih =>
          intro u hu
          by_cases hu0 : u < 10
          · rw [nDigits_small hu0]; omega
          · rw [nDigits_big hu0]
            have := ih (u / 10) (by rw [Nat.pow_succ] at hu; omega)
            omega
      have := key 7 n (by omega)
      omega

/-- Zeros and the numeral are the eight digits. -/
theorem padded (n : Nat) (h : n ≤ 99999999) : repeatL [48] (8 - nDigits n) ++ decDigits n = dg8 n := by
  have h8 := nDigits_le8 n h
  have hp := nDigits_pos n
  have hlt := lt_pow_nDigits n
  have hrep : ∀ c, repeatL [48] c = List.replicate c (48 : UInt8) := by
    intro c
    induction c with
    | zero => rfl
    | succ c ih => rw [repeatL, ih]; rfl
  rw [hrep, decDigits_eq]
  apply List.ext_getElem
  · simp [dg8_length]; omega
  · intro t h1 h2
    simp only [dg8, List.getElem_map, List.getElem_range]
    by_cases ht : t < 8 - nDigits n
    · rw [List.getElem_append_left (by simpa using ht)]
      simp only [List.getElem_replicate]
      unfold dg
      have : n / 10 ^ (7 - t) = 0 := Nat.div_eq_of_lt (Nat.lt_of_lt_of_le hlt (Nat.pow_le_pow_right (by decide) (by omega)))
      rw [this]; rfl
    · rw [List.getElem_append_right (by simpa using ht)]
      simp only [List.length_replicate, List.getElem_map, List.getElem_range]
      congr 1
      rw [dg8_length] at h2
      omega

theorem val_snoc (l : List UInt8) (c : UInt8) : val (l ++ [c]) = 10 * val l + (c.toNat - 48) := by
  simp [val, List.foldl_append]

theorem val_bound : ∀ (k : Nat) (l : List UInt8), l.length = k → l.all isD = true → val l < 10 ^ k := by
  intro k
  induction k with
  | zero => intro l hl _; rw [List.eq_nil_of_length_eq_zero hl]; decide
  | succ k ih =>
    intro l hl hd
    have hne : l ≠ [] := by intro e; rw [e] at hl; simp at hl
    rw [← List.dropLast_concat_getLast hne] at hd ⊢
    rw [List.all_append] at hd
    simp only [Bool.and_eq_true, List.all_cons, List.all_nil, Bool.and_true] at hd
    have := ih l.dropLast (by simp [hl]) hd.1
    rw [val_snoc, Nat.pow_succ]
    have hc := hd.2
    simp only [isD, Bool.and_eq_true, decide_eq_true_eq] at hc
    omega

theorem dg_val_snoc0 (v d : Nat) (hd : d ≤ 9) : dg (10 * v + d) 0 = UInt8.ofNat (48 + d) := by
  unfold dg
  rw [Nat.pow_zero, Nat.div_one]
  congr 2
  omega

theorem low_val : ∀ (k : Nat) (l : List UInt8), l.length = k → l.all isD = true → low (val l) k = l := by
  intro k
  induction k with
  | zero => intro l hl _; rw [List.eq_nil_of_length_eq_zero hl]; rfl
  | succ k ih =>
    intro l hl hd
    have hne : l ≠ [] := by intro e; rw [e] at hl; simp at hl
    rw [← List.dropLast_concat_getLast hne] at hd ⊢
    rw [List.all_append] at hd
    simp only [Bool.and_eq_true, List.all_cons, List.all_nil, Bool.and_true] at hd
    have ihl := ih l.dropLast (by simp [hl]) hd.1
    have hc := hd.2
    simp only [isD, Bool.and_eq_true, decide_eq_true_eq] at hc
    rw [val_snoc]
    generalize hc0 : l.getLast hne = c at hc ⊢
    apply List.ext_getElem
    · simp [low_length, hl]
    · intro t h1 h2
      rw [low_length] at h1
      simp only [low, List.getElem_map, List.getElem_range]
      by_cases ht : t < k
      · rw [List.getElem_append_left (by simp [hl]; omega)]
        have e1 : k + 1 - 1 - t = (k - 1 - t) + 1 := by omega
        rw [e1, dg_succ, show (10 * val l.dropLast + (c.toNat - 48)) / 10 = val l.dropLast by omega]
        have hg : (low (val l.dropLast) k)[t]'(by rw [low_length]; exact ht) = l.dropLast[t]'(by simp [hl]; omega) := by simp only [ihl]
        rw [← hg]
        simp [low]
      · have e : t = k := by omega
        subst e
        rw [List.getElem_append_right (by simp [hl])]
        simp only [List.getElem_singleton]
        rw [show t + 1 - 1 - t = 0 by omega, dg_val_snoc0 _ _ (by omega)]
        have : 48 + (c.toNat - 48) = c.toNat := by omega
        rw [this]
        simp

theorem goodB_iff (l : List UInt8) : goodB l = true ↔ l.length = 12 ∧ l.take 4 = pre4 ∧ (l.drop 4).all isD = true := by
  simp [goodB, and_assoc]

theorem numV_le (l : List UInt8) : numV l ≤ 99999999 := by
  unfold numV
  split
  · rename_i h
    obtain ⟨h1, h2, h3⟩ := (goodB_iff l).1 h
    have := val_bound 8 (l.drop 4) (by simp [h1]) h3
    omega
  · omega

theorem name_of_good (l : List UInt8) (h : goodB l = true) : nameL (val (l.drop 4)) = l := by
  obtain ⟨h1, h2, h3⟩ := (goodB_iff l).1 h
  unfold nameL
  rw [← low_eight, low_val 8 (l.drop 4) (by simp [h1]) h3, ← h2, List.take_append_drop]

theorem name_numV (l : List UInt8) (h : 0 < numV l) : nameL (numV l) = l := by
  unfold numV at h ⊢
  split at h
  · rename_i hg; rw [if_pos hg]; exact name_of_good l hg
  · omega

theorem dg_isD (n j : Nat) : isD (dg n j) = true := by
  unfold isD dg
  have : (UInt8.ofNat (48 + n / 10 ^ j % 10)).toNat = 48 + n / 10 ^ j % 10 := by
    rw [UInt8.toNat_ofNat']
    omega
  rw [this]
  simp only [Bool.and_eq_true, decide_eq_true_eq]
  omega

theorem dg8_isD (n : Nat) : (dg8 n).all isD = true := by
  rw [List.all_eq_true]
  intro c hc
  obtain ⟨t, _, rfl⟩ := List.mem_map.1 hc
  exact dg_isD _ _

theorem val_low (n : Nat) : ∀ k, val (low n k) = n % 10 ^ k := by
  have key : ∀ k m, val (low m k) = m % 10 ^ k := by
    intro k
    induction k with
    | zero => intro m; simp [low, val, Nat.mod_one]
    | succ k ih =>
      intro m
      have e : low m (k + 1) = low (m / 10) k ++ [dg m 0] := by
        unfold low
        rw [List.range_succ, List.map_append]
        congr 1
        · apply List.map_congr_left
          intro t ht
          have : t < k := List.mem_range.1 ht
          rw [show k + 1 - 1 - t = (k - 1 - t) + 1 by omega, dg_succ]
        · simp
      rw [e, val_snoc, ih]
      have hd : (dg m 0).toNat - 48 = m % 10 := by
        unfold dg
        rw [UInt8.toNat_ofNat', Nat.pow_zero, Nat.div_one]
        omega
      rw [hd, Nat.pow_succ, Nat.mul_comm (10 ^ k) 10, Nat.mod_mul]
      omega
  exact fun k => key k n

theorem good_name (n : Nat) : goodB (nameL n) = true := by
  rw [goodB_iff]
  refine ⟨nameL_length n, by simp [nameL, pre4], ?_⟩
  have : (nameL n).drop 4 = dg8 n := by simp [nameL, pre4]
  rw [this]; exact dg8_isD n

theorem numV_name (n : Nat) (h : n ≤ 99999999) : numV (nameL n) = n := by
  unfold numV
  rw [if_pos (good_name n)]
  have : (nameL n).drop 4 = dg8 n := by simp [nameL, pre4]
  rw [this, ← low_eight, val_low, Nat.mod_eq_of_lt (by omega)]

theorem name_inj (m n : Nat) (hm : m ≤ 99999999) (hn : n ≤ 99999999) (h : nameL m = nameL n) : m = n := by
  rw [← numV_name m hm, h, numV_name n hn]

theorem dg_toNat (n j : Nat) : (dg n j).toNat = 48 + n / 10 ^ j % 10 := by
  unfold dg
  rw [UInt8.toNat_ofNat']
  omega

theorem less_low (m n : Nat) : ∀ k, Op.bytesLess (low m k) (low n k) = decide (m % 10 ^ k < n % 10 ^ k) := by
  intro k
  induction k with
  | zero => simp [low, Op.bytesLess, Nat.mod_one]
  | succ k ih =>
    rw [low_succ, low_succ, Op.bytesLess, ih]
    have hm := Nat.mod_lt m (Nat.pow_pos (n := k) (show 0 < 10 by decide))
    have hn := Nat.mod_lt n (Nat.pow_pos (n := k) (show 0 < 10 by decide))
    have em : m % 10 ^ (k + 1) = m % 10 ^ k + 10 ^ k * (m / 10 ^ k % 10) := by rw [Nat.pow_succ, Nat.mod_mul]
    have en : n % 10 ^ (k + 1) = n % 10 ^ k + 10 ^ k * (n / 10 ^ k % 10) := by rw [Nat.pow_succ, Nat.mod_mul]
    rw [em, en]
    have hl : (dg m k < dg n k) ↔ m / 10 ^ k % 10 < n / 10 ^ k % 10 := by
      rw [UInt8.lt_iff_toNat_lt, dg_toNat, dg_toNat]; omega
    have he : (dg m k = dg n k) ↔ m / 10 ^ k % 10 = n / 10 ^ k % 10 := by
      rw [← UInt8.toNat_inj, dg_toNat, dg_toNat]; omega
    generalize m / 10 ^ k % 10 = p at *
    generalize n / 10 ^ k % 10 = q at *
    generalize m % 10 ^ k = r at *
    generalize n % 10 ^ k = s at *
    generalize 10 ^ k = t at *
    rw [Bool.eq_iff_iff]
    simp only [Bool.or_eq_true, Bool.and_eq_true, decide_eq_true_eq, beq_iff_eq, hl, he]
    rcases Nat.lt_trichotomy p q with h | h | h
    · have : t * (p + 1) ≤ t * q := Nat.mul_le_mul_left t h
      rw [Nat.mul_add, Nat.mul_one] at this
      constructor
      · intro _; omega
      · intro _; exact .inl h
    · subst h
      constructor
      · rintro (h | ⟨_, h⟩) <;> omega
      · intro h'; exact .inr ⟨rfl, by omega⟩
    · have : t * (q + 1) ≤ t * p := Nat.mul_le_mul_left t h
      rw [Nat.mul_add, Nat.mul_one] at this
      constructor
      · rintro (h' | ⟨h', _⟩) <;> omega
      · intro h'; omega

theorem less_name (m n : Nat) (hm : m ≤ 99999999) (hn : n ≤ 99999999) : Op.bytesLess (nameL m) (nameL n) = decide (m < n) := by
  have key : ∀ (p : List UInt8) (x y : List UInt8), Op.bytesLess (p ++ x) (p ++ y) = Op.bytesLess x y := by
    intro p x y
    induction p with
    | nil => rfl
    | cons a p ih =>
      simp only [List.cons_append, Op.bytesLess, ih]
      simp [UInt8.lt_irrefl]
  unfold nameL
  rw [key, ← low_eight, ← low_eight, less_low, Nat.mod_eq_of_lt (by omega), Nat.mod_eq_of_lt (by omega)]

theorem eq_name (m n : Nat) (hm : m ≤ 99999999) (hn : n ≤ 99999999) : (nameL m == nameL n) = decide (m = n) := by
  rw [Bool.eq_iff_iff]
  simp only [beq_iff_eq, decide_eq_true_eq]
  exact ⟨name_inj m n hm hn, fun h => by rw [h]⟩

theorem numV_nil : numV [] = 0 := rfl
end Go.Proofs.YtnpkjkbcmidbmaaDoor
