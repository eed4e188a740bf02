/- The texts of numbers, and what reads them back: plain law, no program in sight. -/
import Derived.Test.YtpijpeocdlnhiaaGreatDoorHexL
import Derived.Test.YtpijpeocdlnhiaaGreatDoorFloat
import Derived.Lib.ParseIntBTie
import Derived.Lib.ItoaNum
import Derived.Lib.TrimByte
namespace Go.Proofs.YtpijpeocdlnhiaaGreatDoor
set_option linter.unusedVariables false
set_option linter.unusedSimpArgs false
open Go.RowKit

/-- What the readers of numbers give for a text that is no number. -/
abbrev badN : Lib.NumEnd Nat := Lib.parseUintB 64 []

/-! ### decimal -/
theorem dec_unfold (u : Nat) (h : ¬ u < 10) : Lib.decDigits u = Lib.decDigits (u / 10) ++ [UInt8.ofNat (48 + u % 10)] := by
  rw [Lib.decDigits, dif_neg h]
theorem dec_ind {p : Nat → Prop} (h1 : ∀ u, u < 10 → p u) (h2 : ∀ u, ¬ u < 10 → p (u / 10) → p u) (u : Nat) : p u := by
  induction u using Nat.strongRecOn with
  | _ u ih =>
    by_cases h : u < 10
    · exact h1 u h
    · exact h2 u h (ih (u / 10) (by omega))
theorem dch_nat (u : Nat) (h : u < 10) : (UInt8.ofNat (48 + u)).toNat = 48 + u := by
  rw [UInt8.toNat_ofNat']; omega
theorem dec_digit (u : Nat) : ∀ c ∈ Lib.decDigits u, 48 ≤ c.toNat ∧ c.toNat ≤ 57 := by
  induction u using dec_ind with
  | h1 u h =>
    intro c hc
    rw [Lib.decDigits_one h] at hc
    rw [List.mem_singleton.1 hc, dch_nat u h]; omega
  | h2 u h ih =>
    intro c hc
    rw [dec_unfold u h, List.mem_append] at hc
    rcases hc with hc | hc
    · exact ih c hc
    · rw [List.mem_singleton.1 hc, dch_nat _ (by omega)]; omega
theorem dec_ne (u : Nat) : Lib.decDigits u ≠ [] := by
  by_cases h : u < 10
  · rw [Lib.decDigits_one h]; simp
  · rw [dec_unfold u h]; simp
theorem itoa_chars (n : Int) : ∀ c ∈ Lib.itoa n, c.toNat = 45 ∨ (48 ≤ c.toNat ∧ c.toNat ≤ 57) := by
  intro c hc
  unfold Lib.itoa at hc
  split at hc
  · rcases List.mem_cons.1 hc with rfl | h
    · exact .inl rfl
    · exact .inr (dec_digit _ c h)
  · exact .inr (dec_digit _ c hc)
theorem itoa_ne (n : Int) : Lib.itoa n ≠ [] := by
  unfold Lib.itoa
  split
  · simp
  · exact dec_ne _
theorem dec_no_minus (u : Nat) (r : List UInt8) : Lib.decDigits u ≠ 45 :: r := by
  intro h
  have := dec_digit u 45 (by rw [h]; simp)
  exact absurd this.1 (by decide)

theorem pum_append (M : Nat) (l : List UInt8) (c : UInt8) : ∀ acc, Lib.parseUintM M acc (l ++ [c]) = match Lib.parseUintM M acc l with | .ok a => Lib.parseUintM M a [c] | x => x := by
  induction l with
  | nil => intro acc; simp [Lib.parseUintM]
  | cons b l ih =>
    intro acc
    rw [List.cons_append, Lib.parseUintM, Lib.parseUintM]
    split
    · split
      · rfl
      · split
        · rfl
        · exact ih _
    · rfl
theorem pum_one (M a : Nat) (d : Nat) (hd : d < 10) (h1 : a ≤ 1844674407370955161) (h2 : a * 10 + d ≤ M) : Lib.parseUintM M a [UInt8.ofNat (48 + d)] = .ok (a * 10 + d) := by
  rw [Lib.parseUintM, dch_nat d hd, if_pos (by omega), if_neg (by omega), if_neg (by omega), Lib.parseUintM]
  congr 1; omega
theorem pum_dec (M : Nat) (hM : M ≤ 18446744073709551615) (u : Nat) : u ≤ M → Lib.parseUintM M 0 (Lib.decDigits u) = .ok u := by
  induction u using dec_ind with
  | h1 u h =>
    intro hu
    rw [Lib.decDigits_one h, pum_one M 0 u h (by omega) (by omega)]
    congr 1; omega
  | h2 u h ih =>
    intro hu
    rw [dec_unfold u h, pum_append, ih (by omega)]
    show Lib.parseUintM M (u / 10) _ = _
    rw [pum_one M (u / 10) (u % 10) (by omega) (by omega) (by omega)]
    congr 1; omega
theorem pub_dec (u : Nat) (hu : u ≤ 18446744073709551615) : Lib.parseUintB 64 (Lib.decDigits u) = .ok u := by
  unfold Lib.parseUintB
  rw [if_neg (dec_ne u)]
  exact pum_dec _ (by decide) u (by simpa using hu)
theorem pib_itoa (n : Int) (h0 : -9223372036854775808 ≤ n) (h1 : n ≤ 9223372036854775807) : Lib.parseIntB 64 (Lib.itoa n) = .ok n := by
  unfold Lib.itoa
  split
  · rename_i hn
    rw [Lib.parseIntB_minus, pub_dec _ (by omega)]
    simp only [Lib.signedC]
    rw [if_neg (by have : (2 : Nat) ^ (64 - 1) = 9223372036854775808 := by decide
                   omega)]
    congr 1; omega
  · rename_i hn
    have hne := dec_ne n.toNat
    cases hd : Lib.decDigits n.toNat with
    | nil => exact absurd hd hne
    | cons c r =>
      have hc := dec_digit n.toNat c (by rw [hd]; simp)
      rw [Lib.parseIntB_plain 64 c r (by omega) (by omega), ← hd, pub_dec _ (by omega)]
      simp only [Lib.signlessC]
      rw [if_neg (by have : (2 : Nat) ^ (64 - 1) = 9223372036854775808 := by decide
                     omega)]
      congr 1; omega
/-- What the program makes of a word that is a number, or is none. -/
def intP (s : List UInt8) : Int := match Lib.parseIntB 64 s with | .ok v => v | .range => Lib.intSat 64 s | _ => 0
theorem intP_itoa (n : Int) (h0 : -9223372036854775808 ≤ n) (h1 : n ≤ 9223372036854775807) : intP (Lib.itoa n) = n := by
  unfold intP; rw [pib_itoa n h0 h1]

/-! ### the reference's number -/
def stepN (n : Nat) (c : UInt8) : Nat := if 48 ≤ c.toNat ∧ c.toNat ≤ 57 then (n * 10 + (c.toNat - 48)) % 18446744073709551616 else n
def natR (s : List UInt8) : Nat := s.foldl stepN 0
theorem natR_lt (s : List UInt8) : natR s < 18446744073709551616 := by
  have : ∀ (l : List UInt8) (a : Nat), a < 18446744073709551616 → l.foldl stepN a < 18446744073709551616 := by
    intro l
    induction l with
    | nil => intro a h; exact h
    | cons c l ih =>
      intro a h
      refine ih _ ?_
      unfold stepN
      split
      · exact Nat.mod_lt _ (by decide)
      · exact h
  exact this s 0 (by decide)
theorem natR_dec (u : Nat) : u < 18446744073709551616 → natR (Lib.decDigits u) = u := by
  induction u using dec_ind with
  | h1 u h =>
    intro hu
    rw [Lib.decDigits_one h]
    simp only [natR, List.foldl_cons, List.foldl_nil, stepN, dch_nat u h]
    rw [if_pos (by omega)]; omega
  | h2 u h ih =>
    intro hu
    have hi := ih (by omega)
    unfold natR at hi ⊢
    rw [dec_unfold u h, List.foldl_append, hi]
    simp only [List.foldl_cons, List.foldl_nil, stepN, dch_nat (u % 10) (by omega)]
    rw [if_pos (by omega)]; omega
/-- A number of 64 bits with a sign. -/
def i64 (n : Int) : Int := (n + 9223372036854775808) % 18446744073709551616 - 9223372036854775808
def numberR (s : List UInt8) : Int × Bool :=
  if Lib.itoa (i64 (natR s)) = s then (i64 (natR s), true) else (i64 (-(i64 (natR s))), decide (Lib.itoa (i64 (-(i64 (natR s)))) = s))
theorem numberR_itoa (n : Int) (h0 : -9223372036854775808 ≤ n) (h1 : n ≤ 9223372036854775807) : numberR (Lib.itoa n) = (n, true) := by
  by_cases hn : n < 0
  · have hi : Lib.itoa n = 45 :: Lib.decDigits n.natAbs := by unfold Lib.itoa; rw [if_pos hn]
    have hr : natR (Lib.itoa n) = n.natAbs := by
      rw [hi]
      have : natR (45 :: Lib.decDigits n.natAbs) = natR (Lib.decDigits n.natAbs) := by
        unfold natR
        rw [List.foldl_cons]
        congr 1
      rw [this]
      exact natR_dec _ (by omega)
    unfold numberR
    rw [hr]
    by_cases hm : n = -9223372036854775808
    · subst hm
      have : i64 ((-9223372036854775808 : Int).natAbs : Int) = -9223372036854775808 := by decide
      rw [this, if_pos rfl]
    · have e1 : i64 (n.natAbs : Int) = -n := by unfold i64; omega
      have e2 : i64 (-(-n)) = n := by unfold i64; omega
      rw [e1, e2, if_neg ?_]
      · simp
      · rw [hi]
        unfold Lib.itoa
        rw [if_neg (by omega)]
        exact dec_no_minus _ _
  · have hi : Lib.itoa n = Lib.decDigits n.toNat := by unfold Lib.itoa; rw [if_neg hn]
    have hr : natR (Lib.itoa n) = n.toNat := by rw [hi]; exact natR_dec _ (by omega)
    unfold numberR
    rw [hr]
    have e1 : i64 (n.toNat : Int) = n := by unfold i64; omega
    rw [e1, if_pos rfl]
/-- What begins with a sign that is of no number is none. -/
theorem numberR_no (c : UInt8) (r : List UInt8) (h : ¬ (c.toNat = 45 ∨ (48 ≤ c.toNat ∧ c.toNat ≤ 57))) : (numberR (c :: r)).2 = false := by
  have hh : ∀ m, Lib.itoa m ≠ c :: r := fun m e => h (itoa_chars m c (by rw [e]; simp))
  unfold numberR
  rw [if_neg (hh _)]
  simpa using hh _
theorem numberR_nil : (numberR []).2 = false := by
  unfold numberR
  rw [if_neg (itoa_ne _)]
  simpa using itoa_ne _

/-! ### hexadecimal -/
def hexC (c : UInt8) : Option Nat :=
  if 48 ≤ c.toNat ∧ c.toNat ≤ 57 then some (c.toNat - 48) else if 97 ≤ c.toNat ∧ c.toNat ≤ 102 then some (c.toNat - 87) else if 65 ≤ c.toNat ∧ c.toNat ≤ 70 then some (c.toNat - 55) else none
def hexU (M : Nat) : Nat → List UInt8 → Lib.NumEnd Nat
  | acc, [] => .ok acc
  | acc, c :: r => match hexC c with
    | none => badN
    | some d => if 1152921504606846976 ≤ acc then .range else if M < acc * 16 + d then .range else hexU M (acc * 16 + d) r
/-- ParseUint at base 16: the number, and whether there is one. -/
def puE (M : Nat) (l : List UInt8) : Lib.NumEnd Nat := if l = [] then badN else hexU M 0 l
def puV (M : Nat) (l : List UInt8) : Nat := match puE M l with | .ok v => v | .range => M | _ => 0
theorem hexC_lt {c : UInt8} {d : Nat} (h : hexC c = some d) : d < 16 := by
  unfold hexC at h
  split at h
  · cases h; omega
  · split at h
    · cases h; omega
    · split at h
      · cases h; omega
      · cases h
theorem hexU_le (M : Nat) : ∀ (l : List UInt8) (acc v : Nat), acc ≤ M → hexU M acc l = .ok v → v ≤ M
  | [], acc, v, h, e => by rw [hexU] at e; cases e; exact h
  | c :: r, acc, v, h, e => by
    rw [hexU] at e
    split at e
    · cases e
    · split at e
      · cases e
      · split at e
        · cases e
        · exact hexU_le M r _ v (by omega) e
theorem puV_le (M : Nat) (l : List UInt8) : puV M l ≤ M := by
  unfold puV
  split
  · rename_i v h
    unfold puE at h
    split at h
    · cases h
    · exact hexU_le M l 0 v (Nat.zero_le _) h
  · exact Nat.le_refl _
  · exact Nat.zero_le _
theorem dig_hexC : ∀ n : Fin 16, hexC (dig n.val) = some n.val := by decide +kernel
theorem dig_hexC' (n : Nat) (h : n < 16) : hexC (dig n) = some n := dig_hexC ⟨n, h⟩
theorem dig_char : ∀ n : Fin 16, (48 ≤ (dig n.val).toNat ∧ (dig n.val).toNat ≤ 57 ∧ (dig n.val).toNat = 48 + n.val) ∨ (97 ≤ (dig n.val).toNat ∧ (dig n.val).toNat ≤ 102 ∧ (dig n.val).toNat = 87 + n.val) := by decide +kernel
theorem dig_char' (n : Nat) (h : n < 16) : (48 ≤ (dig n).toNat ∧ (dig n).toNat ≤ 57 ∧ (dig n).toNat = 48 + n) ∨ (97 ≤ (dig n).toNat ∧ (dig n).toNat ≤ 102 ∧ (dig n).toNat = 87 + n) := dig_char ⟨n, h⟩
theorem hexL_char (l : List UInt8) : ∀ c ∈ hexL l, (48 ≤ c.toNat ∧ c.toNat ≤ 57) ∨ (97 ≤ c.toNat ∧ c.toNat ≤ 102) := by
  induction l with
  | nil => intro c hc; simp [hexL] at hc
  | cons a l ih =>
    have := a.toNat_lt
    intro c hc
    rw [hexL] at hc
    rcases List.mem_cons.1 hc with rfl | hc
    · rcases dig_char' (a.toNat / 16) (by omega) with h | h <;> omega
    · rcases List.mem_cons.1 hc with rfl | hc
      · rcases dig_char' (a.toNat % 16) (by omega) with h | h <;> omega
      · exact ih c hc
/-- The bytes of pairs of digits, as the program reads them. -/
def unhexP : List UInt8 → List UInt8
  | a :: b :: r => UInt8.ofNat (puV 255 [a, b]) :: unhexP r
  | _ => []
theorem pu_pair (a b : Nat) (ha : a < 16) (hb : b < 16) : puV 255 [dig a, dig b] = a * 16 + b := by
  unfold puV puE
  rw [if_neg (by simp), hexU, dig_hexC' a ha]
  simp only []
  rw [if_neg (by omega), if_neg (by omega), hexU, dig_hexC' b hb]
  simp only []
  rw [if_neg (by omega), if_neg (by omega), hexU]
  simp
theorem unhexP_hexL (l : List UInt8) : unhexP (hexL l) = l := by
  induction l with
  | nil => rfl
  | cons a l ih =>
    have := a.toNat_lt
    rw [hexL, unhexP, ih, pu_pair _ _ (by omega) (by omega)]
    congr 1
    rw [show a.toNat / 16 * 16 + a.toNat % 16 = a.toNat by omega]
    exact UInt8.ofNat_toNat

/-- The bytes of pairs of digits, as the reference reads them. -/
def hexR (n : Nat) (c : UInt8) : Nat :=
  n * 16 + (if 48 ≤ c.toNat ∧ c.toNat ≤ 57 then c.toNat - 48 else 0) + (if 97 ≤ c.toNat ∧ c.toNat ≤ 102 then c.toNat - 97 + 10 else 0)
def unhexRL : List UInt8 → List UInt8
  | a :: b :: r => UInt8.ofNat (hexR (hexR 0 a) b) :: unhexRL r
  | _ => []
def unhexR (s : List UInt8) : List UInt8 × Bool := (unhexRL s, decide (hexL (unhexRL s) = s))
theorem hexR_dig (n a : Nat) (ha : a < 16) : hexR n (dig a) = n * 16 + a := by
  unfold hexR
  rcases dig_char' a ha with ⟨h1, h2, h3⟩ | ⟨h1, h2, h3⟩
  · rw [if_pos ⟨h1, h2⟩, if_neg (by omega)]; omega
  · rw [if_neg (by omega), if_pos ⟨h1, h2⟩]; omega
theorem unhexRL_hexL (l : List UInt8) : unhexRL (hexL l) = l := by
  induction l with
  | nil => rfl
  | cons a l ih =>
    have := a.toNat_lt
    rw [hexL, unhexRL, ih, hexR_dig _ _ (by omega), hexR_dig _ _ (by omega)]
    congr 1
    rw [show (0 * 16 + a.toNat / 16) * 16 + a.toNat % 16 = a.toNat by omega]
    exact UInt8.ofNat_toNat
theorem unhexR_hexL (l : List UInt8) : unhexR (hexL l) = (l, true) := by
  unfold unhexR; rw [unhexRL_hexL]; simp

theorem dropWhile_no (l : List UInt8) (c : UInt8) (h : ∀ x ∈ l, x ≠ c) : l.dropWhile (· == c) = l := by
  cases l with
  | nil => rfl
  | cons a l => rw [List.dropWhile_cons_of_neg]; simpa using h a (by simp)
theorem trim_quoted (l : List UInt8) (h : ∀ x ∈ l, x ≠ 34) : Lib.trimB (34 :: l ++ [34]) 34 = l := by
  unfold Lib.trimB Lib.trimRightB Lib.trimLeftB
  simp only [List.reverse_append, List.reverse_cons, List.reverse_nil, List.nil_append, List.singleton_append]
  rw [List.dropWhile_cons_of_pos (by simp)]
  by_cases hl : l = []
  · subst hl; rfl
  · have h2 : (l.reverse ++ [34]).dropWhile (· == 34) = l.reverse ++ [34] := by
      cases hr : l.reverse with
      | nil => exact absurd (List.reverse_eq_nil_iff.1 hr) hl
      | cons a r =>
        rw [List.cons_append, List.dropWhile_cons_of_neg]
        have : a ∈ l := by rw [← List.mem_reverse, hr]; simp
        simpa using h a this
    rw [h2]
    simp only [List.reverse_append, List.reverse_cons, List.reverse_nil, List.nil_append, List.singleton_append, List.reverse_reverse]
    rw [List.dropWhile_cons_of_pos (by simp)]
    exact dropWhile_no l 34 h

/-! ### floats -/
def hex16 (b : Nat) : List UInt8 := (List.range 16).map fun i => dig (b / 16 ^ (15 - i) % 16)
abbrev nanL : List UInt8 := [110, 97, 110]
abbrev infL : List UInt8 := [105, 110, 102]
abbrev minfL : List UInt8 := [45, 105, 110, 102]
abbrev zeroL : List UInt8 := [48]
abbrev mzeroL : List UInt8 := [45, 48]
/-- The text of canonical bits. -/
def numC (c : Nat) : List UInt8 :=
  if c = 9221120237041090561 then nanL else if c = 9218868437227405312 then infL else if c = 18442240474082181120 then minfL else if c = 0 then zeroL else if c = 9223372036854775808 then mzeroL else 120 :: hex16 c
def numTextL (f : Nat) : List UInt8 := numC (canonB f)
theorem hex16_char (b : Nat) : ∀ c ∈ hex16 b, (48 ≤ c.toNat ∧ c.toNat ≤ 57) ∨ (97 ≤ c.toNat ∧ c.toNat ≤ 102) := by
  intro c hc
  obtain ⟨i, _, rfl⟩ := List.mem_map.1 hc
  rcases dig_char' (b / 16 ^ (15 - i) % 16) (Nat.mod_lt _ (by decide)) with h | h <;> omega
theorem numC_char (b : Nat) : ∀ c ∈ numC b, c.toNat = 45 ∨ (48 ≤ c.toNat ∧ c.toNat ≤ 57) ∨ (97 ≤ c.toNat ∧ c.toNat ≤ 122) := by
  intro c hc
  unfold numC at hc
  repeat' split at hc
  all_goals first
    | (simp only [List.mem_cons, List.not_mem_nil, or_false] at hc
       rcases hc with rfl | rfl | rfl | rfl <;> simp)
    | (simp only [List.mem_cons, List.not_mem_nil, or_false] at hc
       rcases hc with rfl | rfl | rfl <;> simp)
    | (simp only [List.mem_cons, List.not_mem_nil, or_false] at hc
       rcases hc with rfl | rfl <;> simp)
    | (simp only [List.mem_cons, List.not_mem_nil, or_false] at hc
       subst hc; simp)
    | (rcases List.mem_cons.1 hc with rfl | hc
       · simp
       · rcases hex16_char _ c hc with h | h <;> omega)
theorem hexU_append (M : Nat) (l : List UInt8) (c : UInt8) : ∀ acc, hexU M acc (l ++ [c]) = match hexU M acc l with | .ok a => hexU M a [c] | x => x := by
  induction l with
  | nil => intro acc; simp [hexU]
  | cons b l ih =>
    intro acc
    rw [List.cons_append, hexU, hexU]
    split
    · rfl
    · split
      · rfl
      · split
        · rfl
        · exact ih _
/-- The first k of the sixteen digits. -/
def hexK (b k : Nat) : List UInt8 := (List.range k).map fun i => dig (b / 16 ^ (15 - i) % 16)
theorem hexK_succ (b k : Nat) : hexK b (k + 1) = hexK b k ++ [dig (b / 16 ^ (15 - k) % 16)] := by
  unfold hexK; rw [List.range_succ, List.map_append]; rfl
theorem pow_pred {k : Nat} (h : k ≤ 15) : 16 ^ (16 - k) = 16 ^ (15 - k) * 16 := by
  rw [← Nat.pow_succ]; congr 1; omega
theorem hexU_hexK (b : Nat) (hb : b < 18446744073709551616) : ∀ k, k ≤ 16 → hexU 18446744073709551615 0 (hexK b k) = .ok (b / 16 ^ (16 - k))
  | 0, _ => by
    show Lib.NumEnd.ok 0 = _
    congr 1
    exact (Nat.div_eq_of_lt hb).symm
  | k + 1, hk => by
    have hp := pow_pred (k := k) (by omega)
    have hd : b / 16 ^ (16 - k) = b / 16 ^ (15 - k) / 16 := by rw [hp, Nat.div_div_eq_div_mul]
    have hle : b / 16 ^ (15 - k) ≤ b := Nat.div_le_self _ _
    rw [hexK_succ, hexU_append, hexU_hexK b hb k (by omega), hd]
    rw [show 16 - (k + 1) = 15 - k by omega]
    show hexU _ _ [_] = _
    generalize b / 16 ^ (15 - k) = q at *
    rw [hexU, dig_hexC' _ (Nat.mod_lt _ (by decide))]
    simp only []
    rw [if_neg (by omega), if_neg (by omega), hexU]
    congr 1
    omega
theorem hexU_hex16 (b : Nat) (hb : b < 18446744073709551616) : hexU 18446744073709551615 0 (hex16 b) = .ok b := by
  have := hexU_hexK b hb 16 (Nat.le_refl _)
  simpa [hexK, hex16] using this
/-- The five names of numbers. -/
def special (s : List UInt8) : Option Nat :=
  if s = nanL then some 9221120237041090561 else if s = infL then some 9218868437227405312 else if s = minfL then some 18442240474082181120 else if s = zeroL then some 0 else if s = mzeroL then some 9223372036854775808 else none
def numParseF (s : List UInt8) : Nat :=
  match special s with
  | some f => f
  | none => match s with
    | [] => 0
    | c :: r => if c = 120 then (match puE 18446744073709551615 r with | .ok b => if numTextL b = s then b else 0 | _ => 0) else 0
theorem special_x (l : List UInt8) : special (120 :: l) = none := by
  unfold special
  repeat (rw [if_neg (by simp)])
theorem canon_canon (f : Nat) : canonB (canonB f) = canonB f := by
  have h : nanB 9221120237041090561 = true := by decide
  unfold canonB
  by_cases hn : nanB f = true
  · rw [if_pos hn, if_pos h]
  · rw [if_neg hn, if_neg hn]
theorem canon_lt (f : Nat) (h : f < 18446744073709551616) : canonB f < 18446744073709551616 := by
  unfold canonB
  split
  · decide
  · exact h
theorem hex16_ne (b : Nat) : hex16 b ≠ [] := by simp [hex16]
theorem numParse_text (f : Nat) (h : f < 18446744073709551616) : numParseF (numTextL f) = canonB f := by
  have hlt := canon_lt f h
  have hcc := canon_canon f
  unfold numTextL
  generalize canonB f = c at *
  by_cases h1 : c = 9221120237041090561
  · subst h1; decide
  by_cases h2 : c = 9218868437227405312
  · subst h2; decide
  by_cases h3 : c = 18442240474082181120
  · subst h3; decide
  by_cases h4 : c = 0
  · subst h4; decide
  by_cases h5 : c = 9223372036854775808
  · subst h5; decide
  have hn : numC c = 120 :: hex16 c := by unfold numC; rw [if_neg h1, if_neg h2, if_neg h3, if_neg h4, if_neg h5]
  have hpu : puE 18446744073709551615 (hex16 c) = .ok c := by unfold puE; rw [if_neg (hex16_ne c), hexU_hex16 c hlt]
  have ht : numTextL c = 120 :: hex16 c := by unfold numTextL; rw [hcc, hn]
  rw [hn]
  unfold numParseF
  rw [special_x]
  simp only [if_pos]
  rw [hpu]
  simp only []
  rw [if_pos ht]
theorem numText_inj {f g : Nat} (hf : f < 18446744073709551616) (hg : g < 18446744073709551616) (h : numTextL f = numTextL g) : canonB f = canonB g := by
  rw [← numParse_text f hf, h, numParse_text g hg]

/-! ### the reference's floats -/
def stepH (n : Nat) (c : UInt8) : Nat :=
  let a := if 48 ≤ c.toNat ∧ c.toNat ≤ 57 then (n * 16 + (c.toNat - 48)) % 18446744073709551616 else n
  if 97 ≤ c.toNat ∧ c.toNat ≤ 102 then (a * 16 + (c.toNat - 97) + 10) % 18446744073709551616 else a
def bitsR (s : List UInt8) : Nat := s.tail.foldl stepH 0
def candR (s : List UInt8) : List Nat := [bitsR s, 9221120237041090561, 9218868437227405312, 18442240474082181120, 0, 9223372036854775808]
def numParseR (s : List UInt8) : Nat × Bool := match (candR s).find? (fun x => decide (numTextL x = s)) with | some x => (x, true) | none => (0, false)
theorem bitsR_lt (s : List UInt8) : bitsR s < 18446744073709551616 := by
  have : ∀ (l : List UInt8) (a : Nat), a < 18446744073709551616 → l.foldl stepH a < 18446744073709551616 := by
    intro l
    induction l with
    | nil => intro a h; exact h
    | cons c l ih =>
      intro a h
      refine ih _ ?_
      unfold stepH
      simp only []
      split
      · exact Nat.mod_lt _ (by decide)
      · split
        · exact Nat.mod_lt _ (by decide)
        · exact h
  exact this _ 0 (by decide)
theorem candR_lt (s : List UInt8) : ∀ x ∈ candR s, x < 18446744073709551616 := by
  intro x hx
  simp only [candR, List.mem_cons, List.not_mem_nil, or_false] at hx
  rcases hx with rfl | rfl | rfl | rfl | rfl | rfl
  · exact bitsR_lt s
  all_goals decide
theorem stepH_dig (n a : Nat) (ha : a < 16) (hn : n * 16 + a < 18446744073709551616) : stepH n (dig a) = n * 16 + a := by
  unfold stepH
  rcases dig_char' a ha with ⟨h1, h2, h3⟩ | ⟨h1, h2, h3⟩
  · have h5 : ¬ (97 ≤ (dig a).toNat ∧ (dig a).toNat ≤ 102) := by omega
    have h6 : 48 ≤ (dig a).toNat ∧ (dig a).toNat ≤ 57 := ⟨h1, h2⟩
    simp only [if_neg h5, if_pos h6]; omega
  · have h5 : 97 ≤ (dig a).toNat ∧ (dig a).toNat ≤ 102 := ⟨h1, h2⟩
    have h6 : ¬ (48 ≤ (dig a).toNat ∧ (dig a).toNat ≤ 57) := by omega
    simp only [if_pos h5, if_neg h6]; omega
theorem fold_hexK (b : Nat) (hb : b < 18446744073709551616) : ∀ k, k ≤ 16 → (hexK b k).foldl stepH 0 = b / 16 ^ (16 - k)
  | 0, _ => (Nat.div_eq_of_lt hb).symm
  | k + 1, hk => by
    have hp := pow_pred (k := k) (by omega)
    have hd : b / 16 ^ (16 - k) = b / 16 ^ (15 - k) / 16 := by rw [hp, Nat.div_div_eq_div_mul]
    have hle : b / 16 ^ (15 - k) ≤ b := Nat.div_le_self _ _
    rw [hexK_succ, List.foldl_append, fold_hexK b hb k (by omega), hd, List.foldl_cons, List.foldl_nil, show 16 - (k + 1) = 15 - k by omega]
    generalize b / 16 ^ (15 - k) = q at *
    rw [stepH_dig _ _ (Nat.mod_lt _ (by decide)) (by omega)]
    omega
theorem bitsR_x (c : Nat) (hb : c < 18446744073709551616) : bitsR (120 :: hex16 c) = c := by
  have := fold_hexK c hb 16 (Nat.le_refl _)
  simpa [bitsR, hexK, hex16] using this
theorem numParseR_text (f : Nat) (h : f < 18446744073709551616) : ∃ x, numParseR (numTextL f) = (x, true) ∧ x < 18446744073709551616 ∧ canonB x = canonB f := by
  have hlt := canon_lt f h
  have hcc := canon_canon f
  have hin : canonB f ∈ candR (numTextL f) := by
    unfold candR
    by_cases h1 : canonB f = 9221120237041090561
    · rw [h1]; simp
    by_cases h2 : canonB f = 9218868437227405312
    · rw [h2]; simp
    by_cases h3 : canonB f = 18442240474082181120
    · rw [h3]; simp
    by_cases h4 : canonB f = 0
    · rw [h4]; simp
    by_cases h5 : canonB f = 9223372036854775808
    · rw [h5]; simp
    have hn : numTextL f = 120 :: hex16 (canonB f) := by unfold numTextL numC; rw [if_neg h1, if_neg h2, if_neg h3, if_neg h4, if_neg h5]
    rw [hn, bitsR_x _ hlt]; simp
  have ht : numTextL (canonB f) = numTextL f := by unfold numTextL; rw [hcc]
  unfold numParseR
  cases hf : (candR (numTextL f)).find? (fun x => decide (numTextL x = numTextL f)) with
  | none =>
    have := List.find?_eq_none.1 hf _ hin
    simp [ht] at this
  | some x =>
    have hx := List.find?_some hf
    have hm := List.mem_of_find?_eq_some hf
    have hxl := candR_lt _ x hm
    exact ⟨x, rfl, hxl, numText_inj hxl h (by simpa using hx)⟩
end Go.Proofs.YtpijpeocdlnhiaaGreatDoor
