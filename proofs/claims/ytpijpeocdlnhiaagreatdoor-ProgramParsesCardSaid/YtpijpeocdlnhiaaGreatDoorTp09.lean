/- Texts for programTexts_holds, joined: PTextR, TPlainA, Same, TPlainB, TPlainC. -/
import Derived.Test.YtpijpeocdlnhiaaGreatDoorTp06
import Derived.Test.YtpijpeocdlnhiaaGreatDoorTp08
import Derived.Test.YtpijpeocdlnhiaaGreatDoorTp05
import Derived.Test.YtpijpeocdlnhiaaGreatDoorTp03
import Derived.Test.YtpijpeocdlnhiaaGreatDoorTp01
import Derived.Lib.ParseIntBTie
import Derived.Lib.ItoaNum
import Derived.Lib.TrimByte
import Derived.StillTailTactics
set_option linter.unusedVariables false
set_option linter.unusedSimpArgs false
namespace Go.Proofs.YtpijpeocdlnhiaaGreatDoor
open Go.RowKit
theorem join_le {s : List UInt8} {K : Nat} : ∀ {l : List (List UInt8)}, (∀ x ∈ l, x.length ≤ K) → (Lib.join l s).length ≤ l.length * (K + s.length)
  | [], _ => by simp [Lib.join, List.intercalate]
  | [x], h => by rw [join_one]; have := h x (by simp); simp; omega
  | x :: y :: r, h => by
    rw [join_cons2, List.length_append, List.length_append]
    have h1 := h x (by simp)
    have h2 := join_le (s := s) (l := y :: r) (fun u hu => h u (List.mem_cons_of_mem _ hu))
    rw [List.length_cons (a := x), Nat.add_mul, Nat.one_mul]
    omega
theorem wordB_len (k : Int) : (wordB k).length ≤ 5 := by
  unfold wordB
  rcases Nat.lt_or_ge k.toNat 13 with h | h
  · have h0 : ∀ i : Fin 13, (wordsL.getD i.val ⟨#[]⟩).data.toList.length ≤ 5 := by decide +kernel
    exact h0 ⟨_, h⟩
  · rw [List.getD_eq_getElem?_getD, List.getElem?_eq_none (by exact h)]; simp
theorem stext_len {x : ST} (h : x.ok) (hs : x.s.size ≤ 1000) : (stextB x).data.toList.length ≤ 3000 := by
  rw [stext_list, List.length_append]
  have h1 := wordB_len x.k
  have h2 : (sufB x).length ≤ 2010 := by
    unfold sufB
    split
    · have := Lib.itoa_length_le x.n h.2.1.1 h.2.1.2
      rw [List.length_cons]; omega
    · split
      · simp only [List.length_cons, List.length_append, List.length_nil, hexL_length]
        have : x.s.data.toList.length = x.s.size := bsize x.s
        omega
      · simp
  omega
theorem rightB_norm {x : ST} {np nl : Nat} (h : rightB x np nl = true) : NormS x ∧ x.s.size ≤ 1000 := by
  have e0 : ∀ {s : ByteArray}, s = ⟨#[]⟩ → s.size ≤ 1000 := fun e => by rw [e]; decide
  unfold rightB at h
  by_cases c1 : x.k = 1 ∨ x.k = 2
  · rw [if_pos c1] at h
    have h1 : x.s = ⟨#[]⟩ := of_decide_eq_true h
    exact ⟨⟨by omega, by omega, fun hn => absurd (by unfold numL; simp; omega) hn, fun _ => h1⟩, e0 h1⟩
  rw [if_neg c1] at h
  by_cases c2 : x.k = 3 ∨ x.k = 5
  · rw [if_pos c2] at h
    simp only [Bool.and_eq_true, decide_eq_true_eq] at h
    exact ⟨⟨by omega, by omega, fun _ => h.1.1, fun hn => absurd (by unfold namL; simp; omega) hn⟩, h.1.2⟩
  rw [if_neg c2] at h
  by_cases c3 : x.k = 4 ∨ x.k = 4
  · rw [if_pos c3] at h
    simp only [Bool.and_eq_true, decide_eq_true_eq] at h
    exact ⟨⟨by omega, by omega, fun hn => absurd (by unfold numL; simp; omega) hn, fun _ => h.1⟩, e0 h.1⟩
  rw [if_neg c3] at h
  by_cases c4 : x.k = 6 ∨ x.k = 6
  · rw [if_pos c4] at h
    simp only [Bool.and_eq_true, decide_eq_true_eq] at h
    exact ⟨⟨by omega, by omega, fun hn => absurd (by unfold numL; simp; omega) hn, fun _ => h.1⟩, e0 h.1⟩
  rw [if_neg c4] at h
  by_cases c5 : x.k = 7 ∨ x.k = 11
  · rw [if_pos c5] at h
    simp only [Bool.and_eq_true, decide_eq_true_eq] at h
    exact ⟨⟨by omega, by omega, fun _ => h.1, fun _ => h.2⟩, e0 h.2⟩
  rw [if_neg c5] at h
  by_cases c6 : x.k = 8 ∨ x.k = 9
  · rw [if_pos c6] at h
    simp only [Bool.and_eq_true, decide_eq_true_eq] at h
    exact ⟨⟨by omega, by omega, fun hn => absurd (by unfold numL; simp; omega) hn, fun _ => h.1⟩, e0 h.1⟩
  rw [if_neg c6] at h
  by_cases c7 : x.k = 10 ∨ x.k = 12
  · rw [if_pos c7] at h
    simp only [Bool.and_eq_true, decide_eq_true_eq] at h
    exact ⟨⟨by omega, by omega, fun _ => h.1, fun hn => absurd (by unfold namL; simp; omega) hn⟩, h.2⟩
  rw [if_neg c7] at h
  cases h
def lpB (P : List RT) : ByteArray := ⟨(lpT (P.map RT.l)).toArray⟩
theorem textP_lp (P : List RT) : textP stextB P = lpB P := by
  unfold textP lpB lpT joinB
  congr 3
  rw [List.map_map, List.map_map]
  refine List.map_congr_left fun r _ => ?_
  simp only [Function.comp, textR, lrT, joinB, List.map_map, semi]
  rfl
theorem textR_len {P : List RT} {w : World} (h : RightP P) (hi : ∀ r ∈ P, r.inw w) : ∀ r ∈ P, (Lib.join ((r.l.map stextB).map (·.data.toList)) semi.data.toList).length ≤ 700000 := fun r hr => by
  have hf := h.2.2 r hr
  have := join_le (s := semi.data.toList) (K := 3000) (l := (r.l.map stextB).map (·.data.toList)) (fun u hu => by
    obtain ⟨b, hb, rfl⟩ := List.mem_map.1 hu
    obtain ⟨x, hx, rfl⟩ := List.mem_map.1 hb
    exact stext_len ((hi r hr).ok x hx) (rightB_norm (hf.2 x hx)).2)
  have h2 : semi.data.toList.length = 2 := rfl
  rw [h2, List.length_map, List.length_map] at this
  have := hf.1
  omega
theorem ptext_right (a : Option Addr) (c : Nat) (P : List RT) (w : World) (h : PrgU w (.slice a P.length c) P) (hr : RightP P) (hw : Words w) (ht : PTab w) :
    Calls Tryz.prog 30 #[.slice a P.length c] w fun e w' => e = .returned (.string (lpB P)) ∧ Below w.heap.size w w' := by
  rw [← textP_lp]
  have h20 := hr.2.1
  have hlr := textR_len hr h.each
  refine ptext_ok rightB stextB a c P w (h.prg (fun r h2 => by have := (hr.2.2 r h2).1; omega)) ⟨hr.1, hr.2.1⟩ hr.2.2 (fun r h2 x hx W => right_any x _ _ (by omega) (by have := (hr.2.2 r h2).1; omega) W) ?_ ?_ ?_
  · unfold Short
    have := join_le (s := bar.data.toList) (K := 700000) (l := (P.map (textR stextB)).map (·.data.toList)) (fun u hu => by
      obtain ⟨b, hb, rfl⟩ := List.mem_map.1 hu
      obtain ⟨r, hr2, rfl⟩ := List.mem_map.1 hb
      exact hlr r hr2)
    have h2 : bar.data.toList.length = 3 := rfl
    rw [h2, List.length_map, List.length_map] at this
    omega
  · intro r h2
    have := hlr r h2
    unfold Short; omega
  · intro r h2 x hx W hW
    have hn := rightB_norm ((hr.2.2 r h2).2 x hx)
    exact stext_any x ⟨hn.1.1, hn.1.2.1⟩ ((h.each r h2).ok x hx).2.1 (by have := hn.2; omega) W (hw.later hW) (tab_below ht hW)
abbrev badN : Lib.NumEnd Nat := Lib.parseUintB 64 []
theorem dec_unfold (u : Nat) (h : ¬ u < 10) : Lib.decDigits u = Lib.decDigits (u / 10) ++ [UInt8.ofNat (48 + u % 10)] := by
  rw [Lib.decDigits, dif_neg h]
theorem dec_ind {p : Nat → Prop} (h1 : ∀ u, u < 10 → p u) (h2 : ∀ u, ¬ u < 10 → p (u / 10) → p u) (u : Nat) : p u := by
  induction u using Nat.strongRecOn with
  | _ u ih =>
    by_cases h : u < 10
    · exact h1 u h
    · exact h2 u h (ih (u / 10) (by omega))
theorem dch_nat (u : Nat) (h : u < 10) : (UInt8.ofNat (48 + u)).toNat = 48 + u := by
  rw [UInt8.toNat_ofNat']; omega
theorem dec_digit (u : Nat) : ∀ c ∈ Lib.decDigits u, 48 ≤ c.toNat ∧ c.toNat ≤ 57 := by
  induction u using dec_ind with
  | h1 u h =>
    intro c hc
    rw [Lib.decDigits_one h] at hc
    rw [List.mem_singleton.1 hc, dch_nat u h]; omega
  | h2 u h ih =>
    intro c hc
    rw [dec_unfold u h, List.mem_append] at hc
    rcases hc with hc | hc
    · exact ih c hc
    · rw [List.mem_singleton.1 hc, dch_nat _ (by omega)]; omega
theorem dec_ne (u : Nat) : Lib.decDigits u ≠ [] := by
  by_cases h : u < 10
  · rw [Lib.decDigits_one h]; simp
  · rw [dec_unfold u h]; simp
theorem itoa_chars (n : Int) : ∀ c ∈ Lib.itoa n, c.toNat = 45 ∨ (48 ≤ c.toNat ∧ c.toNat ≤ 57) := by
  intro c hc
  unfold Lib.itoa at hc
  split at hc
  · rcases List.mem_cons.1 hc with rfl | h
    · exact .inl rfl
    · exact .inr (dec_digit _ c h)
  · exact .inr (dec_digit _ c hc)
theorem itoa_ne (n : Int) : Lib.itoa n ≠ [] := by
  unfold Lib.itoa
  split
  · simp
  · exact dec_ne _
theorem dec_no_minus (u : Nat) (r : List UInt8) : Lib.decDigits u ≠ 45 :: r := by
  intro h
  have := dec_digit u 45 (by rw [h]; simp)
  exact absurd this.1 (by decide)
theorem pum_append (M : Nat) (l : List UInt8) (c : UInt8) : ∀ acc, Lib.parseUintM M acc (l ++ [c]) = match Lib.parseUintM M acc l with | .ok a => Lib.parseUintM M a [c] | x => x := by
  induction l with
  | nil => intro acc; simp [Lib.parseUintM]
  | cons b l ih =>
    intro acc
    rw [List.cons_append, Lib.parseUintM, Lib.parseUintM]
    split
    · split
      · rfl
      · split
        · rfl
        · exact ih _
    · rfl
theorem pum_one (M a : Nat) (d : Nat) (hd : d < 10) (h1 : a ≤ 1844674407370955161) (h2 : a * 10 + d ≤ M) : Lib.parseUintM M a [UInt8.ofNat (48 + d)] = .ok (a * 10 + d) := by
  rw [Lib.parseUintM, dch_nat d hd, if_pos (by omega), if_neg (by omega), if_neg (by omega), Lib.parseUintM]
  congr 1; omega
theorem pum_dec (M : Nat) (hM : M ≤ 18446744073709551615) (u : Nat) : u ≤ M → Lib.parseUintM M 0 (Lib.decDigits u) = .ok u := by
  induction u using dec_ind with
  | h1 u h =>
    intro hu
    rw [Lib.decDigits_one h, pum_one M 0 u h (by omega) (by omega)]
    congr 1; omega
  | h2 u h ih =>
    intro hu
    rw [dec_unfold u h, pum_append, ih (by omega)]
    show Lib.parseUintM M (u / 10) _ = _
    rw [pum_one M (u / 10) (u % 10) (by omega) (by omega) (by omega)]
    congr 1; omega
theorem pub_dec (u : Nat) (hu : u ≤ 18446744073709551615) : Lib.parseUintB 64 (Lib.decDigits u) = .ok u := by
  unfold Lib.parseUintB
  rw [if_neg (dec_ne u)]
  exact pum_dec _ (by decide) u (by simpa using hu)
theorem pib_itoa (n : Int) (h0 : -9223372036854775808 ≤ n) (h1 : n ≤ 9223372036854775807) : Lib.parseIntB 64 (Lib.itoa n) = .ok n := by
  unfold Lib.itoa
  split
  · rename_i hn
    rw [Lib.parseIntB_minus, pub_dec _ (by omega)]
    simp only [Lib.signedC]
    rw [if_neg (by have : (2 : Nat) ^ (64 - 1) = 9223372036854775808 := by decide
                   omega)]
    congr 1; omega
  · rename_i hn
    have hne := dec_ne n.toNat
    cases hd : Lib.decDigits n.toNat with
    | nil => exact absurd hd hne
    | cons c r =>
      have hc := dec_digit n.toNat c (by rw [hd]; simp)
      rw [Lib.parseIntB_plain 64 c r (by omega) (by omega), ← hd, pub_dec _ (by omega)]
      simp only [Lib.signlessC]
      rw [if_neg (by have : (2 : Nat) ^ (64 - 1) = 9223372036854775808 := by decide
                     omega)]
      congr 1; omega
def intP (s : List UInt8) : Int := match Lib.parseIntB 64 s with | .ok v => v | .range => Lib.intSat 64 s | _ => 0
theorem intP_itoa (n : Int) (h0 : -9223372036854775808 ≤ n) (h1 : n ≤ 9223372036854775807) : intP (Lib.itoa n) = n := by
  unfold intP; rw [pib_itoa n h0 h1]
def stepN (n : Nat) (c : UInt8) : Nat := if 48 ≤ c.toNat ∧ c.toNat ≤ 57 then (n * 10 + (c.toNat - 48)) % 18446744073709551616 else n
def natR (s : List UInt8) : Nat := s.foldl stepN 0
theorem natR_dec (u : Nat) : u < 18446744073709551616 → natR (Lib.decDigits u) = u := by
  induction u using dec_ind with
  | h1 u h =>
    intro hu
    rw [Lib.decDigits_one h]
    simp only [natR, List.foldl_cons, List.foldl_nil, stepN, dch_nat u h]
    rw [if_pos (by omega)]; omega
  | h2 u h ih =>
    intro hu
    have hi := ih (by omega)
    unfold natR at hi ⊢
    rw [dec_unfold u h, List.foldl_append, hi]
    simp only [List.foldl_cons, List.foldl_nil, stepN, dch_nat (u % 10) (by omega)]
    rw [if_pos (by omega)]; omega
def i64 (n : Int) : Int := (n + 9223372036854775808) % 18446744073709551616 - 9223372036854775808
def numberR (s : List UInt8) : Int × Bool :=
  if Lib.itoa (i64 (natR s)) = s then (i64 (natR s), true) else (i64 (-(i64 (natR s))), decide (Lib.itoa (i64 (-(i64 (natR s)))) = s))
theorem numberR_itoa (n : Int) (h0 : -9223372036854775808 ≤ n) (h1 : n ≤ 9223372036854775807) : numberR (Lib.itoa n) = (n, true) := by
  by_cases hn : n < 0
  · have hi : Lib.itoa n = 45 :: Lib.decDigits n.natAbs := by unfold Lib.itoa; rw [if_pos hn]
    have hr : natR (Lib.itoa n) = n.natAbs := by
      rw [hi]
      have : natR (45 :: Lib.decDigits n.natAbs) = natR (Lib.decDigits n.natAbs) := by
        unfold natR
        rw [List.foldl_cons]
        congr 1
      rw [this]
      exact natR_dec _ (by omega)
    unfold numberR
    rw [hr]
    by_cases hm : n = -9223372036854775808
    · subst hm
      have : i64 ((-9223372036854775808 : Int).natAbs : Int) = -9223372036854775808 := by decide
      rw [this, if_pos rfl]
    · have e1 : i64 (n.natAbs : Int) = -n := by unfold i64; omega
      have e2 : i64 (-(-n)) = n := by unfold i64; omega
      rw [e1, e2, if_neg ?_]
      · simp
      · rw [hi]
        unfold Lib.itoa
        rw [if_neg (by omega)]
        exact dec_no_minus _ _
  · have hi : Lib.itoa n = Lib.decDigits n.toNat := by unfold Lib.itoa; rw [if_neg hn]
    have hr : natR (Lib.itoa n) = n.toNat := by rw [hi]; exact natR_dec _ (by omega)
    unfold numberR
    rw [hr]
    have e1 : i64 (n.toNat : Int) = n := by unfold i64; omega
    rw [e1, if_pos rfl]
def hexC (c : UInt8) : Option Nat :=
  if 48 ≤ c.toNat ∧ c.toNat ≤ 57 then some (c.toNat - 48) else if 97 ≤ c.toNat ∧ c.toNat ≤ 102 then some (c.toNat - 87) else if 65 ≤ c.toNat ∧ c.toNat ≤ 70 then some (c.toNat - 55) else none
def hexU (M : Nat) : Nat → List UInt8 → Lib.NumEnd Nat
  | acc, [] => .ok acc
  | acc, c :: r => match hexC c with
    | none => badN
    | some d => if 1152921504606846976 ≤ acc then .range else if M < acc * 16 + d then .range else hexU M (acc * 16 + d) r
def puE (M : Nat) (l : List UInt8) : Lib.NumEnd Nat := if l = [] then badN else hexU M 0 l
def puV (M : Nat) (l : List UInt8) : Nat := match puE M l with | .ok v => v | .range => M | _ => 0
theorem hexU_le (M : Nat) : ∀ (l : List UInt8) (acc v : Nat), acc ≤ M → hexU M acc l = .ok v → v ≤ M
  | [], acc, v, h, e => by rw [hexU] at e; cases e; exact h
  | c :: r, acc, v, h, e => by
    rw [hexU] at e
    split at e
    · cases e
    · split at e
      · cases e
      · split at e
        · cases e
        · exact hexU_le M r _ v (by omega) e
theorem puV_le (M : Nat) (l : List UInt8) : puV M l ≤ M := by
  unfold puV
  split
  · rename_i v h
    unfold puE at h
    split at h
    · cases h
    · exact hexU_le M l 0 v (Nat.zero_le _) h
  · exact Nat.le_refl _
  · exact Nat.zero_le _
theorem dig_hexC : ∀ n : Fin 16, hexC (dig n.val) = some n.val := by decide +kernel
theorem dig_hexC' (n : Nat) (h : n < 16) : hexC (dig n) = some n := dig_hexC ⟨n, h⟩
theorem dig_char : ∀ n : Fin 16, (48 ≤ (dig n.val).toNat ∧ (dig n.val).toNat ≤ 57 ∧ (dig n.val).toNat = 48 + n.val) ∨ (97 ≤ (dig n.val).toNat ∧ (dig n.val).toNat ≤ 102 ∧ (dig n.val).toNat = 87 + n.val) := by decide +kernel
theorem dig_char' (n : Nat) (h : n < 16) : (48 ≤ (dig n).toNat ∧ (dig n).toNat ≤ 57 ∧ (dig n).toNat = 48 + n) ∨ (97 ≤ (dig n).toNat ∧ (dig n).toNat ≤ 102 ∧ (dig n).toNat = 87 + n) := dig_char ⟨n, h⟩
theorem hexL_char (l : List UInt8) : ∀ c ∈ hexL l, (48 ≤ c.toNat ∧ c.toNat ≤ 57) ∨ (97 ≤ c.toNat ∧ c.toNat ≤ 102) := by
  induction l with
  | nil => intro c hc; simp [hexL] at hc
  | cons a l ih =>
    have := a.toNat_lt
    intro c hc
    rw [hexL] at hc
    rcases List.mem_cons.1 hc with rfl | hc
    · rcases dig_char' (a.toNat / 16) (by omega) with h | h <;> omega
    · rcases List.mem_cons.1 hc with rfl | hc
      · rcases dig_char' (a.toNat % 16) (by omega) with h | h <;> omega
      · exact ih c hc
def unhexP : List UInt8 → List UInt8
  | a :: b :: r => UInt8.ofNat (puV 255 [a, b]) :: unhexP r
  | _ => []
theorem pu_pair (a b : Nat) (ha : a < 16) (hb : b < 16) : puV 255 [dig a, dig b] = a * 16 + b := by
  unfold puV puE
  rw [if_neg (by simp), hexU, dig_hexC' a ha]
  simp only []
  rw [if_neg (by omega), if_neg (by omega), hexU, dig_hexC' b hb]
  simp only []
  rw [if_neg (by omega), if_neg (by omega), hexU]
  simp
theorem unhexP_hexL (l : List UInt8) : unhexP (hexL l) = l := by
  induction l with
  | nil => rfl
  | cons a l ih =>
    have := a.toNat_lt
    rw [hexL, unhexP, ih, pu_pair _ _ (by omega) (by omega)]
    congr 1
    rw [show a.toNat / 16 * 16 + a.toNat % 16 = a.toNat by omega]
    exact UInt8.ofNat_toNat
def hexR (n : Nat) (c : UInt8) : Nat :=
  n * 16 + (if 48 ≤ c.toNat ∧ c.toNat ≤ 57 then c.toNat - 48 else 0) + (if 97 ≤ c.toNat ∧ c.toNat ≤ 102 then c.toNat - 97 + 10 else 0)
def unhexRL : List UInt8 → List UInt8
  | a :: b :: r => UInt8.ofNat (hexR (hexR 0 a) b) :: unhexRL r
  | _ => []
def unhexR (s : List UInt8) : List UInt8 × Bool := (unhexRL s, decide (hexL (unhexRL s) = s))
theorem hexR_dig (n a : Nat) (ha : a < 16) : hexR n (dig a) = n * 16 + a := by
  unfold hexR
  rcases dig_char' a ha with ⟨h1, h2, h3⟩ | ⟨h1, h2, h3⟩
  · rw [if_pos ⟨h1, h2⟩, if_neg (by omega)]; omega
  · rw [if_neg (by omega), if_pos ⟨h1, h2⟩]; omega
theorem unhexRL_hexL (l : List UInt8) : unhexRL (hexL l) = l := by
  induction l with
  | nil => rfl
  | cons a l ih =>
    have := a.toNat_lt
    rw [hexL, unhexRL, ih, hexR_dig _ _ (by omega), hexR_dig _ _ (by omega)]
    congr 1
    rw [show (0 * 16 + a.toNat / 16) * 16 + a.toNat % 16 = a.toNat by omega]
    exact UInt8.ofNat_toNat
theorem unhexR_hexL (l : List UInt8) : unhexR (hexL l) = (l, true) := by
  unfold unhexR; rw [unhexRL_hexL]; simp
theorem dropWhile_no (l : List UInt8) (c : UInt8) (h : ∀ x ∈ l, x ≠ c) : l.dropWhile (· == c) = l := by
  cases l with
  | nil => rfl
  | cons a l => rw [List.dropWhile_cons_of_neg]; simpa using h a (by simp)
theorem trim_quoted (l : List UInt8) (h : ∀ x ∈ l, x ≠ 34) : Lib.trimB (34 :: l ++ [34]) 34 = l := by
  unfold Lib.trimB Lib.trimRightB Lib.trimLeftB
  simp only [List.reverse_append, List.reverse_cons, List.reverse_nil, List.nil_append, List.singleton_append]
  rw [List.dropWhile_cons_of_pos (by simp)]
  by_cases hl : l = []
  · subst hl; rfl
  · have h2 : (l.reverse ++ [34]).dropWhile (· == 34) = l.reverse ++ [34] := by
      cases hr : l.reverse with
      | nil => exact absurd (List.reverse_eq_nil_iff.1 hr) hl
      | cons a r =>
        rw [List.cons_append, List.dropWhile_cons_of_neg]
        have : a ∈ l := by rw [← List.mem_reverse, hr]; simp
        simpa using h a this
    rw [h2]
    simp only [List.reverse_append, List.reverse_cons, List.reverse_nil, List.nil_append, List.singleton_append, List.reverse_reverse]
    rw [List.dropWhile_cons_of_pos (by simp)]
    exact dropWhile_no l 34 h
def hex16 (b : Nat) : List UInt8 := (List.range 16).map fun i => dig (b / 16 ^ (15 - i) % 16)
abbrev nanL : List UInt8 := [110, 97, 110]
abbrev infL : List UInt8 := [105, 110, 102]
abbrev minfL : List UInt8 := [45, 105, 110, 102]
abbrev zeroL : List UInt8 := [48]
abbrev mzeroL : List UInt8 := [45, 48]
def numC (c : Nat) : List UInt8 :=
  if c = 9221120237041090561 then nanL else if c = 9218868437227405312 then infL else if c = 18442240474082181120 then minfL else if c = 0 then zeroL else if c = 9223372036854775808 then mzeroL else 120 :: hex16 c
def numTextL (f : Nat) : List UInt8 := numC (canonB f)
theorem hex16_char (b : Nat) : ∀ c ∈ hex16 b, (48 ≤ c.toNat ∧ c.toNat ≤ 57) ∨ (97 ≤ c.toNat ∧ c.toNat ≤ 102) := by
  intro c hc
  obtain ⟨i, _, rfl⟩ := List.mem_map.1 hc
  rcases dig_char' (b / 16 ^ (15 - i) % 16) (Nat.mod_lt _ (by decide)) with h | h <;> omega
theorem numC_char (b : Nat) : ∀ c ∈ numC b, c.toNat = 45 ∨ (48 ≤ c.toNat ∧ c.toNat ≤ 57) ∨ (97 ≤ c.toNat ∧ c.toNat ≤ 122) := by
  intro c hc
  unfold numC at hc
  repeat' split at hc
  all_goals first
    | (simp only [List.mem_cons, List.not_mem_nil, or_false] at hc
       rcases hc with rfl | rfl | rfl | rfl <;> simp)
    | (simp only [List.mem_cons, List.not_mem_nil, or_false] at hc
       rcases hc with rfl | rfl | rfl <;> simp)
    | (simp only [List.mem_cons, List.not_mem_nil, or_false] at hc
       rcases hc with rfl | rfl <;> simp)
    | (simp only [List.mem_cons, List.not_mem_nil, or_false] at hc
       subst hc; simp)
    | (rcases List.mem_cons.1 hc with rfl | hc
       · simp
       · rcases hex16_char _ c hc with h | h <;> omega)
theorem hexU_append (M : Nat) (l : List UInt8) (c : UInt8) : ∀ acc, hexU M acc (l ++ [c]) = match hexU M acc l with | .ok a => hexU M a [c] | x => x := by
  induction l with
  | nil => intro acc; simp [hexU]
  | cons b l ih =>
    intro acc
    rw [List.cons_append, hexU, hexU]
    split
    · rfl
    · split
      · rfl
      · split
        · rfl
        · exact ih _
def hexK (b k : Nat) : List UInt8 := (List.range k).map fun i => dig (b / 16 ^ (15 - i) % 16)
theorem hexK_succ (b k : Nat) : hexK b (k + 1) = hexK b k ++ [dig (b / 16 ^ (15 - k) % 16)] := by
  unfold hexK; rw [List.range_succ, List.map_append]; rfl
theorem pow_pred {k : Nat} (h : k ≤ 15) : 16 ^ (16 - k) = 16 ^ (15 - k) * 16 := by
  rw [← Nat.pow_succ]; congr 1; omega
theorem hexU_hexK (b : Nat) (hb : b < 18446744073709551616) : ∀ k, k ≤ 16 → hexU 18446744073709551615 0 (hexK b k) = .ok (b / 16 ^ (16 - k))
  | 0, _ => by
    show Lib.NumEnd.ok 0 = _
    congr 1
    exact (Nat.div_eq_of_lt hb).symm
  | k + 1, hk => by
    have hp := pow_pred (k := k) (by omega)
    have hd : b / 16 ^ (16 - k) = b / 16 ^ (15 - k) / 16 := by rw [hp, Nat.div_div_eq_div_mul]
    have hle : b / 16 ^ (15 - k) ≤ b := Nat.div_le_self _ _
    rw [hexK_succ, hexU_append, hexU_hexK b hb k (by omega), hd]
    rw [show 16 - (k + 1) = 15 - k by omega]
    show hexU _ _ [_] = _
    generalize b / 16 ^ (15 - k) = q at *
    rw [hexU, dig_hexC' _ (Nat.mod_lt _ (by decide))]
    simp only []
    rw [if_neg (by omega), if_neg (by omega), hexU]
    congr 1
    omega
theorem hexU_hex16 (b : Nat) (hb : b < 18446744073709551616) : hexU 18446744073709551615 0 (hex16 b) = .ok b := by
  have := hexU_hexK b hb 16 (Nat.le_refl _)
  simpa [hexK, hex16] using this
def special (s : List UInt8) : Option Nat :=
  if s = nanL then some 9221120237041090561 else if s = infL then some 9218868437227405312 else if s = minfL then some 18442240474082181120 else if s = zeroL then some 0 else if s = mzeroL then some 9223372036854775808 else none
def numParseF (s : List UInt8) : Nat :=
  match special s with
  | some f => f
  | none => match s with
    | [] => 0
    | c :: r => if c = 120 then (match puE 18446744073709551615 r with | .ok b => if numTextL b = s then b else 0 | _ => 0) else 0
theorem special_x (l : List UInt8) : special (120 :: l) = none := by
  unfold special
  repeat (rw [if_neg (by simp)])
theorem canon_canon (f : Nat) : canonB (canonB f) = canonB f := by
  have h : nanB 9221120237041090561 = true := by decide
  unfold canonB
  by_cases hn : nanB f = true
  · rw [if_pos hn, if_pos h]
  · rw [if_neg hn, if_neg hn]
theorem canon_lt (f : Nat) (h : f < 18446744073709551616) : canonB f < 18446744073709551616 := by
  unfold canonB
  split
  · decide
  · exact h
theorem hex16_ne (b : Nat) : hex16 b ≠ [] := by simp [hex16]
theorem numParse_text (f : Nat) (h : f < 18446744073709551616) : numParseF (numTextL f) = canonB f := by
  have hlt := canon_lt f h
  have hcc := canon_canon f
  unfold numTextL
  generalize canonB f = c at *
  by_cases h1 : c = 9221120237041090561
  · subst h1; decide
  by_cases h2 : c = 9218868437227405312
  · subst h2; decide
  by_cases h3 : c = 18442240474082181120
  · subst h3; decide
  by_cases h4 : c = 0
  · subst h4; decide
  by_cases h5 : c = 9223372036854775808
  · subst h5; decide
  have hn : numC c = 120 :: hex16 c := by unfold numC; rw [if_neg h1, if_neg h2, if_neg h3, if_neg h4, if_neg h5]
  have hpu : puE 18446744073709551615 (hex16 c) = .ok c := by unfold puE; rw [if_neg (hex16_ne c), hexU_hex16 c hlt]
  have ht : numTextL c = 120 :: hex16 c := by unfold numTextL; rw [hcc, hn]
  rw [hn]
  unfold numParseF
  rw [special_x]
  simp only [if_pos]
  rw [hpu]
  simp only []
  rw [if_pos ht]
abbrev nilS : List UInt8 := [110, 105, 108]
def atomT (k n : Int) (f : Nat) (s : ByteArray) : List UInt8 :=
  if k = 1 then Lib.itoa n else if k = 2 then 35 :: numTextL f else if k = 3 then 34 :: hexL s.data.toList ++ [34] else nilS
mutual
def textT : VT → List UInt8
  | .node k n f s l => if k = 4 then 91 :: (textsT l ++ [93]) else atomT k n f s
def textsT : List VT → List UInt8
  | [] => []
  | t :: ts => textT t ++ tailT ts
def tailT : List VT → List UInt8
  | [] => []
  | t :: ts => 32 :: (textT t ++ tailT ts)
end
def textTop (t : VT) : List UInt8 := if goodT 8 t = true then textT t else []
mutual
def canonT : VT → VT
  | .node k n f s l => .node k n (canonB f) s (canonL l)
def canonL : List VT → List VT
  | [] => []
  | t :: ts => canonT t :: canonL ts
end
theorem textsT_append (l : List VT) (t : VT) (h : l ≠ []) : textsT (l ++ [t]) = textsT l ++ 32 :: textT t := by
  have ht : ∀ m : List VT, tailT (m ++ [t]) = tailT m ++ 32 :: textT t := by
    intro m
    induction m with
    | nil => rw [List.nil_append, tailT, tailT, tailT]; simp
    | cons a m ih => rw [List.cons_append, tailT, tailT, ih]; simp
  cases l with
  | nil => exact absurd rfl h
  | cons a l => rw [List.cons_append, textsT, textsT, ht]; simp
def stopC (c : UInt8) : Bool := c == 32 || c == 93
def wN (s : List UInt8) : Nat := s.findIdx stopC
def Stops (rest : List UInt8) : Prop := ∀ c, rest.head? = some c → stopC c = true
theorem wN_le (s : List UInt8) : wN s ≤ s.length := List.findIdx_le_length
theorem wN_append (a rest : List UInt8) (h : ∀ c ∈ a, stopC c = false) (hr : Stops rest) : wN (a ++ rest) = a.length := by
  unfold wN
  induction a with
  | nil =>
    cases rest with
    | nil => rfl
    | cons c r => rw [List.nil_append, List.findIdx_cons, hr c rfl]; rfl
  | cons c a ih =>
    rw [List.cons_append, List.findIdx_cons, h c (by simp), ih (fun x hx => h x (by simp [hx]))]; rfl
def zeroT : VT := .node 0 0 0 ⟨#[]⟩ []
def wordP (s : List UInt8) : VT :=
  if s.head? = some 35 then .node 2 0 (numParseF s.tail) ⟨#[]⟩ []
  else if s.head? = some 34 then .node 3 0 0 ⟨(unhexP (Lib.trimB s 34)).toArray⟩ []
  else if s = nilS then zeroT
  else .node 1 (intP s) 0 ⟨#[]⟩ []
structure Atom (k n : Int) (f : Nat) (s : ByteArray) (l : List VT) : Prop where
  kind : k = 0 ∨ k = 1 ∨ k = 2 ∨ k = 3
  nn : k = 1 ∨ n = 0
  ff : k = 2 ∨ canonB f = 0
  ss : k = 3 ∨ s = ⟨#[]⟩
  ll : l = []
theorem ba_empty {s : ByteArray} (h : s.toList = []) : s = ⟨#[]⟩ := by
  apply ByteArray.ext
  rw [ByteArray.toList_eq] at h
  exact Array.toList_eq_nil_iff.1 h
theorem atom_of {left k n : Int} {f : Nat} {s : ByteArray} {l : List VT} (h : headB left k n f s l.length = true) (hk : k ≠ 4) : Atom k n f s l := by
  unfold headB at h
  simp only [Bool.and_eq_true, Bool.or_eq_true, decide_eq_true_eq] at h
  obtain ⟨⟨⟨⟨⟨h1, h2⟩, h3⟩, h4⟩, h5⟩, -⟩ := h
  exact ⟨by omega, h2, h3, h4.imp id ba_empty, List.eq_nil_of_length_eq_zero (h5.resolve_left hk)⟩
theorem atom_chars (k n : Int) (f : Nat) (s : ByteArray) : ∀ c ∈ atomT k n f s, stopC c = false := by
  have hs : ∀ c : UInt8, c.toNat ≠ 32 → c.toNat ≠ 93 → stopC c = false := by
    intro c h1 h2
    unfold stopC
    rw [Bool.or_eq_false_iff, beq_eq_false_iff_ne, beq_eq_false_iff_ne]
    exact ⟨fun e => h1 (by rw [e]; rfl), fun e => h2 (by rw [e]; rfl)⟩
  intro c hc
  unfold atomT at hc
  split at hc
  · rcases itoa_chars n c hc with h | h <;> exact hs c (by omega) (by omega)
  · split at hc
    · rcases List.mem_cons.1 hc with rfl | hc
      · decide
      · rcases numC_char _ c hc with h | h | h <;> exact hs c (by omega) (by omega)
    · split at hc
      · rw [List.cons_append] at hc
        rcases List.mem_cons.1 hc with rfl | hc
        · decide
        · rcases List.mem_append.1 hc with hc | hc
          · rcases hexL_char _ c hc with h | h <;> exact hs c (by omega) (by omega)
          · rw [List.mem_singleton.1 hc]; decide
      · simp only [List.mem_cons, List.not_mem_nil, or_false] at hc
        rcases hc with rfl | rfl | rfl <;> decide
theorem atom_head (k n : Int) (f : Nat) (s : ByteArray) : ∃ c r, atomT k n f s = c :: r ∧ c ≠ 91 ∧ c ≠ 93 ∧ c ≠ 32 := by
  have hne : atomT k n f s ≠ [] := by
    unfold atomT
    split
    · exact itoa_ne n
    · split
      · simp
      · split <;> simp
  cases h : atomT k n f s with
  | nil => exact absurd h hne
  | cons c r =>
    have h1 := atom_chars k n f s c (by rw [h]; simp)
    refine ⟨c, r, rfl, ?_, ?_, ?_⟩
    · rintro rfl
      unfold atomT at h
      split at h
      · rcases itoa_chars n 91 (by rw [h]; simp) with h | h
        · exact absurd h (by decide)
        · exact absurd h.2 (by decide)
      · split at h
        · simp at h
        · split at h <;> simp at h
    · rintro rfl; exact absurd h1 (by decide)
    · rintro rfl; exact absurd h1 (by decide)
theorem head_itoa (n : Int) (c : UInt8) (h : ¬ (c.toNat = 45 ∨ (48 ≤ c.toNat ∧ c.toNat ≤ 57))) : (Lib.itoa n).head? ≠ some c := by
  intro e
  cases hi : Lib.itoa n with
  | nil => rw [hi] at e; cases e
  | cons a r =>
    rw [hi] at e
    cases e
    exact h (itoa_chars n c (by rw [hi]; simp))
theorem itoa_nil (n : Int) : Lib.itoa n ≠ nilS := by
  intro e
  rcases itoa_chars n 110 (by rw [e]; simp) with h | h
  · exact absurd h (by decide)
  · exact absurd h.2 (by decide)
theorem hexL_no34 (l : List UInt8) : ∀ x ∈ hexL l, x ≠ 34 := by
  intro x hx e
  subst e
  rcases hexL_char l _ hx with h | h
  · exact absurd h.1 (by decide)
  · exact absurd h.1 (by decide)
theorem ba_data (s : ByteArray) : (⟨s.data.toList.toArray⟩ : ByteArray) = s := by cases s; simp
theorem wordP_atom {k n : Int} {f : Nat} {s : ByteArray} {l : List VT} (h : Atom k n f s l) (hn : -9223372036854775808 ≤ n ∧ n ≤ 9223372036854775807) (hf : f < 18446744073709551616) :
    wordP (atomT k n f s) = canonT (.node k n f s l) := by
  obtain ⟨hk, h1, h2, h3, h4⟩ := h
  subst h4
  rw [canonT, canonL]
  rcases hk with rfl | rfl | rfl | rfl
  · obtain rfl := h1.resolve_left (by decide)
    have h2 := h2.resolve_left (by decide)
    obtain rfl := h3.resolve_left (by decide)
    rw [h2]
    rfl
  · have h2 := h2.resolve_left (by decide)
    obtain rfl := h3.resolve_left (by decide)
    rw [h2]
    have ha : atomT 1 n f ⟨#[]⟩ = Lib.itoa n := by unfold atomT; rw [if_pos rfl]
    rw [ha]
    unfold wordP
    rw [if_neg (head_itoa n 35 (by decide)), if_neg (head_itoa n 34 (by decide)), if_neg (itoa_nil n), intP_itoa n hn.1 hn.2]
  · obtain rfl := h1.resolve_left (by decide)
    obtain rfl := h3.resolve_left (by decide)
    have ha : atomT 2 0 f ⟨#[]⟩ = 35 :: numTextL f := by unfold atomT; rw [if_neg (by decide), if_pos rfl]
    rw [ha]
    unfold wordP
    rw [if_pos (by simp), List.tail_cons, numParse_text f hf]
  · obtain rfl := h1.resolve_left (by decide)
    have h2 := h2.resolve_left (by decide)
    rw [h2]
    have ha : atomT 3 0 f s = 34 :: hexL s.data.toList ++ [34] := by unfold atomT; rw [if_neg (by decide), if_neg (by decide), if_pos rfl]
    rw [ha]
    unfold wordP
    rw [if_neg (by simp), if_pos (by simp), trim_quoted _ (hexL_no34 _), unhexP_hexL, ba_data]
def loopP (p : List UInt8 → VT × List UInt8) : Nat → List UInt8 → List VT → List VT × List UInt8
  | 0, s, acc => (acc, s)
  | n + 1, s, acc =>
    match s with
    | [] => (acc, [])
    | c :: r =>
      if c = 93 then (acc, r)
      else
        match (p s).2 with
        | [] => (acc ++ [(p s).1], [])
        | d :: q => if d = 32 then loopP p n q (acc ++ [(p s).1]) else if d = 93 then (acc ++ [(p s).1], q) else (acc ++ [(p s).1], d :: q)
def listP (p : List UInt8 → VT × List UInt8) (s : List UInt8) : VT × List UInt8 := (.node 4 0 0 ⟨#[]⟩ (loopP p s.length s []).1, (loopP p s.length s []).2)
def parseP : Nat → List UInt8 → VT × List UInt8
  | 0, s => (wordP (s.take (wN s)), s.drop (wN s))
  | k + 1, s => if s.head? = some 91 then listP (parseP k) s.tail else (wordP (s.take (wN s)), s.drop (wN s))
theorem stops_93 (r : List UInt8) : Stops (93 :: r) := by intro c hc; cases hc; rfl
theorem stops_32 (r : List UInt8) : Stops (32 :: r) := by intro c hc; cases hc; rfl
theorem textT_head (t : VT) : ∃ c r, textT t = c :: r ∧ c ≠ 93 ∧ c ≠ 32 := by
  cases t with
  | node k n f s l =>
    rw [textT]
    split
    · exact ⟨91, _, rfl, by decide, by decide⟩
    · obtain ⟨c, r, h1, _, h2, h3⟩ := atom_head k n f s
      exact ⟨c, r, h1, h2, h3⟩
theorem atom_parse (k n : Int) (f : Nat) (s : ByteArray) (rest : List UInt8) (hr : Stops rest) :
    (atomT k n f s ++ rest).take (wN (atomT k n f s ++ rest)) = atomT k n f s ∧ (atomT k n f s ++ rest).drop (wN (atomT k n f s ++ rest)) = rest ∧ (atomT k n f s ++ rest).head? ≠ some 91 := by
  rw [wN_append _ rest (atom_chars k n f s) hr]
  refine ⟨by simp, by simp, ?_⟩
  obtain ⟨c, r, h, h2, -⟩ := atom_head k n f s
  rw [h]
  simpa using h2
theorem loopP_text (p : List UInt8 → VT × List UInt8) (ts : List VT) (hp : ∀ t ∈ ts, ∀ rest, Stops rest → p (textT t ++ rest) = (canonT t, rest)) (rest : List UInt8) : ∀ (t : VT) (us : List VT) (acc : List VT) (n : Nat), (∀ u ∈ t :: us, u ∈ ts) →
    us.length + 1 ≤ n → loopP p n (textT t ++ tailT us ++ 93 :: rest) acc = (acc ++ canonT t :: canonL us, rest) := by
  intro t us
  induction us generalizing t with
  | nil =>
    intro acc n hin hn
    obtain ⟨m, rfl⟩ : ∃ m, n = m + 1 := ⟨n - 1, by simp at hn; omega⟩
    obtain ⟨c, r, hc, h93, -⟩ := textT_head t
    rw [tailT, List.append_nil, loopP.eq_def]
    have hps := hp t (hin t (by simp)) (93 :: rest) (stops_93 rest)
    rw [hc, List.cons_append] at hps ⊢
    simp only []
    rw [if_neg h93, hps]
    simp only []
    rw [if_neg (by decide), if_pos trivial, canonL]
  | cons u us ih =>
    intro acc n hin hn
    obtain ⟨m, rfl⟩ : ∃ m, n = m + 1 := ⟨n - 1, by simp at hn; omega⟩
    obtain ⟨c, r, hc, h93, -⟩ := textT_head t
    have hps := hp t (hin t (by simp)) (32 :: (textT u ++ tailT us ++ 93 :: rest)) (stops_32 _)
    have he : textT t ++ tailT (u :: us) ++ 93 :: rest = textT t ++ 32 :: (textT u ++ tailT us ++ 93 :: rest) := by rw [tailT]; simp
    rw [he, loopP.eq_def]
    rw [hc, List.cons_append] at hps ⊢
    simp only []
    rw [if_neg h93, hps]
    simp only []
    rw [if_pos trivial, ih u (acc ++ [canonT t]) m (fun x hx => hin x (by simp at hx ⊢; exact .inr hx)) (by simp at hn ⊢; omega), canonL]
    simp
theorem tail_length (us : List VT) : us.length ≤ (tailT us).length := by
  induction us with
  | nil => simp
  | cons u us ih => rw [tailT, List.length_cons, List.length_cons, List.length_append]; omega
theorem list_of {left k n : Int} {f : Nat} {s : ByteArray} {l : List VT} (h : headB left k n f s l.length = true) (hk : k = 4) : n = 0 ∧ canonB f = 0 ∧ s = ⟨#[]⟩ ∧ left ≠ 0 := by
  subst hk
  unfold headB at h
  simp at h
  obtain ⟨⟨⟨h1, h2⟩, h3⟩, h4⟩ := h
  exact ⟨h1, h2, ba_empty h3, h4⟩
theorem parseP_text (t : VT) : ∀ (k : Nat) (rest : List UInt8), goodT k t = true → wfT t → Stops rest → parseP k (textT t ++ rest) = (canonT t, rest) := by
  induction t using VT.ind with
  | _ kk n f s l ih =>
    intro k rest hg hw hr
    rw [goodT, Bool.and_eq_true] at hg
    obtain ⟨hh, hl⟩ := hg
    rw [wfT] at hw
    obtain ⟨hwk, hwn, hwf, hws, hwl⟩ := hw
    by_cases hk : kk = 4
    · obtain ⟨rfl, hf, rfl, h0⟩ := list_of hh hk
      obtain ⟨m, rfl⟩ : ∃ m, k = m + 1 := ⟨k - 1, by omega⟩
      rw [show ((m + 1 : Nat) : Int) - 1 = (m : Int) by omega] at hl
      have hp : ∀ t ∈ l, ∀ rest, Stops rest → parseP m (textT t ++ rest) = (canonT t, rest) := fun t ht rest hr => ih t ht m rest ((goodL_iff _ _).1 hl t ht) ((wfL_iff l).1 hwl t ht) hr
      have hc : canonT (.node kk 0 f ⟨#[]⟩ l) = .node 4 0 0 ⟨#[]⟩ (canonL l) := by rw [canonT, hf, hk]
      rw [hc, textT, if_pos hk, parseP, List.cons_append, if_pos (by simp), List.tail_cons]
      unfold listP
      cases l with
      | nil =>
        rw [textsT, List.nil_append, List.singleton_append, List.length_cons, loopP.eq_def, canonL]
        rfl
      | cons t us =>
        have he : textsT (t :: us) ++ [93] ++ rest = textT t ++ tailT us ++ 93 :: rest := by rw [textsT]; simp
        rw [he, loopP_text (parseP m) (t :: us) hp rest t us [] _ (fun u hu => hu) (by
          have := tail_length us
          simp only [List.length_append, List.length_cons]; omega), canonL, List.nil_append]
    · have ha := atom_of hh hk
      obtain ⟨h1, h2, h3⟩ := atom_parse kk n f s rest hr
      have ht : textT (.node kk n f s l) = atomT kk n f s := by rw [textT, if_neg hk]
      rw [ht, ← wordP_atom ha hwn hwf]
      cases k with
      | zero => rw [parseP, h1, h2]
      | succ k => rw [parseP, if_neg h3, h1, h2]
def ParseP (s : List UInt8) : VT × Bool := if s ≠ [] ∧ textTop (parseP 8 s).1 = s then ((parseP 8 s).1, true) else (zeroT, false)
theorem stops_nil : Stops [] := by intro c hc; cases hc
theorem intP_bounds (s : List UInt8) : -9223372036854775808 ≤ intP s ∧ intP s ≤ 9223372036854775807 := by
  unfold intP
  split
  · rename_i v h
    have := Lib.parseIntB_bounds h
    have e : ((2 ^ (64 - 1) : Nat) : Int) = 9223372036854775808 := by decide
    rw [e] at this; omega
  · unfold Lib.intSat
    have e : (2 ^ (64 - 1) : Nat) = 9223372036854775808 := by decide
    have e2 : (2 ^ (64 - 1) - 1 : Nat) = 9223372036854775807 := by decide
    split
    · rw [e]; omega
    · rw [e2]; omega
  · omega
theorem special_lt {s : List UInt8} {f : Nat} (h : special s = some f) : f < 18446744073709551616 := by
  unfold special at h
  repeat' split at h
  all_goals first
    | (cases h; decide)
    | cases h
theorem numParseF_lt (s : List UInt8) : numParseF s < 18446744073709551616 := by
  unfold numParseF
  split
  · rename_i f h; exact special_lt h
  · split
    · decide
    · split
      · split
        · rename_i b hb
          split
          · unfold puE at hb
            split at hb
            · cases hb
            · have := hexU_le 18446744073709551615 _ 0 b (Nat.zero_le _) hb
              omega
          · decide
        · decide
      · decide
theorem i64_bounds (n : Int) : -9223372036854775808 ≤ i64 n ∧ i64 n ≤ 9223372036854775807 := by unfold i64; omega
theorem numberR_bounds (s : List UInt8) : -9223372036854775808 ≤ (numberR s).1 ∧ (numberR s).1 ≤ 9223372036854775807 := by
  unfold numberR
  split
  · exact i64_bounds _
  · exact i64_bounds _
theorem unhexP_length : ∀ l : List UInt8, (unhexP l).length ≤ l.length
  | [] => by simp [unhexP]
  | [a] => by simp [unhexP]
  | a :: b :: r => by
    have := unhexP_length r
    rw [unhexP]; simp only [List.length_cons]; omega
theorem unhexRL_length : ∀ l : List UInt8, (unhexRL l).length ≤ l.length
  | [] => by simp [unhexRL]
  | [a] => by simp [unhexRL]
  | a :: b :: r => by
    have := unhexRL_length r
    rw [unhexRL]; simp only [List.length_cons]; omega
theorem dropWhile_length (p : UInt8 → Bool) (l : List UInt8) : (l.dropWhile p).length ≤ l.length := by
  induction l with
  | nil => simp
  | cons a l ih =>
    rw [List.dropWhile_cons]
    split
    · simp only [List.length_cons]; omega
    · exact Nat.le_refl _
theorem trimB_length (l : List UInt8) (c : UInt8) : (Lib.trimB l c).length ≤ l.length := by
  unfold Lib.trimB Lib.trimLeftB Lib.trimRightB
  refine Nat.le_trans (dropWhile_length _ _) ?_
  rw [List.length_reverse]
  refine Nat.le_trans (dropWhile_length _ _) ?_
  rw [List.length_reverse]; exact Nat.le_refl _
theorem mk_size (l : List UInt8) : (⟨l.toArray⟩ : ByteArray).size = l.length := by
  show l.toArray.size = _
  simp
theorem zeroT_wf : wfT zeroT := by
  unfold zeroT
  rw [wfT, wfL]
  refine ⟨by omega, by omega, by decide, ?_, trivial⟩
  exact Nat.zero_le _
theorem wordP_wf (s : List UInt8) (h : s.length ≤ maxLen) : wfT (wordP s) := by
  unfold wordP
  split
  · rw [wfT, wfL]
    refine ⟨by omega, by omega, ?_, Nat.zero_le _, trivial⟩
    exact numParseF_lt _
  · split
    · rw [wfT, wfL]
      refine ⟨by omega, by omega, by decide, ?_, trivial⟩
      rw [mk_size]
      exact Nat.le_trans (unhexP_length _) (Nat.le_trans (trimB_length _ _) h)
    · split
      · exact zeroT_wf
      · rw [wfT, wfL]
        exact ⟨by omega, intP_bounds s, by decide, Nat.zero_le _, trivial⟩
theorem wfL_append (l m : List VT) (h1 : wfL l) (h2 : wfL m) : wfL (l ++ m) := by
  rw [wfL_iff] at *
  intro t ht
  rcases List.mem_append.1 ht with h | h
  · exact h1 t h
  · exact h2 t h
theorem wfL_one (t : VT) (h : wfT t) : wfL [t] := by rw [wfL, wfL]; exact ⟨h, trivial⟩
def OkP (p : List UInt8 → VT × List UInt8) : Prop := ∀ s, s.length ≤ maxLen → wfT (p s).1 ∧ (p s).2.length ≤ s.length
theorem loopP_ok (p : List UInt8 → VT × List UInt8) (hp : OkP p) : ∀ (n : Nat) (s : List UInt8) (acc : List VT), s.length ≤ maxLen → wfL acc → wfL (loopP p n s acc).1 ∧ (loopP p n s acc).2.length ≤ s.length
  | 0, s, acc, h, ha => by rw [loopP]; exact ⟨ha, Nat.le_refl _⟩
  | n + 1, s, acc, h, ha => by
    rw [loopP.eq_def]
    simp only []
    split
    · exact ⟨ha, Nat.le_refl _⟩
    · rename_i c r
      split
      · exact ⟨ha, by simp⟩
      · obtain ⟨h1, h2⟩ := hp (c :: r) h
        have hw := wfL_append acc _ ha (wfL_one _ h1)
        split
        · exact ⟨hw, by simp⟩
        · rename_i d q he
          rw [he] at h2
          simp only [List.length_cons] at h2 h
          split
          · obtain ⟨h3, h4⟩ := loopP_ok p hp n q (acc ++ [(p (c :: r)).1]) (by omega) hw
            exact ⟨h3, by simp only [List.length_cons]; omega⟩
          · split
            · exact ⟨hw, by simp only [List.length_cons]; omega⟩
            · exact ⟨hw, by simp only [List.length_cons]; omega⟩
theorem node4_wf (l : List VT) (h : wfL l) : wfT (.node 4 0 0 ⟨#[]⟩ l) := by
  rw [wfT]
  exact ⟨by omega, by omega, by decide, Nat.zero_le _, h⟩
theorem parseP_ok : ∀ k, OkP (parseP k)
  | 0, s, h => by
    rw [parseP]
    exact ⟨wordP_wf _ (by rw [List.length_take]; omega), by rw [List.length_drop]; omega⟩
  | k + 1, s, h => by
    rw [parseP]
    split
    · unfold listP
      obtain ⟨h1, h2⟩ := loopP_ok _ (parseP_ok k) s.tail.length s.tail [] (by rw [List.length_tail]; omega) (by rw [wfL]; trivial)
      exact ⟨node4_wf _ h1, by rw [List.length_tail] at h2; simp only [List.length_tail] at *; omega⟩
    · exact ⟨wordP_wf _ (by rw [List.length_take]; omega), by rw [List.length_drop]; omega⟩
end Go.Proofs.YtpijpeocdlnhiaaGreatDoor
