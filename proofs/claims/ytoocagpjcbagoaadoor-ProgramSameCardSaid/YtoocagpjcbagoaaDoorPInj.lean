/- The text of right programs says what they are: joining is one to one where no part holds the separator's mark; no program in sight. -/
import Derived.Test.YtoocagpjcbagoaaDoorPStep2
import Derived.Lib.ItoaMem
namespace Go.Proofs.YtoocagpjcbagoaaDoor
set_option linter.unusedVariables false
set_option linter.unusedSimpArgs false
open Go.RowKit

theorem split_at {c : UInt8} : ∀ {a b x y : List UInt8}, c ∉ a → c ∉ b → a ++ c :: x = b ++ c :: y → a = b ∧ x = y
  | [], [], x, y, _, _, h => by simp at h; exact ⟨rfl, h⟩
  | [], d :: b, x, y, _, hb, h => by simp at h; exact absurd h.1 (fun e => hb (by simp [e]))
  | d :: a, [], x, y, ha, _, h => by simp at h; exact absurd h.1.symm (fun e => ha (by simp [e]))
  | d :: a, e :: b, x, y, ha, hb, h => by
    simp only [List.cons_append, List.cons.injEq] at h
    obtain ⟨rfl, h⟩ := h
    have := split_at (fun hm => ha (List.mem_cons_of_mem _ hm)) (fun hm => hb (List.mem_cons_of_mem _ hm)) h
    exact ⟨by rw [this.1], this.2⟩

theorem join_cons2 (x y : List UInt8) (r : List (List UInt8)) (s : List UInt8) : Lib.join (x :: y :: r) s = x ++ (s ++ Lib.join (y :: r) s) := by
  simp [Lib.join, List.intercalate, List.intersperse]
theorem join_one (x : List UInt8) (s : List UInt8) : Lib.join [x] s = x := by simp [Lib.join, List.intercalate]

theorem join_inj {c : UInt8} {pre post : List UInt8} (hpre : c ∉ pre) : ∀ {a b : List (List UInt8)}, a ≠ [] → b ≠ [] → (∀ x ∈ a, c ∉ x) → (∀ x ∈ b, c ∉ x) →
    Lib.join a (pre ++ c :: post) = Lib.join b (pre ++ c :: post) → a = b
  | [], _, h, _, _, _, _ => absurd rfl h
  | _, [], _, h, _, _, _ => absurd rfl h
  | [x], [y], _, _, _, _, h => by rw [join_one, join_one] at h; rw [h]
  | [x], y :: z :: b, _, _, ha, _, h => by
    rw [join_one, join_cons2] at h
    exact absurd (by rw [h]; simp) (ha x (by simp))
  | x :: w :: a, [y], _, _, _, hb, h => by
    rw [join_one, join_cons2] at h
    exact absurd (by rw [← h]; simp) (hb y (by simp))
  | x :: w :: a, y :: z :: b, _, _, ha, hb, h => by
    rw [join_cons2, join_cons2] at h
    have h' : (x ++ pre) ++ c :: (post ++ Lib.join (w :: a) (pre ++ c :: post)) = (y ++ pre) ++ c :: (post ++ Lib.join (z :: b) (pre ++ c :: post)) := by simpa using h
    have hx : c ∉ x ++ pre := by simp [ha x (by simp), hpre]
    have hy : c ∉ y ++ pre := by simp [hb y (by simp), hpre]
    obtain ⟨h1, h2⟩ := split_at hx hy h'
    have h3 := List.append_cancel_left h2
    have := join_inj hpre (by simp) (by simp) (fun u hu => ha u (by simp at hu ⊢; right; exact hu)) (fun u hu => hb u (by simp at hu ⊢; right; exact hu)) h3
    rw [List.append_cancel_right h1, this]

/-! Numerals. -/
def dval : List UInt8 → Nat → Nat
  | [], a => a
  | c :: l, a => dval l (10 * a + (c.toNat - 48))
theorem dval_append (a b : List UInt8) : ∀ k, dval (a ++ b) k = dval b (dval a k) := by
  induction a with
  | nil => intro k; rfl
  | cons c a ih => intro k; exact ih _
theorem digit_nat (i : Nat) (h : i < 10) : (UInt8.ofNat (48 + i)).toNat = 48 + i := by
  rw [UInt8.toNat_ofNat']; omega
theorem dval_dec (u : Nat) : dval (Lib.decDigits u) 0 = u := by
  induction u using Nat.strongRecOn with
  | ind u ih =>
    rw [Lib.decDigits]
    split
    · rename_i h
      simp only [dval, Nat.mul_zero, Nat.zero_add]
      rw [digit_nat u h]; omega
    · rename_i h
      rw [dval_append, ih (u / 10) (by omega)]
      simp only [dval]
      rw [digit_nat _ (by omega)]; omega
theorem dec_digit (u : Nat) : ∀ c ∈ Lib.decDigits u, 48 ≤ c.toNat ∧ c.toNat ≤ 57 := by
  induction u using Nat.strongRecOn with
  | ind u ih =>
    intro c hc
    rw [Lib.decDigits] at hc
    split at hc
    · rename_i h
      rw [List.mem_singleton.1 hc, digit_nat u h]; omega
    · rename_i h
      rcases List.mem_append.1 hc with h1 | h1
      · exact ih _ (by omega) c h1
      · rw [List.mem_singleton.1 h1, digit_nat _ (by omega)]; omega
theorem itoa_char (n : Int) : ∀ c ∈ Lib.itoa n, c.toNat = 45 ∨ (48 ≤ c.toNat ∧ c.toNat ≤ 57) := by
  intro c hc
  unfold Lib.itoa at hc
  split at hc
  · rcases List.mem_cons.1 hc with rfl | h
    · exact .inl rfl
    · exact .inr (dec_digit _ c h)
  · exact .inr (dec_digit _ c hc)
theorem itoa_inj {m n : Int} (h : Lib.itoa m = Lib.itoa n) : m = n := by
  unfold Lib.itoa at h
  split at h <;> split at h <;> rename_i h1 h2
  · simp only [List.cons.injEq, true_and] at h
    have := congrArg (fun l => dval l 0) h
    simp only [dval_dec] at this
    omega
  · have h3 := dec_digit n.toNat 45 (by rw [← h]; simp)
    simp at h3
  · have h3 := dec_digit m.toNat 45 (by rw [h]; simp)
    simp at h3
  · have := congrArg (fun l => dval l 0) h
    simp only [dval_dec] at this
    omega

/-! Texts in hexadecimal digits. -/
theorem dig_inj16 : ∀ a b : Fin 16, dig a.val = dig b.val → a = b := by decide +kernel
theorem dig_char16 : ∀ a : Fin 16, (dig a.val).toNat ≠ 59 ∧ (dig a.val).toNat ≠ 124 := by decide +kernel
theorem hexL_inj : ∀ {a b : List UInt8}, hexL a = hexL b → a = b
  | [], [], _ => rfl
  | [], c :: b, h => by simp [hexL] at h
  | c :: a, [], h => by simp [hexL] at h
  | c :: a, d :: b, h => by
    simp only [hexL, List.cons_append, List.nil_append, List.cons.injEq] at h
    obtain ⟨h1, h2, h3⟩ := h
    have hc := c.toNat_lt
    have hd := d.toNat_lt
    have e1 := dig_inj16 ⟨c.toNat / 16, by omega⟩ ⟨d.toNat / 16, by omega⟩ h1
    have e2 := dig_inj16 ⟨c.toNat % 16, by omega⟩ ⟨d.toNat % 16, by omega⟩ h2
    simp only [Fin.mk.injEq] at e1 e2
    have : c.toNat = d.toNat := by omega
    rw [hexL_inj h3, UInt8.toNat_inj.1 this]
theorem hexL_char : ∀ (a : List UInt8), ∀ c ∈ hexL a, c.toNat ≠ 59 ∧ c.toNat ≠ 124
  | [], c, h => by simp [hexL] at h
  | d :: a, c, h => by
    simp only [hexL, List.cons_append, List.nil_append, List.mem_cons] at h
    have hd := d.toNat_lt
    rcases h with rfl | rfl | h
    · exact dig_char16 ⟨d.toNat / 16, by omega⟩
    · exact dig_char16 ⟨d.toNat % 16, by omega⟩
    · exact hexL_char a c h

/-! Steps. -/
def wordB (k : Int) : List UInt8 := (wordsL.getD k.toNat ⟨#[]⟩).data.toList
def sufB (x : ST) : List UInt8 := if x.k ∈ numL then 32 :: Lib.itoa x.n else if x.k ∈ namL then 32 :: (34 :: hexL x.s.data.toList ++ [34]) else []
theorem ba_list (a b : ByteArray) : (a ++ b).data.toList = a.data.toList ++ b.data.toList := by simp
theorem stext_list (x : ST) : (stextB x).data.toList = wordB x.k ++ sufB x := by
  unfold stextB sufB wordB
  split
  · rw [ba_list, ba_list]; rfl
  · split
    · rw [ba_list, ba_list]; rfl
    · simp
/-- What every right step is like. -/
def NormS (x : ST) : Prop := 1 ≤ x.k ∧ x.k ≤ 12 ∧ (x.k ∉ numL → x.n = 0) ∧ (x.k ∉ namL → x.s = ⟨#[]⟩)
theorem word_all : ∀ i : Fin 13, ∀ c ∈ (wordsL.getD i.val ⟨#[]⟩).data.toList, c ≠ 32 ∧ c ≠ 59 ∧ c ≠ 124 := by decide +kernel
theorem word_inj : ∀ i j : Fin 13, (wordsL.getD i.val ⟨#[]⟩).data.toList = (wordsL.getD j.val ⟨#[]⟩).data.toList → i = j := by decide +kernel
theorem wordB_char {x : ST} (h : NormS x) : ∀ c ∈ wordB x.k, c ≠ 32 ∧ c ≠ 59 ∧ c ≠ 124 := word_all ⟨x.k.toNat, by have := h.1; have := h.2.1; omega⟩
theorem wordB_inj {x y : ST} (h : NormS x) (h' : NormS y) (e : wordB x.k = wordB y.k) : x.k = y.k := by
  have := h.1; have := h.2.1; have := h'.1; have := h'.2.1
  have e2 := word_inj ⟨x.k.toNat, by omega⟩ ⟨y.k.toNat, by omega⟩ e
  simp only [Fin.mk.injEq] at e2
  omega
theorem sufB_char (x : ST) : ∀ c ∈ sufB x, c ≠ 59 ∧ c ≠ 124 := by
  intro c hc
  have key : c.toNat ≠ 59 ∧ c.toNat ≠ 124 → c ≠ 59 ∧ c ≠ 124 := fun h => ⟨fun e => h.1 (by rw [e]; rfl), fun e => h.2 (by rw [e]; rfl)⟩
  apply key
  unfold sufB at hc
  split at hc
  · rcases List.mem_cons.1 hc with rfl | h
    · decide
    · rcases itoa_char _ c h with h1 | h1 <;> omega
  · split at hc
    · simp only [List.mem_cons, List.cons_append, List.mem_append, List.not_mem_nil, or_false] at hc
      rcases hc with rfl | rfl | h | rfl
      · decide
      · decide
      · exact hexL_char _ c h
      · decide
    · cases hc
theorem stext_char {x : ST} (h : NormS x) : ∀ c ∈ (stextB x).data.toList, c ≠ 59 ∧ c ≠ 124 := by
  intro c hc
  rw [stext_list] at hc
  rcases List.mem_append.1 hc with h1 | h1
  · exact (wordB_char h c h1).2
  · exact sufB_char x c h1
theorem ST.ext' {x y : ST} (h1 : x.k = y.k) (h2 : x.n = y.n) (h3 : x.s = y.s) : x = y := by cases x; cases y; simp_all
theorem stext_inj {x y : ST} (h : NormS x) (h' : NormS y) (e : (stextB x).data.toList = (stextB y).data.toList) : x = y := by
  rw [stext_list, stext_list] at e
  have hx32 : (32 : UInt8) ∉ wordB x.k := fun hm => (wordB_char h 32 hm).1 rfl
  have hy32 : (32 : UInt8) ∉ wordB y.k := fun hm => (wordB_char h' 32 hm).1 rfl
  have hk : x.k = y.k ∧ sufB x = sufB y := by
    rcases hsx : sufB x with _ | ⟨a, u⟩ <;> rcases hsy : sufB y with _ | ⟨b, v⟩
    · rw [hsx, hsy, List.append_nil, List.append_nil] at e
      exact ⟨wordB_inj h h' e, rfl⟩
    · have hb : b = 32 := by unfold sufB at hsy; split at hsy; exact (List.cons.inj hsy).1.symm; split at hsy; exact (List.cons.inj hsy).1.symm; cases hsy
      subst hb
      rw [hsx, hsy, List.append_nil] at e
      exact absurd (by rw [e]; simp) hx32
    · have ha : a = 32 := by unfold sufB at hsx; split at hsx; exact (List.cons.inj hsx).1.symm; split at hsx; exact (List.cons.inj hsx).1.symm; cases hsx
      subst ha
      rw [hsx, hsy, List.append_nil] at e
      exact absurd (by rw [← e]; simp) hy32
    · have hb : b = 32 := by unfold sufB at hsy; split at hsy; exact (List.cons.inj hsy).1.symm; split at hsy; exact (List.cons.inj hsy).1.symm; cases hsy
      have ha : a = 32 := by unfold sufB at hsx; split at hsx; exact (List.cons.inj hsx).1.symm; split at hsx; exact (List.cons.inj hsx).1.symm; cases hsx
      subst ha; subst hb
      rw [hsx, hsy] at e
      obtain ⟨h1, h2⟩ := split_at hx32 hy32 e
      exact ⟨wordB_inj h h' h1, by rw [h2]⟩
  obtain ⟨hk, hs⟩ := hk
  unfold sufB at hs
  rw [← hk] at hs
  by_cases c1 : x.k ∈ numL
  · rw [if_pos c1, if_pos c1] at hs
    have hn : x.k ∉ namL := by simp only [numL, namL, List.mem_cons, List.not_mem_nil, or_false] at *; omega
    exact ST.ext' hk (itoa_inj (List.cons.inj hs).2) ((h.2.2.2 hn).trans (h'.2.2.2 (by rw [← hk]; exact hn)).symm)
  rw [if_neg c1, if_neg c1] at hs
  have hn0 : x.n = y.n := (h.2.2.1 c1).trans (h'.2.2.1 (by rw [← hk]; exact c1)).symm
  by_cases c2 : x.k ∈ namL
  · rw [if_pos c2, if_pos c2] at hs
    have h3 := hexL_inj (List.append_cancel_right (List.cons.inj (List.cons.inj hs).2).2)
    exact ST.ext' hk hn0 (by
      have h4 := Array.toList_inj.1 h3
      exact ByteArray.ext h4)
  · exact ST.ext' hk hn0 ((h.2.2.2 c2).trans (h'.2.2.2 (by rw [← hk]; exact c2)).symm)

/-! Routines and programs. -/
def lrT (l : List ST) : List UInt8 := Lib.join (l.map fun x => (stextB x).data.toList) [59, 32]
def lpT (P : List (List ST)) : List UInt8 := Lib.join (P.map lrT) [32, 124, 32]
theorem stext_ne {x : ST} (h : NormS x) : (stextB x).data.toList ≠ [] := by
  rw [stext_list]
  intro e
  have e2 := (List.append_eq_nil_iff.1 e).1
  have := h.1; have := h.2.1
  have h0 : ∀ i : Fin 13, (wordsL.getD i.val ⟨#[]⟩).data.toList = [] → i.val = 0 := by decide +kernel
  have := h0 ⟨x.k.toNat, by omega⟩ e2
  simp only at this
  omega
theorem join_ne {a : List UInt8} {r : List (List UInt8)} {s : List UInt8} (h : a ≠ []) : Lib.join (a :: r) s ≠ [] := by
  cases r with
  | nil => rw [join_one]; exact h
  | cons b r => rw [join_cons2]; exact fun e => h (List.append_eq_nil_iff.1 e).1
theorem join_char {c : UInt8} {s : List UInt8} (hs : c ∉ s) : ∀ {a : List (List UInt8)}, (∀ x ∈ a, c ∉ x) → c ∉ Lib.join a s
  | [], _ => by simp [Lib.join]
  | [x], h => by rw [join_one]; exact h x (by simp)
  | x :: y :: r, h => by
    rw [join_cons2]
    simp only [List.mem_append, not_or]
    exact ⟨h x (by simp), hs, join_char hs (fun u hu => h u (List.mem_cons_of_mem _ hu))⟩
theorem lrT_inj {a b : List ST} (ha : ∀ x ∈ a, NormS x) (hb : ∀ x ∈ b, NormS x) (h : lrT a = lrT b) : a = b := by
  cases a with
  | nil =>
    cases b with
    | nil => rfl
    | cons y b => exact absurd h.symm (join_ne (stext_ne (hb y (by simp))))
  | cons x a =>
    cases b with
    | nil => exact absurd h (join_ne (stext_ne (ha x (by simp))))
    | cons y b =>
      have h1 := join_inj (c := 59) (pre := []) (post := [32]) (by simp) (by simp) (by simp)
        (fun u hu => by obtain ⟨z, hz, rfl⟩ := List.mem_map.1 hu; exact fun hm => (stext_char (ha z hz) 59 hm).1 rfl)
        (fun u hu => by obtain ⟨z, hz, rfl⟩ := List.mem_map.1 hu; exact fun hm => (stext_char (hb z hz) 59 hm).1 rfl) h
      generalize hA : x :: a = A at *
      generalize hB : y :: b = B at *
      clear hA hB h
      induction A generalizing B with
      | nil => cases B with
        | nil => rfl
        | cons z B => cases h1
      | cons z A ih => cases B with
        | nil => cases h1
        | cons u B =>
          simp only [List.map_cons, List.cons.injEq] at h1
          rw [stext_inj (ha z (by simp)) (hb u (by simp)) h1.1, ih (fun v hv => ha v (List.mem_cons_of_mem _ hv)) B (fun v hv => hb v (List.mem_cons_of_mem _ hv)) h1.2]
theorem lpT_inj {P Q : List (List ST)} (hP : P ≠ []) (hQ : Q ≠ []) (ha : ∀ r ∈ P, ∀ x ∈ r, NormS x) (hb : ∀ r ∈ Q, ∀ x ∈ r, NormS x) (h : lpT P = lpT Q) : P = Q := by
  have h1 := join_inj (c := 124) (pre := [32]) (post := [32]) (by decide) (by simpa using hP) (by simpa using hQ)
    (fun u hu => by obtain ⟨r, hr, rfl⟩ := List.mem_map.1 hu; exact join_char (by decide) (fun v hv => by obtain ⟨z, hz, rfl⟩ := List.mem_map.1 hv; exact fun hm => (stext_char (ha r hr z hz) 124 hm).2 rfl))
    (fun u hu => by obtain ⟨r, hr, rfl⟩ := List.mem_map.1 hu; exact join_char (by decide) (fun v hv => by obtain ⟨z, hz, rfl⟩ := List.mem_map.1 hv; exact fun hm => (stext_char (hb r hr z hz) 124 hm).2 rfl)) h
  clear h hP hQ
  induction P generalizing Q with
  | nil => cases Q with
    | nil => rfl
    | cons z B => cases h1
  | cons z A ih => cases Q with
    | nil => cases h1
    | cons u B =>
      simp only [List.map_cons, List.cons.injEq] at h1
      rw [lrT_inj (ha z (by simp)) (hb u (by simp)) h1.1, ih (fun v hv => ha v (List.mem_cons_of_mem _ hv)) (fun v hv => hb v (List.mem_cons_of_mem _ hv)) h1.2]
end Go.Proofs.YtoocagpjcbagoaaDoor
