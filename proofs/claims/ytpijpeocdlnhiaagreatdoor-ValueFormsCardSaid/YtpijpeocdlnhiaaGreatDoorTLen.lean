/- How long the text is of what is read out of a text: plain law. -/
import Derived.Test.YtpijpeocdlnhiaaGreatDoorTPlainC
import Derived.Test.YtpijpeocdlnhiaaGreatDoorTTextA
import Derived.Lib.ItoaLen
namespace Go.Proofs.YtpijpeocdlnhiaaGreatDoor
set_option linter.unusedVariables false
set_option linter.unusedSimpArgs false
open Go.RowKit

theorem zero_text : textT zeroT = nilS := rfl
theorem int_len (n : Int) (h : -9223372036854775808 ≤ n ∧ n ≤ 9223372036854775807) : (textT (.node 1 n 0 ⟨#[]⟩ [])).length ≤ 101 := by
  have := Lib.itoa_length_le n h.1 h.2
  show (Lib.itoa n).length ≤ 101
  omega
theorem flt_len (f : Nat) : (textT (.node 2 0 f ⟨#[]⟩ [])).length ≤ 101 := by
  have := numTextL_small f
  show (35 :: numTextL f).length ≤ 101
  rw [List.length_cons]
  omega
theorem str_len (l : List UInt8) : (textT (.node 3 0 0 ⟨l.toArray⟩ [])).length = 2 + 2 * l.length := by
  show (34 :: hexL (⟨l.toArray⟩ : ByteArray).data.toList ++ [34]).length = _
  rw [List.length_append, List.length_cons, hexL_length]
  simp
  omega
theorem wordP_len (s : List UInt8) : (textT (wordP s)).length ≤ 101 + 2 * s.length := by
  unfold wordP
  split
  · have := flt_len (numParseF s.tail); omega
  · split
    · rw [str_len]
      have h1 := unhexP_length (Lib.trimB s 34)
      have h2 := trimB_length s 34
      omega
    · split
      · rw [zero_text]; show 3 ≤ _; omega
      · have := int_len _ (intP_bounds s); omega
theorem atomR_len (s : List UInt8) : (textT (atomR s).1).length ≤ 101 + 2 * s.length := by
  unfold atomR
  split
  · rw [zero_text]; show 3 ≤ _; omega
  · split
    · have := int_len _ (numberR_bounds s); dsimp only; omega
    · split
      · have := flt_len (numParseR s.tail).1; dsimp only; omega
      · split
        · rw [str_len]
          have h1 := unhexRL_length (s.tail.take (s.length - 2))
          have h2 : (s.tail.take (s.length - 2)).length ≤ s.length := by rw [List.length_take, List.length_tail]; omega
          have h3 : ((unhexR (s.tail.take (s.length - 2))).1).length ≤ (s.tail.take (s.length - 2)).length := h1
          omega
        · rw [zero_text]; show 3 ≤ _; omega
/-- A reader whose result has a text of at most 110 bytes for a byte that it took. -/
def LnP (p : List UInt8 → VT × List UInt8) : Prop := ∀ s, (textT (p s).1).length + 110 * (p s).2.length ≤ 110 * s.length + 101
theorem texts_add (l : List VT) (t : VT) : (textsT (l ++ [t])).length ≤ (textsT l).length + 1 + (textT t).length := by
  cases l with
  | nil => show (textT t ++ []).length ≤ 0 + 1 + _; rw [List.append_nil]; omega
  | cons a l => rw [textsT_append _ _ (by simp), List.length_append, List.length_cons]; omega
theorem loopP_len (p : List UInt8 → VT × List UInt8) (hp : LnP p) : ∀ (n : Nat) (s : List UInt8) (acc : List VT),
    (textsT (loopP p n s acc).1).length + 110 * (loopP p n s acc).2.length ≤ (textsT acc).length + 110 * s.length + 102
  | 0, s, acc => by rw [loopP]; show (textsT acc).length + 110 * s.length ≤ _; omega
  | n + 1, [], acc => by rw [loopP.eq_def]; show (textsT acc).length + 0 ≤ _; omega
  | n + 1, c :: r, acc => by
    have h := hp (c :: r)
    have ha := texts_add acc (p (c :: r)).1
    rw [loopP.eq_def]
    simp only []
    split
    · show (textsT acc).length + 110 * r.length ≤ _
      rw [List.length_cons]; omega
    · cases hq : (p (c :: r)).2 with
      | nil =>
        rw [hq] at h
        simp only [List.length_nil] at h ⊢
        omega
      | cons d q =>
        rw [hq] at h
        rw [List.length_cons] at h
        simp only []
        split
        · have := loopP_len p hp n q (acc ++ [(p (c :: r)).1])
          omega
        · split
          · show (textsT (acc ++ [(p (c :: r)).1])).length + 110 * q.length ≤ _
            omega
          · show (textsT (acc ++ [(p (c :: r)).1])).length + 110 * (d :: q).length ≤ _
            rw [List.length_cons]
            omega
theorem word_lenP (s : List UInt8) : (textT (wordP (s.take (wN s)))).length + 110 * (s.drop (wN s)).length ≤ 110 * s.length + 101 := by
  have h1 := wordP_len (s.take (wN s))
  have h2 := wN_le s
  rw [List.length_take] at h1
  rw [List.length_drop]
  omega
theorem word_lenR (s : List UInt8) : (textT (atomR (s.take (wN s))).1).length + 110 * (s.drop (wN s)).length ≤ 110 * s.length + 101 := by
  have h1 := atomR_len (s.take (wN s))
  have h2 := wN_le s
  rw [List.length_take] at h1
  rw [List.length_drop]
  omega
theorem node4_text (l : List VT) : (textT (.node 4 0 0 ⟨#[]⟩ l)).length = (textsT l).length + 2 := by
  rw [textT, if_pos rfl, List.length_cons, List.length_append]; rfl
theorem parseP_len : ∀ k, LnP (parseP k)
  | 0 => by intro s; rw [parseP]; exact word_lenP s
  | k + 1 => by
    intro s
    rw [parseP]
    split
    · rename_i h
      cases s with
      | nil => cases h
      | cons c r =>
        have := loopP_len _ (parseP_len k) r.length r []
        unfold listP
        rw [List.tail_cons, node4_text, List.length_cons]
        rw [show textsT [] = [] from rfl, List.length_nil] at this
        show _ + 110 * (loopP (parseP k) r.length r []).2.length ≤ _
        omega
    · exact word_lenP s
def LnR (p : List UInt8 → VT × List UInt8 × Bool) : Prop := ∀ s, (textT (p s).1).length + 110 * (p s).2.1.length ≤ 110 * s.length + 101
theorem loopR_len (p : List UInt8 → VT × List UInt8 × Bool) (hp : LnR p) : ∀ (n : Nat) (s : List UInt8) (acc : List VT),
    (textT (loopR p n s acc).1).length + 110 * (loopR p n s acc).2.1.length ≤ (textsT acc).length + 110 * s.length + 104
  | 0, s, acc => by rw [loopR, zero_text]; show 3 + 0 ≤ _; omega
  | n + 1, s, acc => by
    have h := hp s
    have ha := texts_add acc (p s).1
    rw [loopR.eq_def]
    simp only []
    split
    · rw [zero_text]; show 3 + 0 ≤ _; omega
    · cases hq : (p s).2.1 with
      | nil => simp only []; rw [zero_text]; show 3 + 0 ≤ _; omega
      | cons d q =>
        rw [hq, List.length_cons] at h
        simp only []
        split
        · rw [node4_text]
          show _ + 110 * q.length ≤ _
          omega
        · have := loopR_len p hp n q (acc ++ [(p s).1])
          omega
theorem parseR_len : ∀ k, LnR (parseR k)
  | 0 => by
    intro s
    rw [parseR]
    split
    · rw [zero_text]; show 3 + 0 ≤ _; omega
    · exact word_lenR s
  | k + 1 => by
    intro s
    rw [parseR]
    split
    · rename_i h
      cases s with
      | nil => cases h
      | cons c r =>
        unfold listR
        rw [List.tail_cons, List.length_cons]
        split
        · rw [node4_text, show textsT [] = [] from rfl, List.length_nil]
          show _ + 110 * r.tail.length ≤ _
          rw [List.length_tail]
          omega
        · have := loopR_len _ (parseR_len k) (r.length + 1) r []
          rw [show textsT [] = [] from rfl, List.length_nil] at this
          omega
    · exact word_lenR s
end Go.Proofs.YtpijpeocdlnhiaaGreatDoor
