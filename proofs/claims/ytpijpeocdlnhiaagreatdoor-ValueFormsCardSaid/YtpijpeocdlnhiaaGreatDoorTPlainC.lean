/- What is read out of a text is a right payload: its numbers are in the ranges of their kinds; plain law. -/
import Derived.Test.YtpijpeocdlnhiaaGreatDoorTPlainB
namespace Go.Proofs.YtpijpeocdlnhiaaGreatDoor
set_option linter.unusedVariables false
set_option linter.unusedSimpArgs false
open Go.RowKit

theorem intP_bounds (s : List UInt8) : -9223372036854775808 ≤ intP s ∧ intP s ≤ 9223372036854775807 := by
  unfold intP
  split
  · rename_i v h
    have := Lib.parseIntB_bounds h
    have e : ((2 ^ (64 - 1) : Nat) : Int) = 9223372036854775808 := by decide
    rw [e] at this; omega
  · unfold Lib.intSat
    have e : (2 ^ (64 - 1) : Nat) = 9223372036854775808 := by decide
    have e2 : (2 ^ (64 - 1) - 1 : Nat) = 9223372036854775807 := by decide
    split
    · rw [e]; omega
    · rw [e2]; omega
  · omega
theorem special_lt {s : List UInt8} {f : Nat} (h : special s = some f) : f < 18446744073709551616 := by
  unfold special at h
  repeat' split at h
  all_goals first
    | (cases h; decide)
    | cases h
theorem numParseF_lt (s : List UInt8) : numParseF s < 18446744073709551616 := by
  unfold numParseF
  split
  · rename_i f h; exact special_lt h
  · split
    · decide
    · split
      · split
        · rename_i b hb
          split
          · unfold puE at hb
            split at hb
            · cases hb
            · have := hexU_le 18446744073709551615 _ 0 b (Nat.zero_le _) hb
              omega
          · decide
        · decide
      · decide
theorem i64_bounds (n : Int) : -9223372036854775808 ≤ i64 n ∧ i64 n ≤ 9223372036854775807 := by unfold i64; omega
theorem numberR_bounds (s : List UInt8) : -9223372036854775808 ≤ (numberR s).1 ∧ (numberR s).1 ≤ 9223372036854775807 := by
  unfold numberR
  split
  · exact i64_bounds _
  · exact i64_bounds _
theorem numParseR_lt (s : List UInt8) : (numParseR s).1 < 18446744073709551616 := by
  unfold numParseR
  split
  · rename_i x h; exact candR_lt s x (List.mem_of_find?_eq_some h)
  · decide
theorem unhexP_length : ∀ l : List UInt8, (unhexP l).length ≤ l.length
  | [] => by simp [unhexP]
  | [a] => by simp [unhexP]
  | a :: b :: r => by
    have := unhexP_length r
    rw [unhexP]; simp only [List.length_cons]; omega
theorem unhexRL_length : ∀ l : List UInt8, (unhexRL l).length ≤ l.length
  | [] => by simp [unhexRL]
  | [a] => by simp [unhexRL]
  | a :: b :: r => by
    have := unhexRL_length r
    rw [unhexRL]; simp only [List.length_cons]; omega
theorem dropWhile_length (p : UInt8 → Bool) (l : List UInt8) : (l.dropWhile p).length ≤ l.length := by
  induction l with
  | nil => simp
  | cons a l ih =>
    rw [List.dropWhile_cons]
    split
    · simp only [List.length_cons]; omega
    · exact Nat.le_refl _
theorem trimB_length (l : List UInt8) (c : UInt8) : (Lib.trimB l c).length ≤ l.length := by
  unfold Lib.trimB Lib.trimLeftB Lib.trimRightB
  refine Nat.le_trans (dropWhile_length _ _) ?_
  rw [List.length_reverse]
  refine Nat.le_trans (dropWhile_length _ _) ?_
  rw [List.length_reverse]; exact Nat.le_refl _
theorem mk_size (l : List UInt8) : (⟨l.toArray⟩ : ByteArray).size = l.length := by
  show l.toArray.size = _
  simp
theorem zeroT_wf : wfT zeroT := by
  unfold zeroT
  rw [wfT, wfL]
  refine ⟨by omega, by omega, by decide, ?_, trivial⟩
  exact Nat.zero_le _
theorem wordP_wf (s : List UInt8) (h : s.length ≤ maxLen) : wfT (wordP s) := by
  unfold wordP
  split
  · rw [wfT, wfL]
    refine ⟨by omega, by omega, ?_, Nat.zero_le _, trivial⟩
    exact numParseF_lt _
  · split
    · rw [wfT, wfL]
      refine ⟨by omega, by omega, by decide, ?_, trivial⟩
      rw [mk_size]
      exact Nat.le_trans (unhexP_length _) (Nat.le_trans (trimB_length _ _) h)
    · split
      · exact zeroT_wf
      · rw [wfT, wfL]
        exact ⟨by omega, intP_bounds s, by decide, Nat.zero_le _, trivial⟩
theorem atomR_wf (s : List UInt8) (h : s.length ≤ maxLen) : wfT (atomR s).1 := by
  unfold atomR
  have hb := numberR_bounds s
  have hl := numParseR_lt s.tail
  generalize numberR s = a at *
  generalize numParseR s.tail = b at *
  by_cases h1 : s = nilS
  · rw [if_pos h1]; exact zeroT_wf
  rw [if_neg h1]
  by_cases h2 : a.2 = true
  · rw [if_pos h2, wfT, wfL]
    exact ⟨by omega, hb, by decide, Nat.zero_le _, trivial⟩
  rw [if_neg h2]
  by_cases h3 : s.head? = some 35
  · rw [if_pos h3, wfT, wfL]
    exact ⟨by omega, by omega, hl, Nat.zero_le _, trivial⟩
  rw [if_neg h3]
  by_cases h4 : 2 ≤ s.length ∧ s.head? = some 34 ∧ s.getLast? = some 34
  · rw [if_pos h4, wfT, wfL]
    refine ⟨by omega, by omega, by decide, ?_, trivial⟩
    rw [mk_size]
    refine Nat.le_trans (unhexRL_length _) ?_
    rw [List.length_take, List.length_tail]; omega
  rw [if_neg h4]; exact zeroT_wf
theorem wfL_append (l m : List VT) (h1 : wfL l) (h2 : wfL m) : wfL (l ++ m) := by
  rw [wfL_iff] at *
  intro t ht
  rcases List.mem_append.1 ht with h | h
  · exact h1 t h
  · exact h2 t h
theorem wfL_one (t : VT) (h : wfT t) : wfL [t] := by rw [wfL, wfL]; exact ⟨h, trivial⟩
/-- What a reader of a payload out of a text keeps: the rest is no longer than the text; the payload is right. -/
def OkP (p : List UInt8 → VT × List UInt8) : Prop := ∀ s, s.length ≤ maxLen → wfT (p s).1 ∧ (p s).2.length ≤ s.length
theorem loopP_ok (p : List UInt8 → VT × List UInt8) (hp : OkP p) : ∀ (n : Nat) (s : List UInt8) (acc : List VT), s.length ≤ maxLen → wfL acc → wfL (loopP p n s acc).1 ∧ (loopP p n s acc).2.length ≤ s.length
  | 0, s, acc, h, ha => by rw [loopP]; exact ⟨ha, Nat.le_refl _⟩
  | n + 1, s, acc, h, ha => by
    rw [loopP.eq_def]
    simp only []
    split
    · exact ⟨ha, Nat.le_refl _⟩
    · rename_i c r
      split
      · exact ⟨ha, by simp⟩
      · obtain ⟨h1, h2⟩ := hp (c :: r) h
        have hw := wfL_append acc _ ha (wfL_one _ h1)
        split
        · exact ⟨hw, by simp⟩
        · rename_i d q he
          rw [he] at h2
          simp only [List.length_cons] at h2 h
          split
          · obtain ⟨h3, h4⟩ := loopP_ok p hp n q (acc ++ [(p (c :: r)).1]) (by omega) hw
            exact ⟨h3, by simp only [List.length_cons]; omega⟩
          · split
            · exact ⟨hw, by simp only [List.length_cons]; omega⟩
            · exact ⟨hw, by simp only [List.length_cons]; omega⟩
theorem node4_wf (l : List VT) (h : wfL l) : wfT (.node 4 0 0 ⟨#[]⟩ l) := by
  rw [wfT]
  exact ⟨by omega, by omega, by decide, Nat.zero_le _, h⟩
theorem parseP_ok : ∀ k, OkP (parseP k)
  | 0, s, h => by
    rw [parseP]
    exact ⟨wordP_wf _ (by rw [List.length_take]; omega), by rw [List.length_drop]; omega⟩
  | k + 1, s, h => by
    rw [parseP]
    split
    · unfold listP
      obtain ⟨h1, h2⟩ := loopP_ok _ (parseP_ok k) s.tail.length s.tail [] (by rw [List.length_tail]; omega) (by rw [wfL]; trivial)
      exact ⟨node4_wf _ h1, by rw [List.length_tail] at h2; simp only [List.length_tail] at *; omega⟩
    · exact ⟨wordP_wf _ (by rw [List.length_take]; omega), by rw [List.length_drop]; omega⟩
def OkR (p : List UInt8 → VT × List UInt8 × Bool) : Prop := ∀ s, s.length ≤ maxLen → wfT (p s).1 ∧ (p s).2.1.length ≤ s.length
theorem loopR_ok (p : List UInt8 → VT × List UInt8 × Bool) (hp : OkR p) : ∀ (n : Nat) (s : List UInt8) (acc : List VT), s.length ≤ maxLen → wfL acc → wfT (loopR p n s acc).1 ∧ (loopR p n s acc).2.1.length ≤ s.length
  | 0, s, acc, h, ha => by rw [loopR]; exact ⟨zeroT_wf, by simp⟩
  | n + 1, s, acc, h, ha => by
    rw [loopR]
    split
    · exact ⟨zeroT_wf, by simp⟩
    · obtain ⟨h1, h2⟩ := hp s h
      have hw := wfL_append acc _ ha (wfL_one _ h1)
      split
      · exact ⟨zeroT_wf, by simp⟩
      · rename_i d q he
        rw [he] at h2
        simp only [List.length_cons] at h2
        split
        · refine ⟨node4_wf _ hw, ?_⟩
          show q.length ≤ s.length
          omega
        · obtain ⟨h3, h4⟩ := loopR_ok p hp n q (acc ++ [(p s).1]) (by omega) hw
          exact ⟨h3, by omega⟩
theorem parseR_ok : ∀ k, OkR (parseR k)
  | 0, s, h => by
    rw [parseR]
    split
    · exact ⟨zeroT_wf, by simp⟩
    · exact ⟨atomR_wf _ (by rw [List.length_take]; omega), by rw [List.length_drop]; omega⟩
  | k + 1, s, h => by
    rw [parseR]
    split
    · unfold listR
      split
      · exact ⟨node4_wf _ (by rw [wfL]; trivial), by simp only [List.length_tail]; omega⟩
      · obtain ⟨h1, h2⟩ := loopR_ok _ (parseR_ok k) (s.tail.length + 1) s.tail [] (by rw [List.length_tail]; omega) (by rw [wfL]; trivial)
        exact ⟨h1, by rw [List.length_tail] at h2; simp only [List.length_tail] at *; omega⟩
    · exact ⟨atomR_wf _ (by rw [List.length_take]; omega), by rw [List.length_drop]; omega⟩
theorem parse_law (s : List UInt8) (h : s.length ≤ maxLen) : (ParseP s).2 = (ParseR s).2 ∧ canonT (ParseP s).1 = canonT (ParseR s).1 ∧ ((ParseP s).2 = true → textTop (ParseP s).1 = s) :=
  parse_both s (parseP_ok 8 s h).1 (parseR_ok 8 s h).1
end Go.Proofs.YtpijpeocdlnhiaaGreatDoor
