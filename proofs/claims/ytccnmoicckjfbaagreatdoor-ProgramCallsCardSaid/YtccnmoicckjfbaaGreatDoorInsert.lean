/- A sorted list with one string more; no program in sight. -/
import Derived.Test.YtccnmoicckjfbaaGreatDoorChecked
import Derived.Test.YtccnmoicckjfbaaGreatDoorBase
import Derived.Sort.Walk0
namespace Go.Proofs.YtccnmoicckjfbaaGreatDoor
set_option linter.unusedVariables false
set_option linter.unusedSimpArgs false
open Go.RowKit

abbrev Str := List UInt8

/-- A sorted list with one string more, if it is not there. -/
def insS : List Str → Str → List Str
  | [], s => [s]
  | a :: l, s => if a < s then a :: insS l s else if a = s then a :: l else s :: a :: l

theorem insS_mem : ∀ (l : List Str) (s x : Str), x ∈ insS l s ↔ x ∈ l ∨ x = s
  | [], s, x => by simp [insS]
  | a :: l, s, x => by
    rw [insS]
    split
    · simp only [List.mem_cons, insS_mem l s x]
      constructor
      · rintro (h | h | h)
        · exact .inl (.inl h)
        · exact .inl (.inr h)
        · exact .inr h
      · rintro ((h | h) | h)
        · exact .inl h
        · exact .inr (.inl h)
        · exact .inr (.inr h)
    · split
      · rename_i h; subst h
        constructor
        · exact fun h => .inl h
        · rintro (h | h)
          · exact h
          · exact List.mem_cons.2 (.inl h)
      · simp only [List.mem_cons]
        constructor
        · rintro (h | h | h)
          · exact .inr h
          · exact .inl (.inl h)
          · exact .inl (.inr h)
        · rintro ((h | h) | h)
          · exact .inr (.inl h)
          · exact .inr (.inr h)
          · exact .inl h

theorem str_lt_of {x y : Str} (h : ¬ x < y) (hn : x ≠ y) : y < x := by
  refine Classical.byContradiction fun h2 => hn (List.le_antisymm ?_ ?_)
  · exact List.not_lt.1 h2
  · exact List.not_lt.1 h
theorem str_trans {x y z : Str} (h1 : x < y) (h2 : y < z) : x < z := List.lt_trans h1 h2
theorem str_irrefl (x : Str) : ¬ x < x := List.lt_irrefl x

theorem insS_sorted : ∀ (l : List Str) (s : Str), l.Pairwise (· < ·) → (insS l s).Pairwise (· < ·)
  | [], s, _ => by simp [insS]
  | a :: l, s, h => by
    obtain ⟨h1, h2⟩ := List.pairwise_cons.1 h
    rw [insS]
    split
    · rename_i hlt
      refine List.pairwise_cons.2 ⟨fun x hx => ?_, insS_sorted l s h2⟩
      rcases (insS_mem l s x).1 hx with h3 | h3
      · exact h1 x h3
      · rw [h3]; exact hlt
    · split
      · exact h
      · rename_i hn1 hn2
        have hs : s < a := str_lt_of hn1 hn2
        refine List.pairwise_cons.2 ⟨fun x hx => ?_, h⟩
        rcases List.mem_cons.1 hx with h3 | h3
        · rw [h3]; exact hs
        · exact str_trans hs (h1 x h3)

theorem sorted_unique : ∀ {l m : List Str}, l.Pairwise (· < ·) → m.Pairwise (· < ·) → (∀ x, x ∈ l ↔ x ∈ m) → l = m
  | [], [], _, _, _ => rfl
  | [], b :: m, _, _, h => absurd ((h b).2 List.mem_cons_self) (by simp)
  | a :: l, [], _, _, h => absurd ((h a).1 List.mem_cons_self) (by simp)
  | a :: l, b :: m, hl, hm, h => by
    obtain ⟨h1, h2⟩ := List.pairwise_cons.1 hl
    obtain ⟨h3, h4⟩ := List.pairwise_cons.1 hm
    have hab : a = b := by
      rcases List.mem_cons.1 ((h a).1 List.mem_cons_self) with e | e
      · exact e
      · rcases List.mem_cons.1 ((h b).2 List.mem_cons_self) with e2 | e2
        · exact e2.symm
        · exact absurd (str_trans (h1 b e2) (h3 a e)) (str_irrefl a)
    subst hab
    congr 1
    refine sorted_unique h2 h4 (fun x => ⟨fun hx => ?_, fun hx => ?_⟩)
    · rcases List.mem_cons.1 ((h x).1 (List.mem_cons_of_mem _ hx)) with e | e
      · subst e; exact absurd (h1 x hx) (str_irrefl x)
      · exact e
    · rcases List.mem_cons.1 ((h x).2 (List.mem_cons_of_mem _ hx)) with e | e
      · subst e; exact absurd (h3 x hx) (str_irrefl x)
      · exact e

/-- Step by step: as long as the elements are smaller. -/
theorem insS_step (l : List Str) (s : Str) (m : Nat) (hm : m < l.length) (h : insS l s = l.take m ++ insS (l.drop m) s) (hlt : l[m] < s) : insS l s = l.take (m + 1) ++ insS (l.drop (m + 1)) s := by
  rw [h, List.drop_eq_getElem_cons hm, insS, if_pos hlt, List.take_succ_eq_append_getElem hm, List.append_assoc]
  rfl
theorem insS_there (l : List Str) (s : Str) (m : Nat) (hm : m < l.length) (h : insS l s = l.take m ++ insS (l.drop m) s) (he : l[m] = s) : insS l s = l := by
  rw [h, List.drop_eq_getElem_cons hm, insS, if_neg (by rw [he]; exact str_irrefl s), if_pos he, ← List.drop_eq_getElem_cons hm, List.take_append_drop]
theorem insS_here (l : List Str) (s : Str) (m : Nat) (hm : m ≤ l.length) (h : insS l s = l.take m ++ insS (l.drop m) s) (hn : ∀ h : m < l.length, ¬ l[m] < s ∧ ¬ l[m] = s) : insS l s = l.take m ++ s :: l.drop m := by
  rw [h]
  rcases Nat.lt_or_ge m l.length with hlt | hge
  · obtain ⟨h1, h2⟩ := hn hlt
    rw [List.drop_eq_getElem_cons hlt, insS, if_neg h1, if_neg h2]
  · rw [List.drop_of_length_le hge]; rfl
theorem insS_len (l : List Str) (s : Str) : (insS l s).length ≤ l.length + 1 := by
  induction l with
  | nil => simp [insS]
  | cons a l ih => rw [insS]; split; simpa using ih; split; simp; simp

abbrev strV (l : List Str) : List Value := l.map fun s => Value.string ⟨s.toArray⟩
theorem strV_one (l : List Str) : ∀ u ∈ strV l, u.oneCell' = true := by
  intro u hu
  obtain ⟨s, -, rfl⟩ := List.mem_map.1 hu
  rfl
theorem elemStr : ElemOf Tryz.prog 25 9 (.string ⟨#[]⟩) 1 16 := ⟨Tryz.underlying25, by kernel_rfl, rfl, by decide⟩
end Go.Proofs.YtccnmoicckjfbaaGreatDoor
