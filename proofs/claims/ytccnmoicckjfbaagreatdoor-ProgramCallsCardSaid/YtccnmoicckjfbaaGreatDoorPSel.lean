/- Sorted, each one once; no program in sight. The names of the steps of a kind. -/
import Derived.Test.YtccnmoicckjfbaaGreatDoorPConcat
import Derived.Test.YtccnmoicckjfbaaGreatDoorPInsert
import Derived.Lib.SlicesCompact
import Derived.Sort.OwnSorted
namespace Go.Proofs.YtccnmoicckjfbaaGreatDoor
set_option linter.unusedVariables false
set_option linter.unusedSimpArgs false
open Go.RowKit Go.Sort Go.Shelf Go.Proofs

abbrev leS : List UInt8 → List UInt8 → Bool := fun x y => decide (x ≤ y)
theorem sortS_perm (l : List (List UInt8)) : (l.mergeSort leS).Perm l := List.mergeSort_perm l leS
theorem sortS_sorted (l : List (List UInt8)) : (l.mergeSort leS).Pairwise (· ≤ ·) := by
  have tr : ∀ a b c : List UInt8, leS a b = true → leS b c = true → leS a c = true := fun a b c h1 h2 => by simp only [leS, decide_eq_true_eq] at *; exact List.le_trans h1 h2
  have to : ∀ a b : List UInt8, (leS a b || leS b a) = true := fun a b => by simp only [leS, Bool.or_eq_true, decide_eq_true_eq]; exact List.le_total a b
  exact (List.pairwise_mergeSort tr to l).imp (fun h => by simpa [leS] using h)
theorem ltS_of {x y : List UInt8} (h : x ≤ y) (hn : x ≠ y) : x < y := by
  refine Classical.byContradiction fun h2 => hn (List.le_antisymm h ?_)
  exact List.not_lt.1 h2

theorem compactUpTo_sorted {d : Array (List UInt8)} (hd : ∀ i j, i ≤ j → j < d.size → d[i]! ≤ d[j]!) : ∀ m, m ≤ d.size →
    (Lib.compactUpTo d m).Pairwise (· < ·) ∧ (∀ x, x ∈ Lib.compactUpTo d m ↔ ∃ j, j < m ∧ d[j]! = x)
  | 0, _ => by simp [Lib.compactUpTo]
  | m + 1, hm => by
    obtain ⟨h1, h2⟩ := compactUpTo_sorted hd m (by omega)
    rw [Lib.compactUpTo_succ]
    by_cases hk : Lib.keeps d m = true
    · rw [if_pos hk]
      refine ⟨List.pairwise_append.2 ⟨h1, by simp, fun a ha b hb => ?_⟩, fun x => ?_⟩
      · obtain rfl : b = d[m]! := by simpa using hb
        obtain ⟨j, hj, rfl⟩ := (h2 a).1 ha
        have hne : d[m]! ≠ d[m - 1]! := by
          simp only [Lib.keeps, decide_eq_true_eq] at hk
          rcases hk with h | h
          · omega
          · exact h
        have ha1 : d[j]! ≤ d[m - 1]! := hd _ _ (by omega) (by omega)
        have ha2 : d[m - 1]! < d[m]! := ltS_of (hd _ _ (by omega) (by omega)) (fun e => hne e.symm)
        exact List.lt_of_le_of_lt ha1 ha2
      · rw [List.mem_append, h2]
        constructor
        · rintro (⟨j, hj, rfl⟩ | h)
          · exact ⟨j, by omega, rfl⟩
          · exact ⟨m, by omega, (List.mem_singleton.1 h).symm⟩
        · rintro ⟨j, hj, rfl⟩
          rcases Nat.lt_or_ge j m with h | h
          · exact .inl ⟨j, h, rfl⟩
          · have : j = m := by omega
            subst this; exact .inr (by simp)
    · rw [if_neg hk, List.append_nil]
      refine ⟨h1, fun x => (h2 x).trans ⟨fun ⟨j, hj, e⟩ => ⟨j, by omega, e⟩, ?_⟩⟩
      rintro ⟨j, hj, rfl⟩
      rcases Nat.lt_or_ge j m with h | h
      · exact ⟨j, h, rfl⟩
      · have : j = m := by omega
        subst this
        simp only [Lib.keeps, decide_eq_true_eq, not_or, Classical.not_not] at hk
        exact ⟨j - 1, by omega, hk.2.symm⟩

theorem compact_sorted (l : List (List UInt8)) : (Lib.compact (l.mergeSort leS)).Pairwise (· < ·) ∧ ∀ x, x ∈ Lib.compact (l.mergeSort leS) ↔ x ∈ l := by
  have hd : ∀ i j, i ≤ j → j < (l.mergeSort leS).toArray.size → (l.mergeSort leS).toArray[i]! ≤ (l.mergeSort leS).toArray[j]! := by
    intro i j hij hj
    have hj' : j < (l.mergeSort leS).length := by simpa using hj
    rcases Nat.lt_or_ge i j with h | h
    · have := List.pairwise_iff_getElem.1 (sortS_sorted l) i j (by omega) hj' h
      simpa [List.getElem?_eq_getElem hj', List.getElem?_eq_getElem (show i < (l.mergeSort leS).length by omega)] using this
    · have : i = j := by omega
      subst this
      exact List.le_refl _
  obtain ⟨h1, h2⟩ := compactUpTo_sorted hd (l.mergeSort leS).length (by simp)
  refine ⟨h1, fun x => (h2 x).trans ?_⟩
  rw [← (sortS_perm l).mem_iff (a := x), List.mem_iff_getElem]
  constructor
  · rintro ⟨j, hj, rfl⟩
    exact ⟨j, hj, by simp [List.getElem?_eq_getElem hj]⟩
  · rintro ⟨j, hj, rfl⟩
    exact ⟨j, hj, by simp [List.getElem?_eq_getElem hj]⟩

/-- The names of the steps of a kind. -/
def selS (k : Int) (L : List ST) : List ByteArray := (L.filter (fun x => decide (x.k = k))).map ST.s
theorem selS_snoc (k : Int) (L : List ST) (x : ST) : selS k (L ++ [x]) = selS k L ++ if x.k = k then [x.s] else [] := by
  unfold selS
  rw [List.filter_append, List.map_append]
  congr 1
  by_cases h : x.k = k <;> simp [h]
theorem selS_yes {k : Int} {L : List ST} {m : Nat} (h : m < L.length) (hk : L[m].k = k) : selS k (L.take (m + 1)) = selS k (L.take m) ++ [L[m].s] := by
  rw [List.take_succ_eq_append_getElem h, selS_snoc, if_pos hk]
theorem selS_no {k : Int} {L : List ST} {m : Nat} (h : m < L.length) (hk : ¬ L[m].k = k) : selS k (L.take (m + 1)) = selS k (L.take m) := by
  rw [List.take_succ_eq_append_getElem h, selS_snoc, if_neg hk, List.append_nil]
theorem selS_len (k : Int) (L : List ST) : (selS k L).length ≤ L.length := by unfold selS; rw [List.length_map]; exact List.length_filter_le _ _

abbrev bytesS (l : List ByteArray) : List Str := l.map ByteArray.toList
theorem bytesS_enc (l : List ByteArray) : (bytesS l).map encStr = l.map Value.string := by
  rw [List.map_map]
  refine List.map_congr_left (fun x _ => ?_)
  show Value.string ⟨x.toList.toArray⟩ = _
  rw [mk_toList]
/-- Sorted, each one once. -/
def namesL (k : Int) (L : List ST) : List Str := Lib.compact ((bytesS (selS k L)).mergeSort leS)
theorem namesL_eq (k : Int) (L : List ST) : namesL k L = addN [] (selS k L) := by
  obtain ⟨h1, h2⟩ := compact_sorted (bytesS (selS k L))
  refine sorted_unique h1 (addN_sorted _ _ List.Pairwise.nil) (fun x => (h2 x).trans ?_)
  rw [addN_mem]
  constructor
  · intro h
    obtain ⟨n, hn, rfl⟩ := List.mem_map.1 h
    exact .inr ⟨n, hn, rfl⟩
  · rintro (h | ⟨n, hn, rfl⟩)
    · cases h
    · exact List.mem_map.2 ⟨n, hn, rfl⟩
theorem strb_one (l : List ByteArray) : ∀ u ∈ l.map Value.string, u.oneCell' = true := by
  intro u hu
  obtain ⟨s, -, rfl⟩ := List.mem_map.1 hu
  rfl

end Go.Proofs.YtccnmoicckjfbaaGreatDoor
