/- The plain law of lists of segments: sorting and dropping what is twice gives the list that inserting gives; no program in sight. -/
import Derived.Test.YtnpkjkbcmidbmaaDoorSegPlain
import Derived.Lib.SlicesCompact
namespace Go.Proofs.YtnpkjkbcmidbmaaDoor
open Go.Lib

def numsL (ss : List ByteArray) : List Int := (ss.filter fun s => decide (0 < numV s.data.toList)).map fun s => (numV s.data.toList : Int)

/-- Insertion into a list, unless it is there. -/
def insAt (l : List Int) (n : Int) : Nat := (l.takeWhile fun x => decide (x < n)).length
def ins (l : List Int) (n : Int) : List Int := if l.contains n then l else l.take (insAt l n) ++ [n] ++ l.drop (insAt l n)
def refL (ss : List ByteArray) : List Int := (numsL ss).foldl ins []

theorem numsL_snoc (ss : List ByteArray) (s : ByteArray) : numsL (ss ++ [s]) = numsL ss ++ (if 0 < numV s.data.toList then [(numV s.data.toList : Int)] else []) := by
  unfold numsL
  rw [List.filter_append, List.map_append]
  by_cases h : 0 < numV s.data.toList <;> simp [h]

theorem refL_snoc (ss : List ByteArray) (s : ByteArray) : refL (ss ++ [s]) = if 0 < numV s.data.toList then ins (refL ss) (numV s.data.toList) else refL ss := by
  unfold refL
  rw [numsL_snoc]
  by_cases h : 0 < numV s.data.toList <;> simp [h]

theorem numsL_length (ss : List ByteArray) : (numsL ss).length ≤ ss.length := by
  unfold numsL; rw [List.length_map]; exact List.length_filter_le _ _

theorem insAt_le (l : List Int) (n : Int) : insAt l n ≤ l.length := by
  unfold insAt
  exact (List.takeWhile_sublist _).length_le

theorem insAt_lt (l : List Int) (n : Int) (j : Nat) (h : j < insAt l n) (hj : j < l.length) : l[j] < n := by
  induction l generalizing j with
  | nil => simp at hj
  | cons a l ih =>
    unfold insAt at h
    rw [List.takeWhile_cons] at h
    split at h
    · rename_i ha
      cases j with
      | zero => simpa using ha
      | succ j => exact ih j (by simpa [insAt] using h) (by simpa using hj)
    · simp at h

theorem insAt_stop (l : List Int) (n : Int) (hj : insAt l n < l.length) : ¬ l[insAt l n] < n := by
  induction l with
  | nil => simp at hj
  | cons a l ih =>
    by_cases ha : a < n
    · have e : insAt (a :: l) n = insAt l n + 1 := by unfold insAt; rw [List.takeWhile_cons]; simp [ha]
      simp only [e] at hj ⊢
      exact ih (by simpa using hj)
    · have e : insAt (a :: l) n = 0 := by unfold insAt; rw [List.takeWhile_cons]; simp [ha]
      simp only [e]
      exact ha

theorem ins_length (l : List Int) (n : Int) : (ins l n).length ≤ l.length + 1 := by
  unfold ins
  split
  · omega
  · have := insAt_le l n
    simp only [List.length_append, List.length_take, List.length_drop, List.length_singleton]
    omega

theorem refL_length (ss : List ByteArray) : (refL ss).length ≤ ss.length := by
  have key : ∀ (m l : List Int), (m.foldl ins l).length ≤ l.length + m.length := by
    intro m
    induction m with
    | nil => intro l; simp
    | cons a m ih =>
      intro l
      have := ih (ins l a)
      have := ins_length l a
      simp only [List.foldl_cons, List.length_cons]
      omega
  have := key (numsL ss) []
  have := numsL_length ss
  unfold refL
  simp only [List.length_nil] at *
  omega

def Inc (l : List Int) : Prop := l.Pairwise (· < ·)

theorem inc_ext {a b : List Int} (ha : Inc a) (hb : Inc b) (h : ∀ x, x ∈ a ↔ x ∈ b) : a = b := by
  induction a generalizing b with
  | nil =>
    cases b with
    | nil => rfl
    | cons y b => exact absurd ((h y).2 (List.mem_cons_self ..)) (by simp)
  | cons x a ih =>
    cases b with
    | nil => exact absurd ((h x).1 (List.mem_cons_self ..)) (by simp)
    | cons y b =>
      have ha' := List.pairwise_cons.1 ha
      have hb' := List.pairwise_cons.1 hb
      have hxy : x = y := by
        rcases List.mem_cons.1 ((h x).1 (List.mem_cons_self ..)) with e | e
        · exact e
        · rcases List.mem_cons.1 ((h y).2 (List.mem_cons_self ..)) with e' | e'
          · exact e'.symm
          · have h1 := hb'.1 x e
            have h2 := ha'.1 y e'
            omega
      subst hxy
      congr 1
      apply ih ha'.2 hb'.2
      intro z
      have hz := h z
      simp only [List.mem_cons] at hz
      constructor
      · intro hm
        rcases hz.1 (.inr hm) with e | e
        · subst e; exact absurd (ha'.1 z hm) (by omega)
        · exact e
      · intro hm
        rcases hz.2 (.inr hm) with e | e
        · subst e; exact absurd (hb'.1 z hm) (by omega)
        · exact e

theorem mem_ins (l : List Int) (n x : Int) : x ∈ ins l n ↔ x ∈ l ∨ x = n := by
  unfold ins
  split
  · rename_i h
    have hn : n ∈ l := by simpa using h
    constructor
    · exact .inl
    · rintro (h | rfl)
      · exact h
      · exact hn
  · have hd := List.take_append_drop (insAt l n) l
    have hm : x ∈ l ↔ x ∈ l.take (insAt l n) ∨ x ∈ l.drop (insAt l n) := by
      rw [← List.mem_append, hd]
    rw [hm]
    simp only [List.mem_append, List.mem_singleton]
    constructor
    · rintro ((h | h) | h)
      · exact .inl (.inl h)
      · exact .inr h
      · exact .inl (.inr h)
    · rintro ((h | h) | h)
      · exact .inl (.inl h)
      · exact .inr h
      · exact .inl (.inr h)

theorem inc_ins (l : List Int) (n : Int) (h : Inc l) : Inc (ins l n) := by
  unfold ins
  split
  · exact h
  · rename_i hc
    have hn : n ∉ l := by simpa using hc
    have hlt : ∀ x ∈ l.take (insAt l n), x < n := by
      intro x hx
      have e : l.take (insAt l n) = l.takeWhile fun x => decide (x < n) := by
        have hp := List.takeWhile_prefix (l := l) fun x => decide (x < n)
        exact (List.prefix_iff_eq_take.1 hp).symm
      rw [e] at hx
      have key : ∀ (l : List Int) x, x ∈ l.takeWhile (fun x => decide (x < n)) → x < n := by
        intro l
        induction l with
        | nil => intro x hx; simp at hx
        | cons a l ih =>
          intro x hx
          rw [List.takeWhile_cons] at hx
          split at hx
          · rename_i ha
            rcases List.mem_cons.1 hx with e | e
            · subst e; simpa using ha
            · exact ih x e
          · simp at hx
      exact key l x hx
    have hge : ∀ x ∈ l.drop (insAt l n), n < x := by
      have key : ∀ (l : List Int), Inc l → n ∉ l → ∀ x ∈ l.drop (insAt l n), n < x := by
        intro l
        induction l with
        | nil => intro _ _ x hx; simp at hx
        | cons a l ih =>
          intro hl hnl x hx
          have hl' := List.pairwise_cons.1 hl
          unfold insAt at hx
          rw [List.takeWhile_cons] at hx
          split at hx
          · simp only [List.length_cons, List.drop_succ_cons] at hx
            exact ih hl'.2 (fun hm => hnl (List.mem_cons_of_mem _ hm)) x hx
          · rename_i ha
            have ha' : ¬ a < n := by simpa using ha
            have hne : a ≠ n := fun e => hnl (by rw [e]; exact List.mem_cons_self ..)
            simp only [List.length_nil, List.drop_zero] at hx
            rcases List.mem_cons.1 hx with e | e
            · omega
            · have := hl'.1 x e; omega
      exact key l h hn
    have h1 : (l.take (insAt l n)).Pairwise (· < ·) := h.sublist (List.take_sublist _ _)
    have h2 : (l.drop (insAt l n)).Pairwise (· < ·) := h.sublist (List.drop_sublist _ _)
    show List.Pairwise (· < ·) _
    rw [List.pairwise_append, List.pairwise_append]
    refine ⟨⟨h1, by simp, ?_⟩, h2, ?_⟩
    · intro x hx y hy
      rw [List.mem_singleton.1 hy]; exact hlt x hx
    · intro x hx y hy
      rcases List.mem_append.1 hx with hx | hx
      · have := hlt x hx; have := hge y hy; omega
      · rw [List.mem_singleton.1 hx]; exact hge y hy

theorem inc_foldl (m : List Int) : ∀ l, Inc l → Inc (m.foldl ins l) := by
  induction m with
  | nil => intro l h; exact h
  | cons a m ih => intro l h; exact ih _ (inc_ins l a h)

theorem mem_foldl (m : List Int) (x : Int) : ∀ l, x ∈ m.foldl ins l ↔ x ∈ l ∨ x ∈ m := by
  induction m with
  | nil => intro l; simp
  | cons a m ih =>
    intro l
    rw [List.foldl_cons, ih, mem_ins, List.mem_cons, or_assoc]

theorem inc_refL (ss : List ByteArray) : Inc (refL ss) := inc_foldl _ _ List.Pairwise.nil
theorem mem_refL (ss : List ByteArray) (x : Int) : x ∈ refL ss ↔ x ∈ numsL ss := by
  unfold refL; rw [mem_foldl]; simp

theorem compact_inc (d : Array Int) (hs : ∀ i j, i ≤ j → j < d.size → d[i]! ≤ d[j]!) : ∀ m, m ≤ d.size → Inc (compactUpTo d m) ∧ ∀ x, x ∈ compactUpTo d m ↔ ∃ j, j < m ∧ d[j]! = x := by
  intro m
  induction m with
  | zero => intro _; exact ⟨by simp [compactUpTo, Inc], fun x => by simp [compactUpTo]⟩
  | succ m ih =>
    intro hm
    obtain ⟨h1, h2⟩ := ih (by omega)
    rw [compactUpTo_succ]
    cases hk : keeps d m with
    | true =>
      simp only [if_true]
      refine ⟨?_, fun x => ?_⟩
      · show List.Pairwise (· < ·) _
        rw [List.pairwise_append]
        refine ⟨h1, by simp, fun x hx y hy => ?_⟩
        rw [List.mem_singleton.1 hy]
        obtain ⟨j, hj, rfl⟩ := (h2 x).1 hx
        have hne : d[m]! ≠ d[m - 1]! := by
          simp only [keeps, decide_eq_true_eq] at hk
          rcases hk with e | e
          · omega
          · exact e
        have a1 := hs j (m - 1) (by omega) (by omega)
        have a2 := hs (m - 1) m (by omega) (by omega)
        omega
      · rw [List.mem_append, List.mem_singleton, h2]
        constructor
        · rintro (⟨j, hj, e⟩ | rfl)
          · exact ⟨j, by omega, e⟩
          · exact ⟨m, by omega, rfl⟩
        · rintro ⟨j, hj, e⟩
          by_cases hjm : j = m
          · subst hjm; exact .inr e.symm
          · exact .inl ⟨j, by omega, e⟩
    | false =>
      simp only [Bool.false_eq_true, if_false, List.append_nil]
      refine ⟨h1, fun x => ?_⟩
      rw [h2]
      simp only [keeps, decide_eq_false_iff_not, not_or, Classical.not_not] at hk
      constructor
      · rintro ⟨j, hj, e⟩; exact ⟨j, by omega, e⟩
      · rintro ⟨j, hj, e⟩
        by_cases hjm : j = m
        · subst hjm; exact ⟨j - 1, by omega, by rw [← hk.2]; exact e⟩
        · exact ⟨j, by omega, e⟩

theorem compact_sorted (zs : List Int) (hs : zs.Pairwise (· ≤ ·)) : Inc (compact zs) ∧ ∀ x, x ∈ compact zs ↔ x ∈ zs := by
  have hd : ∀ i j, i ≤ j → j < zs.toArray.size → zs.toArray[i]! ≤ zs.toArray[j]! := by
    intro i j hij hj
    have hj' : j < zs.length := by simpa using hj
    rw [getElem!_pos zs.toArray i (by simp; omega), getElem!_pos zs.toArray j hj]
    simp only [List.getElem_toArray]
    by_cases e : i = j
    · subst e; exact Int.le_refl _
    · exact List.pairwise_iff_getElem.1 hs i j (by omega) hj' (by omega)
  obtain ⟨h1, h2⟩ := compact_inc zs.toArray hd zs.length (by simp)
  refine ⟨h1, fun x => ?_⟩
  unfold compact
  rw [h2]
  constructor
  · rintro ⟨j, hj, rfl⟩
    rw [getElem!_pos zs.toArray j (by simpa using hj)]
    simp
  · intro hx
    obtain ⟨j, hj, rfl⟩ := List.getElem_of_mem hx
    exact ⟨j, hj, by rw [getElem!_pos zs.toArray j (by simpa using hj)]; simp⟩

def sortL (l : List Int) : List Int := l.mergeSort fun x y => decide (x ≤ y)

theorem list_eq (ss : List ByteArray) : compact (sortL (numsL ss)) = refL ss := by
  have hsort : (sortL (numsL ss)).Pairwise (· ≤ ·) := by
    have := List.pairwise_mergeSort (le := fun (x y : Int) => decide (x ≤ y)) (fun a b c h1 h2 => by simp at *; omega) (fun a b => by simp; omega) (numsL ss)
    exact this.imp (fun h => by simpa using h)
  obtain ⟨h1, h2⟩ := compact_sorted _ hsort
  apply inc_ext h1 (inc_refL ss)
  intro x
  rw [h2, mem_refL]
  exact (List.mergeSort_perm _ _).mem_iff

theorem refL_nil_of (ss : List ByteArray) (h : numsL ss = []) : refL ss = [] := by unfold refL; rw [h]; rfl
end Go.Proofs.YtnpkjkbcmidbmaaDoor
