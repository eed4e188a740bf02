/- Rows of elements of any number of cells; lists and their first hit.
What is known behind appends onto a new list, in whatever order its literals were made; no program in sight. -/
import Derived.Test.YtpijpeocdlnhiaaGreatDoorHeap
namespace Go.Proofs.YtpijpeocdlnhiaaGreatDoor
set_option linter.unusedVariables false
set_option linter.unusedSimpArgs false
open Go.RowKit

theorem fm_length {α : Type} {f : α → List Value} {k : Nat} (hf : ∀ a, (f a).length = k) : ∀ l : List α, (l.flatMap f).length = l.length * k
  | [] => by simp
  | a :: l => by rw [List.flatMap_cons, List.length_append, fm_length hf l, hf, List.length_cons, Nat.add_mul, Nat.one_mul, Nat.add_comm]

theorem fm_get {α : Type} {f : α → List Value} {k : Nat} (hf : ∀ a, (f a).length = k) {l : List α} {i : Nat} {a : α} (h : l[i]? = some a) (j : Nat) (u : Value) (hu : (f a)[j]? = some u) : (l.flatMap f)[i * k + j]? = some u := by
  induction l generalizing i with
  | nil => simp at h
  | cons b l ih =>
    rw [List.flatMap_cons]
    cases i with
    | zero =>
      simp only [List.getElem?_cons_zero, Option.some.injEq] at h
      subst h
      have := (List.getElem?_eq_some_iff.1 hu).1
      rw [List.getElem?_append_left (by omega), Nat.zero_mul, Nat.zero_add]; exact hu
    | succ i =>
      simp only [List.getElem?_cons_succ] at h
      rw [List.getElem?_append_right (by rw [hf, Nat.add_mul]; omega), hf, show (i + 1) * k + j - k = i * k + j by rw [Nat.add_mul]; omega]
      exact ih h

theorem fm_take {α : Type} {f : α → List Value} {k : Nat} (hf : ∀ a, (f a).length = k) : ∀ (l : List α) (i : Nat), (l.take i).flatMap f = (l.flatMap f).take (i * k)
  | [], i => by simp
  | a :: l, 0 => by simp
  | a :: l, i + 1 => by
    rw [List.take_succ_cons, List.flatMap_cons, List.flatMap_cons, fm_take hf l i, List.take_append, hf, List.take_of_length_le (l := f a) (by rw [hf, Nat.add_mul]; omega)]
    congr 2
    rw [Nat.add_mul]; omega
theorem fm_drop {α : Type} {f : α → List Value} {k : Nat} (hf : ∀ a, (f a).length = k) : ∀ (l : List α) (i : Nat), (l.drop i).flatMap f = (l.flatMap f).drop (i * k)
  | [], i => by simp
  | a :: l, 0 => by simp
  | a :: l, i + 1 => by
    rw [List.drop_succ_cons, List.flatMap_cons, fm_drop hf l i, List.drop_append, hf, List.drop_of_length_le (l := f a) (by rw [hf, Nat.add_mul]; omega), List.nil_append]
    congr 1
    rw [Nat.add_mul]; omega

/-- A readable slice with an element has an address. -/
theorem Reads.atN {w : World} {size : Nat} {ao : Option Addr} {n m c : Nat} {xs : List Value} (h : Reads w (.slice ao m c) n size xs) (hn : 0 < n) (hs : 0 < size) :
    ∃ b o, ao = some ⟨b, o, none⟩ ∧ n ≤ c ∧ m = n ∧ b < w.heap.size ∧ ∀ j u, xs[j]? = some u → w.cell? ⟨b, o + j, none⟩ = some u := by
  obtain ⟨hl, ao', c', hv, hnc, hnone, hcells⟩ := h
  cases hv
  cases ao with
  | none => have := (hnone rfl).1; omega
  | some ad =>
    obtain ⟨b, o, spot⟩ := ad
    have hp : 0 < n * size := Nat.mul_pos hn hs
    have h0 := hcells _ rfl 0 (xs[0]'(by omega)) (List.getElem?_eq_getElem (by omega))
    have hspot : spot = none := by simpa [Addr.add] using World.cell?_spot h0
    subst hspot
    refine ⟨b, o, rfl, hnc, rfl, ?_, fun j u hu => ?_⟩
    · have := World.block_lt_of_cell? w _ h0
      simpa [Addr.add] using this
    · have := hcells _ rfl j u hu
      rwa [Addr.add_lit] at this

theorem Reads.takeN {w : World} {size : Nat} {ao : Option Addr} {n c : Nat} {xs : List Value} (h : Reads w (.slice ao n c) n size xs) (i : Nat) (hi : i ≤ n) : Reads w (.slice ao i c) i size (xs.take (i * size)) := by
  obtain ⟨hl, ao', c', hv, hnc, hnone, hcells⟩ := h
  cases hv
  refine ⟨by rw [List.length_take, hl]; exact Nat.min_eq_left (Nat.mul_le_mul_right size hi), ao, c, rfl, by omega, fun h => ⟨by have := hnone h; omega, (hnone h).2⟩, fun ad had j u hu => ?_⟩
  rw [List.getElem?_take] at hu
  split at hu
  · exact hcells ad had j u hu
  · cases hu

theorem Reads.dropN {w : World} {size : Nat} {b o n c : Nat} {xs : List Value} (h : Reads w (.slice (some ⟨b, o, none⟩) n c) n size xs) (i : Nat) (hi : i ≤ n) (ao : Option Addr) (hao : ¬ c = i → ao = some ⟨b, o + i * size, none⟩) (hsome : ao ≠ none) :
    Reads w (.slice ao (n - i) (c - i)) (n - i) size (xs.drop (i * size)) := by
  obtain ⟨hl, ao', c', hv, hnc, _, hcells⟩ := h
  cases hv
  refine ⟨by rw [List.length_drop, hl, Nat.sub_mul], ao, c - i, rfl, by omega, fun h => absurd h hsome, fun ad had j u hu => ?_⟩
  have hj : j < n * size - i * size := by
    have := (List.getElem?_eq_some_iff.1 hu).1
    rw [List.length_drop, hl] at this; omega
  have hci : ¬ c = i := by rintro rfl; have : n = c := by omega
                           subst this; omega
  rw [hao hci] at had
  cases had
  have := hcells ⟨b, o, none⟩ rfl (i * size + j) u (by rw [List.getElem?_drop] at hu; exact hu)
  rw [Addr.add_lit] at this ⊢
  rw [Nat.add_assoc]; exact this

/-- The first that is hit, if one is. -/
theorem first_hit {α : Type} (l : List α) (p : α → Bool) : (∀ x ∈ l, p x = false) ∨ ∃ (i : Nat) (hi : i < l.length), p l[i] = true ∧ ∀ j (hj : j < i), p (l[j]'(by omega)) = false := by
  induction l with
  | nil => exact .inl (by simp)
  | cons a l ih =>
    cases h : p a with
    | true => exact .inr ⟨0, by simp, by simpa using h, fun j hj => by omega⟩
    | false =>
      rcases ih with h1 | ⟨i, hi, h2, h3⟩
      · exact .inl (by simp [h]; exact h1)
      · refine .inr ⟨i + 1, by simpa using hi, by simpa using h2, fun j hj => ?_⟩
        cases j with
        | zero => simpa using h
        | succ j => simpa using h3 j (by omega)

theorem filter_hit {α : Type} {p : α → Bool} : ∀ {l : List α} {i : Nat} (hi : i < l.length), p l[i] = true → (∀ j (hj : j < i), p (l[j]'(by omega)) = false) → l.filter p = l[i] :: (l.eraseIdx i).filter p
  | a :: l, 0, _, h, _ => by simp only [List.getElem_cons_zero] at h; simp [List.filter_cons, h]
  | a :: l, i + 1, hi, h, hlow => by
    have h0 := hlow 0 (by omega)
    simp only [List.getElem_cons_zero] at h0
    simp only [List.getElem_cons_succ] at h
    rw [List.filter_cons, h0, List.eraseIdx_cons_succ, List.filter_cons, h0]
    simp only [Bool.false_eq_true, if_false, List.getElem_cons_succ]
    exact filter_hit (by simpa using hi) h (fun j hj => by simpa using hlow (j + 1) (by omega))
theorem filter_other {α : Type} {p : α → Bool} : ∀ {l : List α} {i : Nat} (hi : i < l.length), p l[i] = false → (l.eraseIdx i).filter p = l.filter p
  | a :: l, 0, _, h => by simp only [List.getElem_cons_zero] at h; simp [List.filter_cons, h]
  | a :: l, i + 1, hi, h => by
    simp only [List.getElem_cons_succ] at h
    rw [List.eraseIdx_cons_succ, List.filter_cons, List.filter_cons, filter_other (by simpa using hi) h]

theorem erase_take_drop {α : Type} : ∀ (l : List α) (i : Nat), l.eraseIdx i = l.take i ++ l.drop (i + 1)
  | [], i => by simp
  | a :: l, 0 => by simp
  | a :: l, i + 1 => by rw [List.eraseIdx_cons_succ, erase_take_drop l i]; rfl
end Go.Proofs.YtpijpeocdlnhiaaGreatDoor
namespace Go.Proofs.YtpijpeocdlnhiaaGreatDoor
set_option linter.unusedVariables false
set_option linter.unusedSimpArgs false
open Go.RowKit

/-- A block without a cell, as a row. -/
theorem Row.bare {w : World} {e : TypeId} {size b : Nat} (h : w.heap[b]? = some (.cells #[] e (0, 0))) : Row w e size (.slice (some ⟨b, 0, none⟩) 0 0) 0 [] (fun k => k = b) :=
  ⟨by simp, .inr ⟨b, 0, 0, #[], rfl, rfl, h, Nat.le_refl _, Nat.zero_le _, by simp, by simp⟩⟩

theorem alloc2_low (w : World) (a b : Obj) : ((w.alloc a).alloc b).heap[w.heap.size]? = (w.alloc a).heap[w.heap.size]? := Below.heap_alloc _ _ _ (by simp)
theorem alloc2_high (w : World) (a b : Obj) {c : Obj} (h : ((w.alloc a).alloc b).heap[(w.alloc a).heap.size]? = some c) : ((w.alloc a).alloc b).heap[w.heap.size + 1]? = some c := by
  rwa [World.size_alloc] at h

section
variable {wd w1 w2 : World} {T : TypeId} {sz n m : Nat} {v1 v2 : Value} {xs ys : List Value} {E O : Obj}

theorem first_a (hr : Row w1 T sz v1 (0 + n) ([] ++ xs) (fun k => k = wd.heap.size ∨ (wd.drew.alloc E).heap.size ≤ k)) (hc : Chg (fun k => k = wd.heap.size) (wd.drew.alloc E) w1) :
    Row w1 T sz v1 n xs (fun k => wd.heap.size ≤ k) ∧ Below wd.heap.size wd w1 := by
  rw [Nat.zero_add, List.nil_append] at hr
  refine ⟨hr.mono (fun k hk => ?_), ((Below.refl wd.heap.size wd).drew.alloc (show wd.heap.size ≤ wd.drew.heap.size from Nat.le_refl _) _).trans (hc.toBelow (by simp) (fun j hj e => by have e2 : j = wd.heap.size := e; omega))⟩
  simp only [World.size_alloc, World.size_drew] at hk; omega

theorem first_b (hr : Row w1 T sz v1 (0 + n) ([] ++ xs) (fun k => k = wd.heap.size ∨ ((wd.drew.alloc E).alloc O).heap.size ≤ k)) (hc : Chg (fun k => k = wd.heap.size) ((wd.drew.alloc E).alloc O) w1) :
    Row w1 T sz v1 n xs (fun k => wd.heap.size ≤ k ∧ k ≠ wd.heap.size + 1) ∧ Below wd.heap.size wd w1 ∧ w1.heap[wd.heap.size + 1]? = ((wd.drew.alloc E).alloc O).heap[wd.heap.size + 1]? := by
  rw [Nat.zero_add, List.nil_append] at hr
  refine ⟨hr.mono (fun k hk => ?_), (((Below.refl wd.heap.size wd).drew.alloc (show wd.heap.size ≤ wd.drew.heap.size from Nat.le_refl _) _).alloc (by simp) _).trans (hc.toBelow (by simp; omega) (fun j hj e => by have e2 : j = wd.heap.size := e; omega)), hc.block _ (by simp) (fun e => by have e2 : wd.heap.size + 1 = wd.heap.size := e; omega)⟩
  simp only [World.size_alloc, World.size_drew] at hk; omega

theorem first_c (hr : Row w1 T sz v1 (0 + n) ([] ++ xs) (fun k => k = wd.heap.size + 1 ∨ ((wd.drew.alloc O).alloc E).heap.size ≤ k)) (hc : Chg (fun k => k = wd.heap.size + 1) ((wd.drew.alloc O).alloc E) w1) :
    Row w1 T sz v1 n xs (fun k => wd.heap.size ≤ k ∧ k ≠ wd.heap.size) ∧ Below wd.heap.size wd w1 ∧ w1.heap[wd.heap.size]? = ((wd.drew.alloc O).alloc E).heap[wd.heap.size]? := by
  rw [Nat.zero_add, List.nil_append] at hr
  refine ⟨hr.mono (fun k hk => ?_), (((Below.refl wd.heap.size wd).drew.alloc (show wd.heap.size ≤ wd.drew.heap.size from Nat.le_refl _) _).alloc (by simp) _).trans (hc.toBelow (by simp; omega) (fun j hj e => by have e2 : j = wd.heap.size + 1 := e; omega)), hc.block _ (by simp; omega) (fun e => by have e2 : wd.heap.size = wd.heap.size + 1 := e; omega)⟩
  simp only [World.size_alloc, World.size_drew] at hk; omega

/-- The next append; the literal was made just ahead of it, or no literal is needed. -/
theorem next_a {w0 : World} (hb : Below wd.heap.size wd w0) (hr : Row w2 T sz v2 (n + m) (xs ++ ys) (fun k => wd.heap.size ≤ k ∨ w0.heap.size ≤ k)) (hc : Chg (fun k => wd.heap.size ≤ k) w0 w2) :
    Row w2 T sz v2 (n + m) (xs ++ ys) (fun k => wd.heap.size ≤ k) ∧ Below wd.heap.size wd w2 := by
  have h1 := hb.size
  exact ⟨hr.mono (fun k hk => by omega), hb.trans (hc.toBelow h1 (fun j hj e => by have e2 : wd.heap.size ≤ j := e; omega))⟩
theorem next_b {w0 : World} {ob : Nat} (hb : Below wd.heap.size wd w0) (hr : Row w2 T sz v2 (n + m) (xs ++ ys) (fun k => (wd.heap.size ≤ k ∧ k ≠ ob) ∨ w0.heap.size ≤ k)) (hc : Chg (fun k => wd.heap.size ≤ k ∧ k ≠ ob) w0 w2) :
    Row w2 T sz v2 (n + m) (xs ++ ys) (fun k => wd.heap.size ≤ k) ∧ Below wd.heap.size wd w2 := by
  have h1 := hb.size
  exact ⟨hr.mono (fun k hk => by omega), hb.trans (hc.toBelow h1 (fun j hj e => by have e2 : wd.heap.size ≤ j ∧ j ≠ ob := e; omega))⟩
/-- One element onto a list without one. -/
theorem only_b (hr : Row w2 T sz v2 (0 + m) ([] ++ ys) (fun k => k = wd.heap.size ∨ ((wd.drew.alloc E).alloc O).heap.size ≤ k)) (hc : Chg (fun k => k = wd.heap.size) ((wd.drew.alloc E).alloc O) w2) :
    Row w2 T sz v2 m ys (fun k => wd.heap.size ≤ k) ∧ Below wd.heap.size wd w2 := by
  obtain ⟨h1, h2, -⟩ := first_b hr hc
  exact ⟨h1.mono (fun k hk => hk.1), h2⟩
theorem only_c (hr : Row w2 T sz v2 (0 + m) ([] ++ ys) (fun k => k = wd.heap.size + 1 ∨ ((wd.drew.alloc O).alloc E).heap.size ≤ k)) (hc : Chg (fun k => k = wd.heap.size + 1) ((wd.drew.alloc O).alloc E) w2) :
    Row w2 T sz v2 m ys (fun k => wd.heap.size ≤ k) ∧ Below wd.heap.size wd w2 := by
  obtain ⟨h1, h2, -⟩ := first_c hr hc
  exact ⟨h1.mono (fun k hk => hk.1), h2⟩
theorem bel_alloc {w0 : World} (hb : Below wd.heap.size wd w0) (o : Obj) : Below wd.heap.size wd (w0.alloc o) := hb.alloc hb.size o
end

/-- One known block of one element, as a slice. -/
theorem Reads.single {w : World} {b : Nat} {cs : Array Value} {t : TypeId} {f : Nat × Nat} (h : w.heap[b]? = some (.cells cs t f)) : Reads w (.slice (some ⟨b, 0, none⟩) 1 1) 1 cs.size cs.toList := Reads.block h 1 cs.size (by rw [Nat.one_mul])
end Go.Proofs.YtpijpeocdlnhiaaGreatDoor
