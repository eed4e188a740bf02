/- What is known behind appends onto a new list, in whatever order its literals were made; no program in sight. -/
import Derived.Test.YtoocagpjcbagoaaDoorRows2
namespace Go.Proofs.YtoocagpjcbagoaaDoor
set_option linter.unusedVariables false
set_option linter.unusedSimpArgs false
open Go.RowKit

/-- A block without a cell, as a row. -/
theorem Row.bare {w : World} {e : TypeId} {size b : Nat} (h : w.heap[b]? = some (.cells #[] e (0, 0))) : Row w e size (.slice (some ⟨b, 0, none⟩) 0 0) 0 [] (fun k => k = b) :=
  ⟨by simp, .inr ⟨b, 0, 0, #[], rfl, rfl, h, Nat.le_refl _, Nat.zero_le _, by simp, by simp⟩⟩

theorem alloc2_low (w : World) (a b : Obj) : ((w.alloc a).alloc b).heap[w.heap.size]? = (w.alloc a).heap[w.heap.size]? := Below.heap_alloc _ _ _ (by simp)
theorem alloc2_high (w : World) (a b : Obj) {c : Obj} (h : ((w.alloc a).alloc b).heap[(w.alloc a).heap.size]? = some c) : ((w.alloc a).alloc b).heap[w.heap.size + 1]? = some c := by
  rwa [World.size_alloc] at h

section
variable {wd w1 w2 : World} {T : TypeId} {sz n m : Nat} {v1 v2 : Value} {xs ys : List Value} {E O : Obj}

theorem first_a (hr : Row w1 T sz v1 (0 + n) ([] ++ xs) (fun k => k = wd.heap.size ∨ (wd.drew.alloc E).heap.size ≤ k)) (hc : Chg (fun k => k = wd.heap.size) (wd.drew.alloc E) w1) :
    Row w1 T sz v1 n xs (fun k => wd.heap.size ≤ k) ∧ Below wd.heap.size wd w1 := by
  rw [Nat.zero_add, List.nil_append] at hr
  refine ⟨hr.mono (fun k hk => ?_), ((Below.refl wd.heap.size wd).drew.alloc (show wd.heap.size ≤ wd.drew.heap.size from Nat.le_refl _) _).trans (hc.toBelow (by simp) (fun j hj e => by have e2 : j = wd.heap.size := e; omega))⟩
  simp only [World.size_alloc, World.size_drew] at hk; omega

theorem first_b (hr : Row w1 T sz v1 (0 + n) ([] ++ xs) (fun k => k = wd.heap.size ∨ ((wd.drew.alloc E).alloc O).heap.size ≤ k)) (hc : Chg (fun k => k = wd.heap.size) ((wd.drew.alloc E).alloc O) w1) :
    Row w1 T sz v1 n xs (fun k => wd.heap.size ≤ k ∧ k ≠ wd.heap.size + 1) ∧ Below wd.heap.size wd w1 ∧ w1.heap[wd.heap.size + 1]? = ((wd.drew.alloc E).alloc O).heap[wd.heap.size + 1]? := by
  rw [Nat.zero_add, List.nil_append] at hr
  refine ⟨hr.mono (fun k hk => ?_), (((Below.refl wd.heap.size wd).drew.alloc (show wd.heap.size ≤ wd.drew.heap.size from Nat.le_refl _) _).alloc (by simp) _).trans (hc.toBelow (by simp; omega) (fun j hj e => by have e2 : j = wd.heap.size := e; omega)), hc.block _ (by simp) (fun e => by have e2 : wd.heap.size + 1 = wd.heap.size := e; omega)⟩
  simp only [World.size_alloc, World.size_drew] at hk; omega

theorem first_c (hr : Row w1 T sz v1 (0 + n) ([] ++ xs) (fun k => k = wd.heap.size + 1 ∨ ((wd.drew.alloc O).alloc E).heap.size ≤ k)) (hc : Chg (fun k => k = wd.heap.size + 1) ((wd.drew.alloc O).alloc E) w1) :
    Row w1 T sz v1 n xs (fun k => wd.heap.size ≤ k ∧ k ≠ wd.heap.size) ∧ Below wd.heap.size wd w1 ∧ w1.heap[wd.heap.size]? = ((wd.drew.alloc O).alloc E).heap[wd.heap.size]? := by
  rw [Nat.zero_add, List.nil_append] at hr
  refine ⟨hr.mono (fun k hk => ?_), (((Below.refl wd.heap.size wd).drew.alloc (show wd.heap.size ≤ wd.drew.heap.size from Nat.le_refl _) _).alloc (by simp) _).trans (hc.toBelow (by simp; omega) (fun j hj e => by have e2 : j = wd.heap.size + 1 := e; omega)), hc.block _ (by simp; omega) (fun e => by have e2 : wd.heap.size = wd.heap.size + 1 := e; omega)⟩
  simp only [World.size_alloc, World.size_drew] at hk; omega

/-- The next append; the literal was made just ahead of it, or no literal is needed. -/
theorem next_a {w0 : World} (hb : Below wd.heap.size wd w0) (hr : Row w2 T sz v2 (n + m) (xs ++ ys) (fun k => wd.heap.size ≤ k ∨ w0.heap.size ≤ k)) (hc : Chg (fun k => wd.heap.size ≤ k) w0 w2) :
    Row w2 T sz v2 (n + m) (xs ++ ys) (fun k => wd.heap.size ≤ k) ∧ Below wd.heap.size wd w2 := by
  have h1 := hb.size
  exact ⟨hr.mono (fun k hk => by omega), hb.trans (hc.toBelow h1 (fun j hj e => by have e2 : wd.heap.size ≤ j := e; omega))⟩
theorem next_b {w0 : World} {ob : Nat} (hb : Below wd.heap.size wd w0) (hr : Row w2 T sz v2 (n + m) (xs ++ ys) (fun k => (wd.heap.size ≤ k ∧ k ≠ ob) ∨ w0.heap.size ≤ k)) (hc : Chg (fun k => wd.heap.size ≤ k ∧ k ≠ ob) w0 w2) :
    Row w2 T sz v2 (n + m) (xs ++ ys) (fun k => wd.heap.size ≤ k) ∧ Below wd.heap.size wd w2 := by
  have h1 := hb.size
  exact ⟨hr.mono (fun k hk => by omega), hb.trans (hc.toBelow h1 (fun j hj e => by have e2 : wd.heap.size ≤ j ∧ j ≠ ob := e; omega))⟩
/-- One element onto a list without one. -/
theorem only_b (hr : Row w2 T sz v2 (0 + m) ([] ++ ys) (fun k => k = wd.heap.size ∨ ((wd.drew.alloc E).alloc O).heap.size ≤ k)) (hc : Chg (fun k => k = wd.heap.size) ((wd.drew.alloc E).alloc O) w2) :
    Row w2 T sz v2 m ys (fun k => wd.heap.size ≤ k) ∧ Below wd.heap.size wd w2 := by
  obtain ⟨h1, h2, -⟩ := first_b hr hc
  exact ⟨h1.mono (fun k hk => hk.1), h2⟩
theorem only_c (hr : Row w2 T sz v2 (0 + m) ([] ++ ys) (fun k => k = wd.heap.size + 1 ∨ ((wd.drew.alloc O).alloc E).heap.size ≤ k)) (hc : Chg (fun k => k = wd.heap.size + 1) ((wd.drew.alloc O).alloc E) w2) :
    Row w2 T sz v2 m ys (fun k => wd.heap.size ≤ k) ∧ Below wd.heap.size wd w2 := by
  obtain ⟨h1, h2, -⟩ := first_c hr hc
  exact ⟨h1.mono (fun k hk => hk.1), h2⟩
theorem bel_alloc {w0 : World} (hb : Below wd.heap.size wd w0) (o : Obj) : Below wd.heap.size wd (w0.alloc o) := hb.alloc hb.size o
end

/-- One known block of one element, as a slice. -/
theorem Reads.single {w : World} {b : Nat} {cs : Array Value} {t : TypeId} {f : Nat × Nat} (h : w.heap[b]? = some (.cells cs t f)) : Reads w (.slice (some ⟨b, 0, none⟩) 1 1) 1 cs.size cs.toList := Reads.block h 1 cs.size (by rw [Nat.one_mul])
end Go.Proofs.YtoocagpjcbagoaaDoor
