/- Operations on an inbox and on the reference, one behind the other. -/
import Derived.Test.YtbofbboogmeneaaOpenOps
import Derived.Test.YtbofbboogmeneaaSame
import Derived.Deep.RegionHeld3
namespace Go.Proofs.Ytbofbboogmeneaa
set_option linter.unusedVariables false
set_option linter.unusedSimpArgs false
open Go.RowKit

theorem bel_step {wy a b : World} (h : Hid (Below wy.heap.size wy a)) (hb : Below a.heap.size a b) : Hid (Below wy.heap.size wy b) := h.out.trans (hb.mono h.out.size)

theorem store2 {w : World} {B : Nat} {x0 x1 : Value} {t : TypeId} (h : w.heap[B]? = some (.cells #[x0, x1] t (0, 0))) (a b : Value) :
    Chg (fun k => k = B) w ((w.setCell ⟨B, 0, none⟩ a).setCell ⟨B, 1, none⟩ b) ∧ ((w.setCell ⟨B, 0, none⟩ a).setCell ⟨B, 1, none⟩ b).heap[B]? = some (.cells #[a, b] t (0, 0)) :=
  ⟨((Chg.refl (fun k => k = B) w).setCell (p := ⟨B, 0, none⟩) (.inl rfl) a).setCell (p := ⟨B, 1, none⟩) (.inl rfl) b, heap_store (heap_store h 0 a) 1 b⟩
theorem store5 {w : World} {B : Nat} {x0 x1 x2 x3 x4 : Value} {t : TypeId} (h : w.heap[B]? = some (.cells #[x0, x1, x2, x3, x4] t (0, 0))) (a b c d e : Value) :
    Chg (fun k => k = B) w (((((w.setCell ⟨B, 0, none⟩ a).setCell ⟨B, 1, none⟩ b).setCell ⟨B, 2, none⟩ c).setCell ⟨B, 3, none⟩ d).setCell ⟨B, 4, none⟩ e) ∧
      (((((w.setCell ⟨B, 0, none⟩ a).setCell ⟨B, 1, none⟩ b).setCell ⟨B, 2, none⟩ c).setCell ⟨B, 3, none⟩ d).setCell ⟨B, 4, none⟩ e).heap[B]? = some (.cells #[a, b, c, d, e] t (0, 0)) :=
  ⟨(((((Chg.refl (fun k => k = B) w).setCell (p := ⟨B, 0, none⟩) (.inl rfl) a).setCell (p := ⟨B, 1, none⟩) (.inl rfl) b).setCell (p := ⟨B, 2, none⟩) (.inl rfl) c).setCell (p := ⟨B, 3, none⟩) (.inl rfl) d).setCell (p := ⟨B, 4, none⟩) (.inl rfl) e, heap_store (heap_store (heap_store (heap_store (heap_store h 0 a) 1 b) 2 c) 3 d) 4 e⟩

/-- The state between two operations. -/
structure PlayAt (w00 w0 w : World) (x : Value) (n B4 B6 : Nat) (lv wv : Value) (M : List Let) (Ws : List (ByteArray × Nat)) (V : ByteArray → List VV) (W : Nat → Option ByteArray) (S T R : Nat → Prop) : Prop where
  inv : Inv w00 w0 w x lv wv M Ws V W S T R
  len : M.length ≤ n ∧ Ws.length ≤ n
  b6 : w.heap[B6]? = some (.cells #[lv, wv] 53 (0, 0))
  b4 : w.heap[B4]? = some (.cells #[.slice none 0 0, .slice none 0 0] 53 (0, 0))
  o6 : w0.heap.size ≤ B6 ∧ ¬ S B6 ∧ ¬ T B6 ∧ ¬ R B6
  o4 : w0.heap.size ≤ B4 ∧ ¬ S B4 ∧ ¬ T B4 ∧ ¬ R B4
  ne : B4 ≠ B6

section
variable {w00 w0 w w' : World} {x lv wv : Value} {n B4 B6 : Nat} {M : List Let} {Ws : List (ByteArray × Nat)} {V : ByteArray → List VV} {W : Nat → Option ByteArray} {S T R : Nat → Prop}
theorem PlayAt.later (h : PlayAt w00 w0 w x n B4 B6 lv wv M Ws V W S T R) (hb : Below w.heap.size w w') : PlayAt w00 w0 w' x n B4 B6 lv wv M Ws V W S T R :=
  { h with inv := h.inv.later hb, b6 := (hb.block _ (lt_of_heap h.b6)).trans h.b6, b4 := (hb.block _ (lt_of_heap h.b4)).trans h.b4 }
/-- Behind one operation on both: the reference's new lists are stored. -/
theorem PlayAt.step (h : PlayAt w00 w0 w x n B4 B6 lv wv M Ws V W S T R) {w1 w2 w3 : World} {lv' wv' : Value} {Mb : List Let} {Wb : List (ByteArray × Nat)} {V' : ByteArray → List VV} {W' : Nat → Option ByteArray} {S' T' : Nat → Prop}
    (hc : Chg S w w1) (hS : ∀ k, S' k → S k ∨ w.heap.size ≤ k) (hT : ∀ k, T' k → T k ∨ w.heap.size ≤ k) (hM : Mb.length ≤ n + 1) (hW : Wb.length ≤ n + 1)
    {P : Nat → Prop} (hc2 : Chg P w1 w2) (hP6 : ¬ P B6) (hP4 : ¬ P B4) (hd : RefDone w00 w0 w1 w2 x V' W' S' T' R Mb Wb lv' wv' w3) :
    ∃ R', PlayAt w00 w0 ((w3.setCell ⟨B6, 0, none⟩ lv').setCell ⟨B6, 1, none⟩ wv') x (n + 1) B4 B6 lv' wv' Mb Wb V' W' S' T' R' ∧ Below w2.heap.size w2 w3 ∧ (∀ k, R' k → R k ∨ w2.heap.size ≤ k) := by
  obtain ⟨R', hb3, hinv, hR⟩ := hd
  have l6 := lt_of_heap h.b6
  have l4 := lt_of_heap h.b4
  have s1 := hc.size
  have s2 := hc2.size
  have s3 := hb3.size
  have b6 := ((hb3.block _ (by omega)).trans (hc2.heap (hc.heap h.b6 h.o6.2.1) hP6))
  have b4 := ((hb3.block _ (by omega)).trans (hc2.heap (hc.heap h.b4 h.o4.2.1) hP4))
  have fr : ∀ k, k < w.heap.size → (w0.heap.size ≤ k ∧ ¬ S k ∧ ¬ T k ∧ ¬ R k) → w0.heap.size ≤ k ∧ ¬ S' k ∧ ¬ T' k ∧ ¬ R' k := fun k hk ho => by
    refine ⟨ho.1, fun e => ?_, fun e => ?_, fun e => ?_⟩
    · rcases hS k e with h1 | h1; exact ho.2.1 h1; omega
    · rcases hT k e with h1 | h1; exact ho.2.2.1 h1; omega
    · rcases hR k e with h1 | h1; exact ho.2.2.2 h1; omega
  obtain ⟨hch, hst⟩ := store2 b6 lv' wv'
  have o6 := fr B6 l6 h.o6
  refine ⟨R', ⟨hinv.other hch (fun k hk => by subst hk; exact o6), ⟨hM, hW⟩, hst, ?_, o6, fr B4 l4 h.o4, h.ne⟩, hb3, hR⟩
  exact hch.heap b4 h.ne
/-- A store into a variable of the caller's own. -/
theorem PlayAt.beside (h : PlayAt w00 w0 w x n B4 B6 lv wv M Ws V W S T R) {P : Nat → Prop} (hc : Chg P w w') (hP : ∀ k, P k → w0.heap.size ≤ k ∧ ¬ S k ∧ ¬ T k ∧ ¬ R k ∧ k ≠ B6 ∧ k ≠ B4) : PlayAt w00 w0 w' x n B4 B6 lv wv M Ws V W S T R :=
  { h with inv := h.inv.other hc (fun k hk => ⟨(hP k hk).1, (hP k hk).2.1, (hP k hk).2.2.1, (hP k hk).2.2.2.1⟩), b6 := hc.heap h.b6 (fun e => (hP _ e).2.2.2.2.1 rfl), b4 := hc.heap h.b4 (fun e => (hP _ e).2.2.2.2.2 rfl) }
end
end Go.Proofs.Ytbofbboogmeneaa
