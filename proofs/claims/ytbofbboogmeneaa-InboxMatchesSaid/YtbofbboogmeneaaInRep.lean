/- An inbox in memory: three maps, piles and queues that lie apart. -/
import Derived.Test.YtbofbboogmeneaaPop
import Derived.Test.YtbofbboogmeneaaLeaf
import Derived.Test.YtbofbboogmeneaaQueue2
namespace Go.Proofs.Ytbofbboogmeneaa
set_option linter.unusedVariables false
set_option linter.unusedSimpArgs false
open Go.RowKit

theorem keyS : KeyOk Try.prog 9 ByteArray Value.string := keyString Try.underlying9

theorem Row.tight {w : World} {e : TypeId} {size : Nat} {v : Value} {n : Nat} {xs : List Value} {S : Nat → Prop} (h : Row w e size v n xs S) : Row w e size v n xs (fun k => S k ∧ k < w.heap.size) := by
  refine ⟨h.1, ?_⟩
  rcases h.2 with h2 | ⟨g, off, cap, cur, hv, hg, hh, r⟩
  · exact .inl h2
  · exact .inr ⟨g, off, cap, cur, hv, ⟨hg, lt_of_heap hh⟩, hh, r⟩

theorem PRep.tight {w : World} {p : Value} {l : List VV} {S : Nat → Prop} (h : PRep w p l S) : PRep w p l (fun k => S k ∧ k < w.heap.size) := by
  obtain ⟨bp, lv, R, h1, h2, h3, h4, h5, h6⟩ := h
  exact ⟨bp, lv, _, h1, h2, h3.tight, h4, ⟨h5, lt_of_heap h2⟩, fun k hk => ⟨⟨(h6 k hk.1).1, hk.2⟩, (h6 k hk.1).2⟩⟩

theorem QRep.tight {w : World} {p : Value} {l : List Nat} {S : Nat → Prop} (h : QRep w p l S) : QRep w p l (fun k => S k ∧ k < w.heap.size) := by
  obtain ⟨bq, bm, lv, R, h1, h2, h3, h4, h5, h6, h7, h8, h9, h10⟩ := h
  exact ⟨bq, bm, lv, _, h1, h2, h3.tight, h4, h5, h6, ⟨h7, lt_of_heap h2⟩, ⟨h8, h4.lt⟩, h9, fun k hk => ⟨⟨(h10 k hk.1).1, hk.2⟩, (h10 k hk.1).2⟩⟩

/-- A function, changed at one place. -/
def upd {κ β : Type} [DecidableEq κ] (f : κ → β) (k : κ) (v : β) : κ → β := fun y => if y = k then v else f y
theorem upd_same {κ β : Type} [DecidableEq κ] (f : κ → β) (k : κ) (v : β) : upd f k v k = v := if_pos rfl
theorem upd_other {κ β : Type} [DecidableEq κ] (f : κ → β) {k y : κ} (v : β) (h : y ≠ k) : upd f k v y = f y := if_neg h

/-- What a map of lists holds: nothing for the empty ones. -/
def vmap {α : Type} (V : ByteArray → List α) (pv : ByteArray → Value) : ByteArray → Option Value := fun n => if (V n).isEmpty then none else some (pv n)
theorem vmap_some {α : Type} {V : ByteArray → List α} {pv : ByteArray → Value} {n : ByteArray} (h : V n ≠ []) : vmap V pv n = some (pv n) := by
  unfold vmap; rw [if_neg]; simpa using h
theorem vmap_none {α : Type} {V : ByteArray → List α} {pv : ByteArray → Value} {n : ByteArray} (h : V n = []) : vmap V pv n = none := by
  unfold vmap; rw [if_pos]; simpa using h
theorem vmap_put {α : Type} (V : ByteArray → List α) (pv : ByteArray → Value) (n : ByteArray) (l : List α) (p : Value) (h : l ≠ []) :
    (fun y => if y = n then some p else vmap V pv y) = vmap (upd V n l) (upd pv n p) := by
  funext y
  by_cases hy : y = n
  · subst hy; rw [if_pos rfl, vmap_some (by rw [upd_same]; exact h), upd_same]
  · rw [if_neg hy]; unfold vmap; rw [upd_other _ _ hy, upd_other _ _ hy]
theorem vmap_del {α : Type} (V : ByteArray → List α) (pv : ByteArray → Value) (n : ByteArray) (p : Value) :
    (fun y => if y = n then none else vmap V pv y) = vmap (upd V n []) (upd pv n p) := by
  funext y
  by_cases hy : y = n
  · subst hy; rw [if_pos rfl, vmap_none (by rw [upd_same])]
  · rw [if_neg hy]; unfold vmap; rw [upd_other _ _ hy, upd_other _ _ hy]
theorem vmap_keep {α : Type} (V : ByteArray → List α) (pv : ByteArray → Value) (n : ByteArray) (l : List α) (h : l ≠ []) (h2 : V n ≠ []) :
    vmap V pv = vmap (upd V n l) (upd pv n (pv n)) := by
  rw [← vmap_put V pv n l (pv n) h]
  funext y
  by_cases hy : y = n
  · subst hy; rw [if_pos rfl, vmap_some h2]
  · rw [if_neg hy]

/-- To which part of an inbox a block belongs. -/
inductive Tag where
  | own
  | pile (n : ByteArray)
  | line (n : ByteArray)

/-- An inbox in memory, its parts named. -/
structure InAt (w : World) (V : ByteArray → List VV) (Q : ByteArray → List Nat) (W : Nat → Option ByteArray) (S : Nat → Prop) (bx bv bq bw : Nat) (col : Nat → Tag) (pv pq : ByteArray → Value) : Prop where
  blk : w.heap[bx]? = some (.cells #[.map (some bv), .map (some bq), .map (some bw)] 64 (0, 0))
  mv : MapFn w Value.string bv (vmap V pv)
  mq : MapFn w Value.string bq (vmap Q pq)
  mw : MapFn w encU bw (fun k => (W k).map Value.string)
  piles : ∀ n, V n ≠ [] → PRep w (pv n) (V n) (fun k => S k ∧ col k = .pile n)
  lines : ∀ n, Q n ≠ [] → QRep w (pq n) (Q n) (fun k => S k ∧ col k = .line n)
  who : ∀ k n, W k = some n ↔ k ∈ Q n
  sx : S bx ∧ S bv ∧ S bq ∧ S bw
  cx : col bx = .own ∧ col bv = .own ∧ col bq = .own ∧ col bw = .own
  ne : bx ≠ bv ∧ bx ≠ bq ∧ bx ≠ bw ∧ bv ≠ bq ∧ bv ≠ bw ∧ bq ≠ bw

/-- An inbox in memory, in blocks of S. -/
def IRep (w : World) (x : Value) (V : ByteArray → List VV) (Q : ByteArray → List Nat) (W : Nat → Option ByteArray) (S : Nat → Prop) : Prop :=
  ∃ bx bv bq bw col pv pq, x = .pointer (some ⟨bx, 0, none⟩) ∧ InAt w V Q W S bx bv bq bw col pv pq

section
variable {w w' : World} {V : ByteArray → List VV} {Q : ByteArray → List Nat} {W : Nat → Option ByteArray} {S : Nat → Prop} {bx bv bq bw : Nat} {col : Nat → Tag} {pv pq : ByteArray → Value}

theorem IRep.frame {x : Value} (h : IRep w x V Q W S) (hb : ∀ k, S k → k < w.heap.size → w'.heap[k]? = w.heap[k]?) : IRep w' x V Q W S := by
  obtain ⟨bx, bv, bq, bw, col, pv, pq, rfl, h⟩ := h
  refine ⟨bx, bv, bq, bw, col, pv, pq, rfl, ?_⟩
  obtain ⟨s1, s2, s3, s4⟩ := h.sx
  exact { blk := by rw [hb bx s1 (lt_of_heap h.blk)]; exact h.blk
          mv := h.mv.frame (hb bv s2 h.mv.lt)
          mq := h.mq.frame (hb bq s3 h.mq.lt)
          mw := h.mw.frame (hb bw s4 h.mw.lt)
          piles := fun n hn => (h.piles n hn).frame (fun k hk => hb k hk.1)
          lines := fun n hn => (h.lines n hn).frame (fun k hk => hb k hk.1)
          who := h.who
          sx := h.sx
          cx := h.cx
          ne := h.ne }

theorem IRep.mono {x : Value} {T : Nat → Prop} (h : IRep w x V Q W S) (hT : ∀ k, S k → T k) : IRep w x V Q W T := by
  obtain ⟨bx, bv, bq, bw, col, pv, pq, rfl, h⟩ := h
  refine ⟨bx, bv, bq, bw, col, pv, pq, rfl, ?_⟩
  obtain ⟨s1, s2, s3, s4⟩ := h.sx
  exact { h with
          piles := fun n hn => (h.piles n hn).mono (fun k hk => ⟨hT k hk.1, hk.2⟩)
          lines := fun n hn => (h.lines n hn).mono (fun k hk => ⟨hT k hk.1, hk.2⟩)
          sx := ⟨hT _ s1, hT _ s2, hT _ s3, hT _ s4⟩ }

/-- The new colouring: new blocks belong to the part that was changed. -/
def paint (col : Nat → Tag) (N : Nat) (t : Tag) : Nat → Tag := fun k => if k < N then col k else t

theorem paint_old {col : Nat → Tag} {N : Nat} {t : Tag} {k : Nat} (h : k < N) : paint col N t k = col k := if_pos h
theorem paint_new {col : Nat → Tag} {N : Nat} {t : Tag} {k : Nat} (h : N ≤ k) : paint col N t k = t := if_neg (by omega)

/-- The values of one name have changed. -/
theorem InAt.setVN {N : Nat → Prop} (hN : ∀ k, N k → w.heap.size ≤ k) (h : InAt w V Q W S bx bv bq bw col pv pq) (n : ByteArray) (l' : List VV) (p' : Value) (hC : Chg (fun k => k = bv ∨ (S k ∧ col k = .pile n)) w w')
    (hm : MapFn w' Value.string bv (vmap (upd V n l') (upd pv n p'))) (hp : l' ≠ [] → PRep w' p' l' (fun k => (S k ∧ col k = .pile n) ∨ N k)) :
    IRep w' (.pointer (some ⟨bx, 0, none⟩)) (upd V n l') Q W (fun k => S k ∨ N k) := by
  refine ⟨bx, bv, bq, bw, paint col w.heap.size (.pile n), upd pv n p', pq, rfl, ?_⟩
  obtain ⟨s1, s2, s3, s4⟩ := h.sx
  obtain ⟨c1, c2, c3, c4⟩ := h.cx
  obtain ⟨n1, n2, n3, n4, n5, n6⟩ := h.ne
  have lx := lt_of_heap h.blk
  have lv := h.mv.lt
  have lq := h.mq.lt
  have lw := h.mw.lt
  refine { blk := hC.heap h.blk ?_, mv := hm, mq := h.mq.frame (hC.block bq lq ?_), mw := h.mw.frame (hC.block bw lw ?_), piles := fun m hm0 => ?_, lines := fun m hm0 => ?_, who := h.who, sx := ⟨.inl s1, .inl s2, .inl s3, .inl s4⟩, cx := ?_, ne := h.ne }
  · rintro (e | e); exact n1 e; rw [c1] at e; cases e.2
  · rintro (e | e); exact n4 e.symm; rw [c3] at e; cases e.2
  · rintro (e | e); exact n5 e.symm; rw [c4] at e; cases e.2
  · by_cases hmn : m = n
    · subst hmn
      rw [upd_same] at hm0
      rw [upd_same, upd_same]
      refine (hp hm0).mono (fun k hk => ?_)
      rcases hk with hk | hk
      · refine ⟨.inl hk.1, ?_⟩
        by_cases hl : k < w.heap.size
        · rw [paint_old hl]; exact hk.2
        · rw [paint_new (by omega)]
      · exact ⟨.inr hk, paint_new (hN k hk)⟩
    · rw [upd_other _ _ hmn] at hm0
      rw [upd_other _ _ hmn, upd_other _ _ hmn]
      refine ((h.piles m hm0).tight.frame (w' := w') (fun k hk hl => hC.block k hl ?_)).mono (fun k hk => ⟨.inl hk.1.1, ?_⟩)
      · rintro (e | e)
        · have := hk.1.2; rw [e, c2] at this; cases this
        · have := hk.1.2; rw [e.2] at this; exact hmn (Tag.pile.inj this).symm
      · rw [paint_old hk.2]; exact hk.1.2
  · refine ((h.lines m hm0).tight.frame (w' := w') (fun k hk hl => hC.block k hl ?_)).mono (fun k hk => ⟨.inl hk.1.1, ?_⟩)
    · rintro (e | e)
      · have := hk.1.2; rw [e, c2] at this; cases this
      · have := hk.1.2; rw [e.2] at this; cases this
    · rw [paint_old hk.2]; exact hk.1.2
  · rw [paint_old lx, paint_old lv, paint_old lq, paint_old lw]; exact h.cx

theorem InAt.setV (h : InAt w V Q W S bx bv bq bw col pv pq) (n : ByteArray) (l' : List VV) (p' : Value) (hC : Chg (fun k => k = bv ∨ (S k ∧ col k = .pile n)) w w')
    (hm : MapFn w' Value.string bv (vmap (upd V n l') (upd pv n p'))) (hp : l' ≠ [] → PRep w' p' l' (fun k => (S k ∧ col k = .pile n) ∨ w.heap.size ≤ k)) :
    IRep w' (.pointer (some ⟨bx, 0, none⟩)) (upd V n l') Q W (fun k => S k ∨ w.heap.size ≤ k) := h.setVN (fun _ hk => hk) n l' p' hC hm hp

/-- Those who wait for one name have changed. -/
theorem InAt.setQ (h : InAt w V Q W S bx bv bq bw col pv pq) (n : ByteArray) (l' : List Nat) (p' : Value) (W' : Nat → Option ByteArray) (hC : Chg (fun k => k = bq ∨ k = bw ∨ (S k ∧ col k = .line n)) w w')
    (hm : MapFn w' Value.string bq (vmap (upd Q n l') (upd pq n p'))) (hmw : MapFn w' encU bw (fun k => (W' k).map Value.string)) (hwho : ∀ k m, W' k = some m ↔ k ∈ upd Q n l' m)
    (hp : l' ≠ [] → QRep w' p' l' (fun k => (S k ∧ col k = .line n) ∨ w.heap.size ≤ k)) :
    IRep w' (.pointer (some ⟨bx, 0, none⟩)) V (upd Q n l') W' (fun k => S k ∨ w.heap.size ≤ k) := by
  refine ⟨bx, bv, bq, bw, paint col w.heap.size (.line n), pv, upd pq n p', rfl, ?_⟩
  obtain ⟨s1, s2, s3, s4⟩ := h.sx
  obtain ⟨c1, c2, c3, c4⟩ := h.cx
  obtain ⟨n1, n2, n3, n4, n5, n6⟩ := h.ne
  have lx := lt_of_heap h.blk
  have lv := h.mv.lt
  have lq := h.mq.lt
  have lw := h.mw.lt
  refine { blk := hC.heap h.blk ?_, mv := h.mv.frame (hC.block bv lv ?_), mq := hm, mw := hmw, piles := fun m hm0 => ?_, lines := fun m hm0 => ?_, who := hwho, sx := ⟨.inl s1, .inl s2, .inl s3, .inl s4⟩, cx := ?_, ne := h.ne }
  · rintro (e | e | e); exact n2 e; exact n3 e; rw [c1] at e; cases e.2
  · rintro (e | e | e); exact n4 e; exact n5 e; rw [c2] at e; cases e.2
  · refine ((h.piles m hm0).tight.frame (w' := w') (fun k hk hl => hC.block k hl ?_)).mono (fun k hk => ⟨.inl hk.1.1, ?_⟩)
    · rintro (e | e | e)
      · have := hk.1.2; rw [e, c3] at this; cases this
      · have := hk.1.2; rw [e, c4] at this; cases this
      · have := hk.1.2; rw [e.2] at this; cases this
    · rw [paint_old hk.2]; exact hk.1.2
  · by_cases hmn : m = n
    · subst hmn
      rw [upd_same] at hm0
      rw [upd_same, upd_same]
      refine (hp hm0).mono (fun k hk => ?_)
      rcases hk with hk | hk
      · refine ⟨.inl hk.1, ?_⟩
        by_cases hl : k < w.heap.size
        · rw [paint_old hl]; exact hk.2
        · rw [paint_new (by omega)]
      · exact ⟨.inr hk, paint_new hk⟩
    · rw [upd_other _ _ hmn] at hm0
      rw [upd_other _ _ hmn, upd_other _ _ hmn]
      refine ((h.lines m hm0).tight.frame (w' := w') (fun k hk hl => hC.block k hl ?_)).mono (fun k hk => ⟨.inl hk.1.1, ?_⟩)
      · rintro (e | e | e)
        · have := hk.1.2; rw [e, c3] at this; cases this
        · have := hk.1.2; rw [e, c4] at this; cases this
        · have := hk.1.2; rw [e.2] at this; exact hmn (Tag.line.inj this).symm
      · rw [paint_old hk.2]; exact hk.1.2
  · rw [paint_old lx, paint_old lv, paint_old lq, paint_old lw]; exact h.cx
end
end Go.Proofs.Ytbofbboogmeneaa
