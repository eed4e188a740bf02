/- An inbox and the reference beside it; no program in sight but the inbox itself. -/
import Derived.Test.YtbofbboogmeneaaInBox
import Derived.Test.YtbofbboogmeneaaRef22i
import Derived.Test.YtbofbboogmeneaaInNames2
namespace Go.Proofs.Ytbofbboogmeneaa
set_option linter.unusedVariables false
set_option linter.unusedSimpArgs false
open Go.RowKit

/-- A value with a name: its tree, and how the reference holds it. -/
abbrev Let := ByteArray × VT × VV
abbrev ltr (x : Let) : ByteArray × VV := (x.1, x.2.2)

def trOf (M : List Let) (name : ByteArray) : List VT := (M.filter (fun x => decide (x.1 = name))).map (·.2.1)

theorem trOf_snoc (M : List Let) (name : ByteArray) (t : VT) (v : VV) : trOf (M ++ [(name, t, v)]) = upd (trOf M) name (trOf M name ++ [t]) := by
  funext n
  unfold trOf
  rw [List.filter_append, List.map_append]
  by_cases h : n = name
  · subst h; rw [upd_same]; simp
  · rw [upd_other _ _ h]
    have : ¬ name = n := fun e => h e.symm
    simp [this]
theorem trOf_hit {M : List Let} {name : ByteArray} {i : Nat} (hi : i < M.length) (hn : M[i].1 = name) (hlow : ∀ j (hj : j < i), (M[j]'(by omega)).1 ≠ name) :
    trOf M name = M[i].2.1 :: trOf (M.eraseIdx i) name ∧ trOf (M.eraseIdx i) = upd (trOf M) name (trOf (M.eraseIdx i) name) := by
  constructor
  · unfold trOf
    rw [filter_hit hi (by simpa using hn) (fun j hj => by simpa using hlow j hj)]; rfl
  · funext n
    by_cases h : n = name
    · subst h; rw [upd_same]
    · rw [upd_other _ _ h]
      unfold trOf
      rw [filter_other hi (by rw [hn]; simpa using fun e => h e.symm)]
theorem trOf_none {M : List Let} {name : ByteArray} (h : ∀ j (hj : j < M.length), M[j].1 ≠ name) : trOf M name = [] := by
  unfold trOf
  rw [List.filter_eq_nil_iff.2 (fun x hx => by obtain ⟨j, hj, rfl⟩ := List.mem_iff_getElem.1 hx; simpa using h j hj)]; rfl
theorem trOf_mem {M : List Let} {name : ByteArray} : trOf M name ≠ [] ↔ ∃ x ∈ M, x.1 = name := by
  unfold trOf
  rw [Ne, List.map_eq_nil_iff, List.filter_eq_nil_iff]
  simp

theorem idsOf_snoc (Ws : List (ByteArray × Nat)) (name : ByteArray) (id : Nat) : idsOf (Ws ++ [(name, id)]) = upd (idsOf Ws) name (idsOf Ws name ++ [id]) := by
  funext n
  unfold idsOf
  rw [List.filter_append, List.map_append]
  by_cases h : n = name
  · subst h; rw [upd_same]; simp
  · rw [upd_other _ _ h]
    have : ¬ name = n := fun e => h e.symm
    simp [this]
theorem idsOf_hit {Ws : List (ByteArray × Nat)} {name : ByteArray} {i : Nat} (hi : i < Ws.length) (hn : Ws[i].1 = name) (hlow : ∀ j (hj : j < i), (Ws[j]'(by omega)).1 ≠ name) :
    idsOf Ws name = Ws[i].2 :: idsOf (Ws.eraseIdx i) name ∧ idsOf (Ws.eraseIdx i) = upd (idsOf Ws) name (idsOf (Ws.eraseIdx i) name) := by
  constructor
  · unfold idsOf
    rw [filter_hit hi (by simpa using hn) (fun j hj => by simpa using hlow j hj)]; rfl
  · funext n
    by_cases h : n = name
    · subst h; rw [upd_same]
    · rw [upd_other _ _ h]
      unfold idsOf
      rw [filter_other hi (by rw [hn]; simpa using fun e => h e.symm)]
theorem idsOf_none {Ws : List (ByteArray × Nat)} {name : ByteArray} (h : ∀ j (hj : j < Ws.length), Ws[j].1 ≠ name) : idsOf Ws name = [] := by
  unfold idsOf
  rw [List.filter_eq_nil_iff.2 (fun x hx => by obtain ⟨j, hj, rfl⟩ := List.mem_iff_getElem.1 hx; simpa using h j hj)]; rfl
theorem idsOf_mem {Ws : List (ByteArray × Nat)} {name : ByteArray} {k : Nat} : k ∈ idsOf Ws name ↔ (name, k) ∈ Ws := by
  unfold idsOf
  constructor
  · intro h
    obtain ⟨x, hx, rfl⟩ := List.mem_map.1 h
    obtain ⟨h1, h2⟩ := List.mem_filter.1 hx
    have : x.1 = name := by simpa using h2
    rw [← this]; exact h1
  · intro h
    exact List.mem_map.2 ⟨(name, k), List.mem_filter.2 ⟨h, by simp⟩, rfl⟩
theorem idsOf_ne {Ws : List (ByteArray × Nat)} {name : ByteArray} : idsOf Ws name ≠ [] ↔ ∃ x ∈ Ws, x.1 = name := by
  unfold idsOf
  rw [Ne, List.map_eq_nil_iff, List.filter_eq_nil_iff]
  simp
/-- One who waits, taken out: the first with that number. -/
theorem idsOf_cut {Ws : List (ByteArray × Nat)} {i : Nat} (hi : i < Ws.length) : ∃ a b, idsOf Ws Ws[i].1 = a ++ Ws[i].2 :: b ∧ idsOf (Ws.eraseIdx i) = upd (idsOf Ws) Ws[i].1 (a ++ b) := by
  have hsplit : Ws = Ws.take i ++ Ws[i] :: Ws.drop (i + 1) := by rw [← List.drop_eq_getElem_cons hi, List.take_append_drop]
  generalize Ws[i] = y at hsplit ⊢
  refine ⟨idsOf (Ws.take i) y.1, idsOf (Ws.drop (i + 1)) y.1, ?_, ?_⟩
  · refine (congrArg (fun z => idsOf z y.1) hsplit).trans ?_
    unfold idsOf
    rw [List.filter_append, List.map_append, List.filter_cons]
    simp
  · funext n
    rw [erase_take_drop]
    by_cases h : n = y.1
    · subst h
      rw [upd_same]
      unfold idsOf
      rw [List.filter_append, List.map_append]
    · rw [upd_other _ _ h]
      refine Eq.trans ?_ (congrArg (fun z => idsOf z n) hsplit).symm
      unfold idsOf
      rw [List.filter_append, List.map_append, List.filter_append, List.map_append, List.filter_cons]
      have : ¬ y.1 = n := fun e => h e.symm
      simp [this]
theorem idsOf_erase_nil {Ws : List (ByteArray × Nat)} {n : ByteArray} (i : Nat) (h : idsOf Ws n = []) : idsOf (Ws.eraseIdx i) n = [] := by
  refine Classical.byContradiction fun hn => ?_
  obtain ⟨y, hy, rfl⟩ := idsOf_ne.1 hn
  exact idsOf_ne.2 ⟨y, (List.eraseIdx_sublist _ _).subset hy, rfl⟩ h
theorem trOf_erase_nil {M : List Let} {n : ByteArray} (i : Nat) (h : trOf M n = []) : trOf (M.eraseIdx i) n = [] := by
  refine Classical.byContradiction fun hn => ?_
  obtain ⟨y, hy, rfl⟩ := trOf_mem.1 hn
  exact trOf_mem.2 ⟨y, (List.eraseIdx_sublist _ _).subset hy, rfl⟩ h
theorem nodup_erase {Ws : List (ByteArray × Nat)} (h : (Ws.map (·.2)).Nodup) (i : Nat) : ((Ws.eraseIdx i).map (·.2)).Nodup := by
  have : (Ws.eraseIdx i).map (·.2) = (Ws.map (·.2)).eraseIdx i := (map_erase _ _ _).symm
  rw [this]; exact h.sublist (List.eraseIdx_sublist _ _)

theorem IRep.who {w : World} {x : Value} {V : ByteArray → List VV} {Q : ByteArray → List Nat} {W : Nat → Option ByteArray} {S : Nat → Prop} (h : IRep w x V Q W S) : ∀ k n, W k = some n ↔ k ∈ Q n := by
  obtain ⟨_, _, _, _, _, _, _, _, h⟩ := h
  exact h.who

/-- The inbox and the reference, both as they stand. -/
structure Inv (w00 w0 w : World) (x lv wv : Value) (M : List Let) (Ws : List (ByteArray × Nat)) (V : ByteArray → List VV) (W : Nat → Option ByteArray) (S T R : Nat → Prop) : Prop where
  box : TBox w0 w x V (trOf M) (idsOf Ws) W S T
  lrow : LRow w lv (M.map ltr) R
  wrow : WRow w wv Ws R
  low : ∀ k, R k → w0.heap.size ≤ k ∧ k < w.heap.size
  apart : ∀ k, R k → ¬ S k
  bel : Below w00.heap.size w00 w0
  vals : ∀ y ∈ M, TRead w00 (fun _ => True) y.2.1 y.2.2 ∧ costT y.2.1 ≤ 900 ∧ y.1.size ≤ 300
  waits : ∀ y ∈ Ws, y.1.size ≤ 300
  once : (Ws.map (·.2)).Nodup
  either : ∀ n, trOf M n = [] ∨ idsOf Ws n = []

section
variable {w00 w0 w w' : World} {x lv wv : Value} {M : List Let} {Ws : List (ByteArray × Nat)} {V : ByteArray → List VV} {W : Nat → Option ByteArray} {S T R : Nat → Prop}

theorem Inv.later (h : Inv w00 w0 w x lv wv M Ws V W S T R) (hb : Below w.heap.size w w') : Inv w00 w0 w' x lv wv M Ws V W S T R :=
  { h with box := h.box.later hb, lrow := h.lrow.frame (fun k _ hk => hb.block k hk), wrow := h.wrow.frame (fun k _ hk => hb.block k hk), low := fun k hk => ⟨(h.low k hk).1, Nat.lt_of_lt_of_le (h.low k hk).2 hb.size⟩ }

/-- Blocks beside all of these have changed. -/
theorem Inv.other (h : Inv w00 w0 w x lv wv M Ws V W S T R) {P : Nat → Prop} (hc : Chg P w w') (hP : ∀ k, P k → w0.heap.size ≤ k ∧ ¬ S k ∧ ¬ T k ∧ ¬ R k) : Inv w00 w0 w' x lv wv M Ws V W S T R :=
  { h with box := h.box.other hc (fun k hk => ⟨(hP k hk).1, (hP k hk).2.1, (hP k hk).2.2.1⟩), lrow := h.lrow.frame (fun k hk hl => hc.block k hl (fun hp => (hP k hp).2.2.2 hk)), wrow := h.wrow.frame (fun k hk hl => hc.block k hl (fun hp => (hP k hp).2.2.2 hk)), low := fun k hk => ⟨(h.low k hk).1, Nat.lt_of_lt_of_le (h.low k hk).2 hc.size⟩ }

theorem Inv.total (h : Inv w00 w0 w x lv wv M Ws V W S T R) : Below w00.heap.size w00 w := h.bel.trans (h.box.box.bel.mono h.bel.size)

theorem Inv.free (h : Inv w00 w0 w x lv wv M Ws V W S T R) (k : Nat) : W k = none ↔ k ∉ Ws.map (·.2) := by
  have hw := h.box.box.rep.who
  constructor
  · intro hn hm
    obtain ⟨y, hy, rfl⟩ := List.mem_map.1 hm
    have := (hw y.2 y.1).2 (idsOf_mem.2 hy)
    rw [hn] at this; cases this
  · intro hm
    cases hk : W k with
    | none => rfl
    | some n =>
      have := idsOf_mem.1 ((hw k n).1 hk)
      exact absurd (List.mem_map.2 ⟨_, this, rfl⟩) hm

theorem Inv.empty (h : Inv w00 w0 w x lv wv M Ws V W S T R) (name : ByteArray) : V name = [] ↔ trOf M name = [] := by
  have := (h.box.trees name).length
  rw [← List.length_eq_zero_iff, ← List.length_eq_zero_iff, this]
theorem Inv.count (h : Inv w00 w0 w x lv wv M Ws V W S T R) (name : ByteArray) : (V name).length = ((M.map ltr).filter (fun y => decide (y.1 = name))).length := by
  rw [(h.box.trees name).length]
  unfold trOf
  rw [List.length_map, List.filter_map, List.length_map]
  rfl

theorem Inv.first (hb0 : Below w00.heap.size w00 w0) (h : TBox w0 w x (fun _ => []) (fun _ => []) (fun _ => []) (fun _ => none) S T) : Inv w00 w0 w x (.slice none 0 0) (.slice none 0 0) [] [] (fun _ => []) (fun _ => none) S T (fun _ => False) where
  box := h
  lrow := Row.nil _ _ _ _
  wrow := Row.nil _ _ _ _
  low := fun k hk => hk.elim
  apart := fun k hk => hk.elim
  bel := hb0
  vals := fun y hy => by cases hy
  waits := fun y hy => by cases hy
  once := List.nodup_nil
  either := fun n => .inl rfl
end
end Go.Proofs.Ytbofbboogmeneaa
