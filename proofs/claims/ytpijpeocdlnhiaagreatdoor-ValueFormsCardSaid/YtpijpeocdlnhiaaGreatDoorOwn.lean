/- Payloads that own their memory. -/
import Derived.Test.YtpijpeocdlnhiaaGreatDoorVal
namespace Go.Proofs.YtpijpeocdlnhiaaGreatDoor
set_option linter.unusedVariables false
set_option linter.unusedSimpArgs false
open Go.RowKit

mutual
/-- The payload v reads as the tree t, and all its lists lie in blocks of S that are its own: each list in another. -/
def TOwn (w : World) : VT → VV → (Nat → Prop) → Prop
  | .node k n f s l, v, S => v.k = k ∧ v.n = n ∧ v.f = f ∧ v.s = s ∧ v.l = l.length ∧ l.length ≤ maxLen ∧
      ((l = [] ∧ Reads w (.slice v.a v.l v.c) 0 5 []) ∨ ∃ vs col, Row w 26 5 (.slice v.a l.length v.c) l.length (flat vs) (fun b => S b ∧ col b = 0) ∧ TOwns w col S 1 l vs)
def TOwns (w : World) (col : Nat → Nat) (S : Nat → Prop) : Nat → List VT → List VV → Prop
  | _, [], vs => vs = []
  | i, t :: ts, vs => ∃ v r, vs = v :: r ∧ TOwn w t v (fun b => S b ∧ col b = i) ∧ TOwns w col S (i + 1) ts r
end

section
variable {w w' : World} {col : Nat → Nat} {S T : Nat → Prop}

theorem TOwns.length : ∀ {i : Nat} {ts : List VT} {vs : List VV}, TOwns w col S i ts vs → vs.length = ts.length
  | _, [], vs, h => by rw [TOwns] at h; rw [h]; rfl
  | i, t :: ts, vs, h => by
    rw [TOwns] at h
    obtain ⟨v, r, rfl, _, h2⟩ := h
    simp [TOwns.length h2]

theorem TOwns.get : ∀ {i : Nat} {ts : List VT} {vs : List VV}, TOwns w col S i ts vs → ∀ j (hj : j < ts.length), ∃ v, vs[j]? = some v ∧ TOwn w ts[j] v (fun b => S b ∧ col b = i + j)
  | _, [], vs, h, j, hj => by simp at hj
  | i, t :: ts, vs, h, j, hj => by
    rw [TOwns] at h
    obtain ⟨v, r, rfl, h1, h2⟩ := h
    cases j with
    | zero => exact ⟨v, rfl, by simpa using h1⟩
    | succ j =>
      obtain ⟨u, h3, h4⟩ := TOwns.get h2 j (by simpa using hj)
      exact ⟨u, by simpa using h3, by simpa [Nat.add_assoc, Nat.add_comm 1 j] using h4⟩

theorem TOwns.mk : ∀ {i : Nat} {ts : List VT} {vs : List VV}, vs.length = ts.length → (∀ j (hj : j < ts.length), ∃ v, vs[j]? = some v ∧ TOwn w ts[j] v (fun b => S b ∧ col b = i + j)) → TOwns w col S i ts vs
  | _, [], vs, hl, h => by rw [TOwns]; exact List.eq_nil_of_length_eq_zero hl
  | i, t :: ts, [], hl, h => by simp at hl
  | i, t :: ts, v :: vs, hl, h => by
    rw [TOwns]
    refine ⟨v, vs, rfl, ?_, TOwns.mk (by simpa using hl) (fun j hj => ?_)⟩
    · obtain ⟨u, h1, h2⟩ := h 0 (by simp)
      cases h1; simpa using h2
    · obtain ⟨u, h1, h2⟩ := h (j + 1) (by simpa using hj)
      exact ⟨u, by simpa using h1, by simpa [Nat.add_assoc, Nat.add_comm 1 j] using h2⟩

theorem TOwn.frame (t : VT) : ∀ {S : Nat → Prop} {v : VV}, (∀ k, S k → k < w.heap.size → w'.heap[k]? = w.heap[k]?) → TOwn w t v S → TOwn w' t v S := by
  induction t using VT.ind with
  | _ k n f s l ih =>
    intro S v hb h
    rw [TOwn] at h ⊢
    obtain ⟨h1, h2, h3, h4, h5, h55, h6⟩ := h
    refine ⟨h1, h2, h3, h4, h5, h55, ?_⟩
    rcases h6 with ⟨h7, h8⟩ | ⟨vs, col, h7, h8⟩
    · exact .inl ⟨h7, h8.frame5 (S := S) (fun hn => absurd hn (by simp)) hb⟩
    · refine .inr ⟨vs, col, h7.frame (fun b hb1 hb2 => hb b hb1.1 hb2), TOwns.mk h8.length (fun j hj => ?_)⟩
      obtain ⟨u, h9, h10⟩ := h8.get j hj
      exact ⟨u, h9, ih _ (List.getElem_mem hj) (fun b hb1 hb2 => hb b hb1.1 hb2) h10⟩

theorem TOwn.mono (t : VT) : ∀ {S T : Nat → Prop} {v : VV}, (∀ k, S k → T k) → TOwn w t v S → TOwn w t v T := by
  induction t using VT.ind with
  | _ k n f s l ih =>
    intro S T v hS h
    rw [TOwn] at h ⊢
    obtain ⟨h1, h2, h3, h4, h5, h55, h6⟩ := h
    refine ⟨h1, h2, h3, h4, h5, h55, ?_⟩
    rcases h6 with h7 | ⟨vs, col, h7, h8⟩
    · exact .inl h7
    · refine .inr ⟨vs, col, h7.mono (fun b hb => ⟨hS b hb.1, hb.2⟩), TOwns.mk h8.length (fun j hj => ?_)⟩
      obtain ⟨u, h9, h10⟩ := h8.get j hj
      exact ⟨u, h9, ih _ (List.getElem_mem hj) (fun b hb => ⟨hS b hb.1, hb.2⟩) h10⟩

/-- What is owned lies in blocks that there are. -/
theorem TOwn.tight (t : VT) : ∀ {S : Nat → Prop} {v : VV}, TOwn w t v S → TOwn w t v (fun b => S b ∧ b < w.heap.size) := by
  induction t using VT.ind with
  | _ k n f s l ih =>
    intro S v h
    rw [TOwn] at h ⊢
    obtain ⟨h1, h2, h3, h4, h5, h55, h6⟩ := h
    refine ⟨h1, h2, h3, h4, h5, h55, ?_⟩
    rcases h6 with h7 | ⟨vs, col, h7, h8⟩
    · exact .inl h7
    · refine .inr ⟨vs, col, ?_, TOwns.mk h8.length (fun j hj => ?_)⟩
      · refine ⟨h7.1, ?_⟩
        rcases h7.2 with h | ⟨g, off, cap, cur, hv, hg, hh, r⟩
        · exact .inl h
        · exact .inr ⟨g, off, cap, cur, hv, ⟨⟨hg.1, lt_of_heap hh⟩, hg.2⟩, hh, r⟩
      · obtain ⟨u, h9, h10⟩ := h8.get j hj
        exact ⟨u, h9, (ih _ (List.getElem_mem hj) h10).mono _ (fun b hb => ⟨⟨hb.1.1, hb.2⟩, hb.1.2⟩)⟩

theorem TOwn.read (t : VT) : ∀ {S : Nat → Prop} {v : VV}, TOwn w t v S → TRead w S t v := by
  induction t using VT.ind with
  | _ k n f s l ih =>
    intro S v h
    rw [TOwn] at h
    rw [TRead]
    obtain ⟨h1, h2, h3, h4, h5, h55, h6⟩ := h
    refine ⟨h1, h2, h3, h4, h5, h55, ?_⟩
    rcases h6 with ⟨rfl, h8⟩ | ⟨vs, col, h7, h8⟩
    · exact ⟨[], h8, fun h => absurd rfl h, by rw [TReads]⟩
    · refine ⟨vs, by rw [h5]; exact h7.reads, fun hn ad had => ?_, TReads.mk h8.length (fun j hj => ?_)⟩
      · obtain ⟨g, off, cap, cur, hv, hg, -⟩ := h7.open (List.length_pos_iff.2 hn)
        rw [had] at hv
        cases hv
        exact hg.1
      · obtain ⟨u, h9, h10⟩ := h8.get j hj
        exact ⟨u, h9, (ih _ (List.getElem_mem hj) h10).mono (fun b hb => hb.1) _⟩
end

/-- A list that is being built: the elements in blocks from B on. -/
def Cl (w : World) (B : Nat) (sl : Value) (ts : List VT) (vs : List VV) (col : Nat → Nat) : Prop :=
  Row w 26 5 sl ts.length (flat vs) (fun b => (B ≤ b ∧ b < w.heap.size) ∧ col b = 0) ∧ TOwns w col (fun b => B ≤ b ∧ b < w.heap.size) 1 ts vs

theorem Cl.nil (w : World) (B : Nat) : Cl w B (.slice none 0 0) [] [] (fun _ => 0) := ⟨Row.nil _ _ _ _, by rw [TOwns]⟩

theorem Cl.later {w w' : World} {B : Nat} {sl : Value} {ts : List VT} {vs : List VV} {col : Nat → Nat} (h : Cl w B sl ts vs col) (hb : Below w.heap.size w w') : Cl w' B sl ts vs col := by
  refine ⟨(h.1.frame (fun k hk hl => hb.block k hl)).mono (fun b hb1 => ⟨⟨hb1.1.1, Nat.lt_of_lt_of_le hb1.1.2 hb.size⟩, hb1.2⟩), TOwns.mk h.2.length (fun j hj => ?_)⟩
  obtain ⟨u, h1, h2⟩ := h.2.get j hj
  exact ⟨u, h1, (h2.frame _ (fun k hk hl => hb.block k hl)).mono _ (fun b hb1 => ⟨⟨hb1.1.1, Nat.lt_of_lt_of_le hb1.1.2 hb.size⟩, hb1.2⟩)⟩

/-- One more element: it was made between N and M; then the list was appended to. -/
theorem Cl.step {w0 w1 w2 w3 : World} {B : Nat} {sl sl' : Value} {ts : List VT} {vs : List VV} {col : Nat → Nat} {t : VT} {u : VV} (h : Cl w0 B sl ts vs col) (hB : B ≤ w0.heap.size)
    (hu : TOwn w1 t u (fun b => w0.heap.size ≤ b ∧ b < w1.heap.size)) (h01 : Below w0.heap.size w0 w1) (h12 : Below w1.heap.size w1 w2)
    (hrow : Row w3 26 5 sl' (ts.length + 1) (flat vs ++ u.cells) (fun b => ((B ≤ b ∧ b < w0.heap.size) ∧ col b = 0) ∨ w1.heap.size ≤ b)) (hch : Chg (fun b => (B ≤ b ∧ b < w0.heap.size) ∧ col b = 0) w2 w3) :
    Cl w3 B sl' (ts ++ [t]) (vs ++ [u]) (fun b => if b < w0.heap.size then col b else if b < w1.heap.size then ts.length + 1 else 0) := by
  have s1 := h01.size
  have s2 := h12.size
  have s3 := hch.size
  constructor
  · have e : flat (vs ++ [u]) = flat vs ++ u.cells := by simp [flat]
    rw [e, show (ts ++ [t]).length = ts.length + 1 by simp]
    have hrow2 : Row w3 26 5 sl' (ts.length + 1) (flat vs ++ u.cells) (fun b => (((B ≤ b ∧ b < w0.heap.size) ∧ col b = 0) ∨ w1.heap.size ≤ b) ∧ b < w3.heap.size) := by
      refine ⟨hrow.1, ?_⟩
      rcases hrow.2 with h | ⟨g, off, cap, cur, hv, hg, hh, r⟩
      · exact .inl h
      · exact .inr ⟨g, off, cap, cur, hv, ⟨hg, lt_of_heap hh⟩, hh, r⟩
    refine hrow2.mono (fun b hb => ?_)
    obtain ⟨hb1, hb2⟩ := hb
    rcases hb1 with ⟨⟨h1, h2⟩, h3⟩ | h1
    · exact ⟨⟨h1, hb2⟩, by show (if b < w0.heap.size then _ else _) = 0; rw [if_pos h2]; exact h3⟩
    · exact ⟨⟨by omega, hb2⟩, by show (if b < w0.heap.size then _ else _) = 0; rw [if_neg (by omega), if_neg (by omega)]⟩
  · refine TOwns.mk (by simp [h.2.length]) (fun j hj => ?_)
    have hj' : j < ts.length + 1 := by simpa using hj
    rcases Nat.lt_or_ge j ts.length with hlt | hge
    · obtain ⟨p, h1, h2⟩ := h.2.get j hlt
      refine ⟨p, by rw [List.getElem?_append_left (by rw [h.2.length]; exact hlt)]; exact h1, ?_⟩
      rw [List.getElem_append_left hlt]
      refine (h2.frame _ (w' := w3) (fun k hk hl => ?_)).mono _ (fun b hb => ⟨⟨hb.1.1, by omega⟩, by rw [if_pos hb.1.2]; exact hb.2⟩)
      rw [hch.block k (by omega) (fun hS => by have := hS.2; have := hk.2; omega), h12.block k (by omega), h01.block k hl]
    · have : j = ts.length := by omega
      subst this
      refine ⟨u, by rw [List.getElem?_append_right (by rw [h.2.length]; exact Nat.le_refl _), h.2.length]; simp, ?_⟩
      rw [List.getElem_append_right (Nat.le_refl _)]
      simp only [Nat.sub_self, List.getElem_cons_zero]
      refine (hu.frame _ (w' := w3) (fun k hk hl => ?_)).mono _ (fun b hb => ⟨⟨by omega, by omega⟩, by rw [if_neg (by omega), if_pos hb.2]; omega⟩)
      rw [hch.block k (by omega) (fun hS => by have := hS.1.2; have := hk.1; omega), h12.block k hl]

theorem Cl.own {w : World} {B : Nat} {f : Nat} {s : ByteArray} {a : Option Addr} {c : Nat} {ts : List VT} {vs : List VV} {col : Nat → Nat} {kk nn : Int} (h : Cl w B (.slice a ts.length c) ts vs col) (hm : ts.length ≤ maxLen) :
    TOwn w (.node kk nn f s ts) ⟨kk, nn, f, s, a, ts.length, c⟩ (fun b => B ≤ b ∧ b < w.heap.size) := by
  rw [TOwn]
  exact ⟨rfl, rfl, rfl, rfl, rfl, hm, .inr ⟨vs, col, h.1, h.2⟩⟩
end Go.Proofs.YtpijpeocdlnhiaaGreatDoor
