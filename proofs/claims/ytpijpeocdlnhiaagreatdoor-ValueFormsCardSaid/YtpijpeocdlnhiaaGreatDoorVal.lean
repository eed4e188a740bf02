/- Payloads as trees, and how a tree lies in memory. -/
import Derived.Test.YtpijpeocdlnhiaaGreatDoorVV
namespace Go.Proofs.YtpijpeocdlnhiaaGreatDoor
set_option linter.unusedVariables false
set_option linter.unusedSimpArgs false
open Go.RowKit

/-- A payload with all that is in its lists. -/
inductive VT where
  | node (k n : Int) (f : Nat) (s : ByteArray) (l : List VT)

theorem VT.ind {p : VT → Prop} (h : ∀ k n f s l, (∀ t ∈ l, p t) → p (.node k n f s l)) (t : VT) : p t :=
  VT.rec (motive_1 := p) (motive_2 := fun l => ∀ t ∈ l, p t) (fun k n f s l ih => h k n f s l ih) (fun _ ht => by cases ht)
    (fun a l h1 h2 t ht => by
      rcases List.mem_cons.1 ht with h | h
      · rw [h]; exact h1
      · exact h2 t h) t

namespace VT
def k : VT → Int | .node k _ _ _ _ => k
def n : VT → Int | .node _ n _ _ _ => n
def f : VT → Nat | .node _ _ f _ _ => f
def s : VT → ByteArray | .node _ _ _ s _ => s
def l : VT → List VT | .node _ _ _ _ l => l
end VT

/-- The block of an address, if there is one, is of S. -/
def InS (S : Nat → Prop) (a : Option Addr) : Prop := ∀ ad, a = some ad → S ad.block

mutual
/-- The payload v reads as the tree t; all its lists lie in blocks of S. -/
def TRead (w : World) (S : Nat → Prop) : VT → VV → Prop
  | .node k n f s l, v => v.k = k ∧ v.n = n ∧ v.f = f ∧ v.s = s ∧ v.l = l.length ∧ l.length ≤ maxLen ∧ ∃ vs, Reads w (.slice v.a v.l v.c) l.length 5 (flat vs) ∧ (l ≠ [] → InS S v.a) ∧ TReads w S l vs
/-- The payloads vs read as the trees, one by one. -/
def TReads (w : World) (S : Nat → Prop) : List VT → List VV → Prop
  | [], vs => vs = []
  | t :: ts, vs => ∃ v r, vs = v :: r ∧ TRead w S t v ∧ TReads w S ts r
end

theorem TReads.length {w : World} {S : Nat → Prop} : ∀ {ts : List VT} {vs : List VV}, TReads w S ts vs → vs.length = ts.length
  | [], vs, h => by rw [TReads] at h; rw [h]; rfl
  | t :: ts, vs, h => by
    rw [TReads] at h
    obtain ⟨v, r, rfl, _, h2⟩ := h
    simp [TReads.length h2]

theorem TReads.get {w : World} {S : Nat → Prop} : ∀ {ts : List VT} {vs : List VV}, TReads w S ts vs → ∀ i (hi : i < ts.length), ∃ v, vs[i]? = some v ∧ TRead w S ts[i] v
  | [], vs, h, i, hi => by simp at hi
  | t :: ts, vs, h, i, hi => by
    rw [TReads] at h
    obtain ⟨v, r, rfl, h1, h2⟩ := h
    cases i with
    | zero => exact ⟨v, rfl, h1⟩
    | succ i =>
      obtain ⟨u, h3, h4⟩ := TReads.get h2 i (by simpa using hi)
      exact ⟨u, by simpa using h3, by simpa using h4⟩

theorem TReads.mk {w : World} {S : Nat → Prop} : ∀ {ts : List VT} {vs : List VV}, vs.length = ts.length → (∀ i (hi : i < ts.length), ∃ v, vs[i]? = some v ∧ TRead w S ts[i] v) → TReads w S ts vs
  | [], vs, hl, h => by rw [TReads]; exact List.eq_nil_of_length_eq_zero hl
  | t :: ts, [], hl, h => by simp at hl
  | t :: ts, v :: vs, hl, h => by
    rw [TReads]
    refine ⟨v, vs, rfl, ?_, TReads.mk (by simpa using hl) (fun i hi => ?_)⟩
    · obtain ⟨u, h1, h2⟩ := h 0 (by simp)
      cases h1; exact h2
    · obtain ⟨u, h1, h2⟩ := h (i + 1) (by simpa using hi)
      exact ⟨u, by simpa using h1, by simpa using h2⟩

theorem flat_get {vs : List VV} {i : Nat} {v : VV} (h : vs[i]? = some v) (j : Nat) (u : Value) (hu : v.cells[j]? = some u) : (flat vs)[i * 5 + j]? = some u := by
  induction vs generalizing i with
  | nil => simp at h
  | cons a vs ih =>
    have hc : a.cells.length = 5 := rfl
    show (a.cells ++ flat vs)[i * 5 + j]? = some u
    cases i with
    | zero =>
      simp only [List.getElem?_cons_zero, Option.some.injEq] at h
      subst h
      have := (List.getElem?_eq_some_iff.1 hu).1
      rw [List.getElem?_append_left (by omega), Nat.zero_mul, Nat.zero_add]; exact hu
    | succ i =>
      simp only [List.getElem?_cons_succ] at h
      rw [List.getElem?_append_right (by omega), hc, show (i + 1) * 5 + j - 5 = i * 5 + j by omega]
      exact ih h

/-- A readable slice with an element has an address. -/
theorem Reads.at5 {w : World} {ao : Option Addr} {n m c : Nat} {xs : List Value} (h : Reads w (.slice ao m c) n 5 xs) (hn : 0 < n) :
    ∃ b o, ao = some ⟨b, o, none⟩ ∧ n ≤ c ∧ m = n ∧ b < w.heap.size ∧ ∀ j u, xs[j]? = some u → w.cell? ⟨b, o + j, none⟩ = some u := by
  obtain ⟨hl, ao', c', hv, hnc, hnone, hcells⟩ := h
  cases hv
  cases ao with
  | none => have := (hnone rfl).1; omega
  | some ad =>
    obtain ⟨b, o, spot⟩ := ad
    have h0 := hcells _ rfl 0 (xs[0]'(by omega)) (List.getElem?_eq_getElem (by omega))
    have hspot : spot = none := by simpa [Addr.add] using World.cell?_spot h0
    subst hspot
    refine ⟨b, o, rfl, hnc, rfl, ?_, fun j u hu => ?_⟩
    · have := World.block_lt_of_cell? w _ h0
      simpa [Addr.add] using this
    · have := hcells _ rfl j u hu
      rwa [Addr.add_lit] at this

theorem Reads.frame5 {w w' : World} {S : Nat → Prop} {ao : Option Addr} {n m c : Nat} {xs : List Value} (h : Reads w (.slice ao m c) n 5 xs) (hS : 0 < n → InS S ao) (hb : ∀ k, S k → k < w.heap.size → w'.heap[k]? = w.heap[k]?) : Reads w' (.slice ao m c) n 5 xs := by
  rcases Nat.eq_zero_or_pos n with h0 | hn
  · obtain ⟨hl, ao', c', hv, hnc, hnone, hcells⟩ := h
    refine ⟨hl, ao', c', hv, hnc, hnone, fun ad had j u hu => ?_⟩
    subst h0
    have : xs = [] := List.eq_nil_of_length_eq_zero (by simpa using hl)
    subst this; simp at hu
  · obtain ⟨b, o, rfl, hnc, rfl, hlt, hc⟩ := h.at5 hn
    refine ⟨h.1, _, c, rfl, hnc, (fun h => by cases h), fun ad had j u hu => ?_⟩
    cases had
    have h1 := hc j u hu
    rw [Addr.add_lit]
    have hk := hb b (hS hn _ rfl) hlt
    simp only [World.cell?] at h1 ⊢
    rw [hk]; exact h1

theorem TRead.frame {w w' : World} {S : Nat → Prop} (hb : ∀ k, S k → k < w.heap.size → w'.heap[k]? = w.heap[k]?) (t : VT) : ∀ {v : VV}, TRead w S t v → TRead w' S t v := by
  induction t using VT.ind with
  | _ k n f s l ih =>
    intro v h
    rw [TRead] at h ⊢
    obtain ⟨h1, h2, h3, h4, h5, h55, vs, h6, h7, h8⟩ := h
    refine ⟨h1, h2, h3, h4, h5, h55, vs, h6.frame5 (fun hn => h7 (by intro e; subst e; simp at hn)) hb, h7, TReads.mk h8.length (fun i hi => ?_)⟩
    obtain ⟨u, h9, h10⟩ := h8.get i hi
    exact ⟨u, h9, ih _ (List.getElem_mem hi) h10⟩

theorem TRead.mono {w : World} {S T : Nat → Prop} (hS : ∀ k, S k → T k) (t : VT) : ∀ {v : VV}, TRead w S t v → TRead w T t v := by
  induction t using VT.ind with
  | _ k n f s l ih =>
    intro v h
    rw [TRead] at h ⊢
    obtain ⟨h1, h2, h3, h4, h5, h55, vs, h6, h7, h8⟩ := h
    refine ⟨h1, h2, h3, h4, h5, h55, vs, h6, fun hn ad had => hS _ (h7 hn ad had), TReads.mk h8.length (fun i hi => ?_)⟩
    obtain ⟨u, h9, h10⟩ := h8.get i hi
    exact ⟨u, h9, ih _ (List.getElem_mem hi) h10⟩

/-- What stays when new memory is laid: a tree in old blocks. -/
theorem TRead.later {w w' : World} {S : Nat → Prop} {t : VT} {v : VV} (h : TRead w S t v) (hb : Below w.heap.size w w') : TRead w' S t v :=
  h.frame (fun k _ hk => hb.block k hk)

/-- The five fields of a payload that reads as a tree, and its elements. -/
theorem TRead.fields {w : World} {S : Nat → Prop} {t : VT} {v : VV} (h : TRead w S t v) : v.k = t.k ∧ v.n = t.n ∧ v.f = t.f ∧ v.s = t.s ∧ v.l = t.l.length := by
  cases t; rw [TRead] at h; exact ⟨h.1, h.2.1, h.2.2.1, h.2.2.2.1, h.2.2.2.2.1⟩

theorem TRead.small {w : World} {S : Nat → Prop} {t : VT} {v : VV} (h : TRead w S t v) : t.l.length ≤ maxLen := by
  cases t; rw [TRead] at h; exact h.2.2.2.2.2.1

theorem TRead.elems {w : World} {S : Nat → Prop} {t : VT} {v : VV} (h : TRead w S t v) : ∃ vs, Reads w (.slice v.a t.l.length v.c) t.l.length 5 (flat vs) ∧ (t.l ≠ [] → InS S v.a) ∧ TReads w S t.l vs := by
  cases t with
  | node k n f s l =>
    rw [TRead] at h
    obtain ⟨h1, h2, h3, h4, h5, h55, vs, h6, h7, h8⟩ := h
    rw [h5] at h6
    exact ⟨vs, h6, h7, h8⟩

/-- Element i of a payload's list: where it lies, its five cells, and that it reads as its own tree. -/
theorem TRead.child {w : World} {S : Nat → Prop} {t : VT} {v : VV} (h : TRead w S t v) (i : Nat) (hi : i < t.l.length) :
    ∃ b o, v.a = some ⟨b, o, none⟩ ∧ t.l.length ≤ v.c ∧ b < w.heap.size ∧ S b ∧ ∃ u, TRead w S t.l[i] u ∧ w.cell? ⟨b, o + i * 5, none⟩ = some (.int .i64 u.k) ∧ w.cell? ⟨b, o + i * 5 + 1, none⟩ = some (.int .i64 u.n) ∧
      w.cell? ⟨b, o + i * 5 + 2, none⟩ = some (.float .f64 u.f) ∧ w.cell? ⟨b, o + i * 5 + 3, none⟩ = some (.string u.s) ∧ w.cell? ⟨b, o + i * 5 + 4, none⟩ = some (.slice u.a u.l u.c) := by
  obtain ⟨vs, h1, h2, h3⟩ := h.elems
  obtain ⟨b, o, ha, hc, -, hlt, hcell⟩ := h1.at5 (by omega)
  obtain ⟨u, hu, hr⟩ := h3.get i hi
  refine ⟨b, o, ha, hc, hlt, h2 (by intro e; rw [e] at hi; simp at hi) _ ha, u, hr, ?_, ?_, ?_, ?_, ?_⟩
  · have := hcell (i * 5 + 0) _ (flat_get hu 0 _ rfl); simpa using this
  · have := hcell (i * 5 + 1) _ (flat_get hu 1 _ rfl); rwa [← Nat.add_assoc] at this
  · have := hcell (i * 5 + 2) _ (flat_get hu 2 _ rfl); rwa [← Nat.add_assoc] at this
  · have := hcell (i * 5 + 3) _ (flat_get hu 3 _ rfl); rwa [← Nat.add_assoc] at this
  · have := hcell (i * 5 + 4) _ (flat_get hu 4 _ rfl); rwa [← Nat.add_assoc] at this

/-- The payload as a value, its number of elements by the tree. -/
theorem TRead.val {w : World} {S : Nat → Prop} {t : VT} {v : VV} (h : TRead w S t v) : v.val = .agg #[.int .i64 t.k, .int .i64 t.n, .float .f64 t.f, .string t.s, .slice v.a t.l.length v.c] := by
  obtain ⟨h1, h2, h3, h4, h5⟩ := h.fields
  rw [VV.val, h1, h2, h3, h4, h5]
end Go.Proofs.YtpijpeocdlnhiaaGreatDoor
