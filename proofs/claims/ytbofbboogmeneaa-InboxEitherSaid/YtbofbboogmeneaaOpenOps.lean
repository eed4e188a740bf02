/- Operations that came in, opened. -/
import Derived.Test.YtbofbboogmeneaaInFew
namespace Go.Proofs.Ytbofbboogmeneaa
set_option linter.unusedVariables false
set_option linter.unusedSimpArgs false
open Go.RowKit Go.ChangeShapes Go.WideShapes Go.Deep

theorem list_of {α : Type} {p : Nat → α → Prop} : ∀ n : Nat, (∀ i, i < n → ∃ t, p i t) → ∃ ts : List α, ts.length = n ∧ ∀ i (h1 : i < ts.length), p i ts[i]
  | 0, _ => ⟨[], rfl, fun i h1 => absurd h1 (Nat.not_lt_zero i)⟩
  | n + 1, h => by
    obtain ⟨ts, h1, h3⟩ := list_of n (fun i hi => h i (by omega))
    obtain ⟨t, hp⟩ := h n (by omega)
    refine ⟨ts ++ [t], by simp [h1], fun i hi1 => ?_⟩
    rcases Nat.lt_or_ge i n with hlt | hge
    · rw [List.getElem_append_left (by omega)]
      exact h3 i _
    · have : i = n := by simp at hi1; omega
      subst this
      simp only [List.getElem_append_right (Nat.le_of_eq h1), h1, Nat.sub_self, List.getElem_cons_zero]
      exact hp

theorem fm_at {α : Type} {f : α → List Value} {k : Nat} (hf : ∀ a, (f a).length = k) (l : List α) (i r : Nat) (hr : r < k) : (l.flatMap f)[i * k + r]? = (l[i]?).bind (fun v => (f v)[r]?) := by
  induction l generalizing i with
  | nil => simp
  | cons a vs ih =>
    have hc : (f a).length = k := hf a
    rw [List.flatMap_cons]
    cases i with
    | zero => rw [Nat.zero_mul, Nat.zero_add, List.getElem?_append_left (by omega)]; rfl
    | succ i => rw [List.getElem?_append_right (by rw [hc, Nat.add_mul]; omega), hc, show (i + 1) * k + r - k = i * k + r by rw [Nat.add_mul]; omega, ih]; rfl

theorem reads_of_each {α : Type} {w : World} {f : α → List Value} {k : Nat} (hf : ∀ a, (f a).length = k) (hk : 0 < k) {a : Addr} {len cap : Nat} (hlc : len ≤ cap) (l : List α) (hl : l.length = len)
    (h : ∀ i (hi : i < l.length), ∀ r, r < k → w.cell? (a.add (i * k + r)) = (f l[i])[r]?) : Reads w (.slice (some a) len cap) len k (l.flatMap f) := by
  refine ⟨by rw [fm_length hf, hl], _, cap, rfl, hlc, (fun h => by cases h), fun ad had j u hu => ?_⟩
  cases had
  have hj : j = (j / k) * k + j % k := by rw [Nat.mul_comm]; exact (Nat.div_add_mod j k).symm
  have hr : j % k < k := Nat.mod_lt _ hk
  rw [hj, fm_at hf _ _ _ hr] at hu
  obtain ⟨v, hv1, hv2⟩ := Option.bind_eq_some_iff.1 hu
  obtain ⟨hv3, hv4⟩ := List.getElem?_eq_some_iff.1 hv1
  have := h (j / k) hv3 (j % k) hr
  rw [hv4] at this
  rw [hj, this]; exact hv2

set_option maxRecDepth 100000 in
theorem open_op {H : Type} {enc : TypeId × Value → H} {W : World} {base : Nat} {sp : Nat → Bool} {held : Bool} (fuel : Nat) (cs : List Value) (x : DataW H × List MemPlace)
    (h : DataW.trod enc Try.prog W base sp held fuel 91 cs = some x) : ∃ o : OpD, cs = ocells o ∧ TRead W (fun _ => True) o.t o.v ∧ o.name.size ≤ maxLen := by
  obtain ⟨xs, n, rfl, rfl, hl, hlen, hf⟩ := DataW.trod_struct Try.underlying91 h
  have hC : Try.prog.cellsOf 91 = 8 := by kernel_rfl
  rw [hC] at hl
  match cs, hl with
  | [c0, c1, c2, c3, c4, c5, c6, c7], _ =>
    have hn : ∀ i, i < 4 → ∃ y, xs[i]? = some y := fun i hi => ⟨_, List.getElem?_eq_getElem (by rw [hlen]; exact hi)⟩
    have g0 := hf 0 _ rfl
    have g1 := hf 1 _ rfl
    have g2 := hf 2 _ rfl
    have g3 := hf 3 _ rfl
    obtain ⟨y0, e0⟩ := hn 0 (by omega)
    obtain ⟨y1, e1⟩ := hn 1 (by omega)
    obtain ⟨y2, e2⟩ := hn 2 (by omega)
    obtain ⟨y3, e3⟩ := hn 3 (by omega)
    rw [e0] at g0
    rw [e1] at g1
    rw [e2] at g2
    rw [e3] at g3
    obtain ⟨k, hk, -, wk⟩ := DataW.trod_int Try.underlying3 g0
    obtain ⟨s, hs, -, ws⟩ := DataW.trod_string Try.underlying9 g1
    obtain ⟨m, hm, -, wm⟩ := DataW.trod_int Try.underlying27 g2
    obtain ⟨t, v, hv, ht, -⟩ := open_cells n _ _ g3
    have hk' : [c0] = [Value.int .i64 k] := hk
    have hs' : [c1] = [Value.string s] := hs
    have hm' : [c2] = [Value.int .u64 m] := hm
    have hv' : [c3, c4, c5, c6, c7] = VV.cells v := hv
    cases hk'; cases hs'; cases hm'
    have bm := bounds_u64 wm
    refine ⟨⟨k, s, m.toNat, v, t⟩, ?_, ht, ws⟩
    show _ = Value.int .i64 k :: .string s :: .int .u64 (m.toNat : Int) :: VV.cells v
    rw [← hv', Int.toNat_of_nonneg bm.1]

set_option maxRecDepth 100000 in
theorem open_ops {H : Type} {enc : TypeId × Value → H} {W : World} {base b0 : Nat} {sp : Nat → Bool} {held : Bool} {v : Value} {d : DataW H} {p : List MemPlace} (hval : Value.okWide Try.prog W .any b0 48 v)
    (h : DataW.Trod enc Try.prog W base sp held 48 v d p) : ∃ l : List OpD, Ops W v l := by
  obtain ⟨a0, len0, cap0, rfl⟩ := okWide_slice Try.underlying48 hval
  obtain ⟨fuel, hf⟩ := h
  have hC : Try.prog.cellsOf 91 = 8 := by kernel_rfl
  rcases DataW.trod_slice Try.underlying48 hf with ⟨h4, -⟩ | ⟨a, len, cap, elems, rest, n', rfl, h4, -, hb, hlc, hcm, hel, hget, -⟩
  · have h4' : [Value.slice a0 len0 cap0] = [Value.slice none 0 0] := h4
    simp only [List.cons.injEq, Value.slice.injEq, and_true] at h4'
    obtain ⟨rfl, rfl, rfl⟩ := h4'
    exact ⟨[], Reads.nil _ _, Nat.zero_le _, fun o ho => by cases ho⟩
  · have h4' : [Value.slice a0 len0 cap0] = [Value.slice (some a) len cap] := h4
    simp only [List.cons.injEq, Value.slice.injEq, and_true] at h4'
    obtain ⟨rfl, rfl, rfl⟩ := h4'
    obtain ⟨l, l1, hall⟩ := list_of (p := fun i (o : OpD) => (TRead W (fun _ => True) o.t o.v ∧ o.name.size ≤ maxLen) ∧ ∀ r, r < 8 → W.cell? (a.add (i * 8 + r)) = (ocells o)[r]?) len0 (fun i hi => by
      have := hget i hi
      rw [List.getElem?_eq_getElem (by rw [hel]; exact hi), hC] at this
      obtain ⟨cs', h1, h2⟩ := Option.bind_eq_some_iff.1 this
      obtain ⟨o, hcs, ht, hw⟩ := open_op n' cs' _ h2
      obtain ⟨_, _, hcell⟩ := World.cells?_some h1
      refine ⟨o, ⟨ht, hw⟩, fun r hr => ?_⟩
      rw [← add_add, hcell r hr, hcs])
    refine ⟨l, ?_, by omega, fun o ho => ?_⟩
    · rw [l1]
      exact reads_of_each ocells_len (by decide) hlc l l1 (fun i hi => (hall i hi).2)
    · obtain ⟨i, hi, rfl⟩ := List.mem_iff_getElem.1 ho
      exact (hall i hi).1
end Go.Proofs.Ytbofbboogmeneaa
