/- Operations on a disk that came in, opened. -/
import Derived.Test.YtjhhmljebflanaaDoorDFew
import Derived.Test.YtjhhmljebflanaaDoorDLift
import Derived.ChangeArms
import Derived.Deep.Slices
namespace Go.Proofs.YtjhhmljebflanaaDoor
set_option linter.unusedVariables false
set_option linter.unusedSimpArgs false
open Go.RowKit Go.ChangeShapes Go.WideShapes Go.Deep

theorem list_of {α : Type} {p : Nat → α → Prop} : ∀ n : Nat, (∀ i, i < n → ∃ t, p i t) → ∃ ts : List α, ts.length = n ∧ ∀ i (h1 : i < ts.length), p i ts[i]
  | 0, _ => ⟨[], rfl, fun i h1 => absurd h1 (Nat.not_lt_zero i)⟩
  | n + 1, h => by
    obtain ⟨ts, h1, h3⟩ := list_of n (fun i hi => h i (by omega))
    obtain ⟨t, hp⟩ := h n (by omega)
    refine ⟨ts ++ [t], by simp [h1], fun i hi1 => ?_⟩
    rcases Nat.lt_or_ge i n with hlt | hge
    · rw [List.getElem_append_left (by omega)]
      exact h3 i _
    · have : i = n := by simp at hi1; omega
      subst this
      simp only [List.getElem_append_right (Nat.le_of_eq h1), h1, Nat.sub_self, List.getElem_cons_zero]
      exact hp

theorem fm_at {α : Type} {f : α → List Value} {k : Nat} (hf : ∀ a, (f a).length = k) (l : List α) (i r : Nat) (hr : r < k) : (l.flatMap f)[i * k + r]? = (l[i]?).bind (fun v => (f v)[r]?) := by
  induction l generalizing i with
  | nil => simp
  | cons a vs ih =>
    have hc : (f a).length = k := hf a
    rw [List.flatMap_cons]
    cases i with
    | zero => rw [Nat.zero_mul, Nat.zero_add, List.getElem?_append_left (by omega)]; rfl
    | succ i => rw [List.getElem?_append_right (by rw [hc, Nat.add_mul]; omega), hc, show (i + 1) * k + r - k = i * k + r by rw [Nat.add_mul]; omega, ih]; rfl

theorem reads_of_each {α : Type} {w : World} {f : α → List Value} {k : Nat} (hf : ∀ a, (f a).length = k) (hk : 0 < k) {a : Addr} {len cap : Nat} (hlc : len ≤ cap) (l : List α) (hl : l.length = len)
    (h : ∀ i (hi : i < l.length), ∀ r, r < k → w.cell? (a.add (i * k + r)) = (f l[i])[r]?) : Reads w (.slice (some a) len cap) len k (l.flatMap f) := by
  refine ⟨by rw [fm_length hf, hl], _, cap, rfl, hlc, (fun h => by cases h), fun ad had j u hu => ?_⟩
  cases had
  have hj : j = (j / k) * k + j % k := by rw [Nat.mul_comm]; exact (Nat.div_add_mod j k).symm
  have hr : j % k < k := Nat.mod_lt _ hk
  rw [hj, fm_at hf _ _ _ hr] at hu
  obtain ⟨v, hv1, hv2⟩ := Option.bind_eq_some_iff.1 hu
  obtain ⟨hv3, hv4⟩ := List.getElem?_eq_some_iff.1 hv1
  have := h (j / k) hv3 (j % k) hr
  rw [hv4] at this
  rw [hj, this]; exact hv2

theorem cellsInt : Tryd.prog.cellsOf 3 = 1 := by kernel_rfl
/-- A list of bytes that came in. -/
theorem open_bytes {H : Type} {enc : TypeId × Value → H} {W : World} {sp : Nat → Bool} {held : Bool} {base fuel : Nat} {c : Value} {x : DataW H × List MemPlace} (hf : DataW.trod enc Tryd.prog W base sp held fuel 22 [c] = some x) :
    ∃ (b : List UInt8) (a : Option Addr) (k : Nat), c = .slice a b.length k ∧ Reads W (.slice a b.length k) b.length 1 (byts b) ∧ (∀ ad, a = some ad → 0 < b.length → ad.block < W.heap.size) ∧ b.length ≤ maxLen := by
  rcases open_ints Tryd.underlying22 Tryd.underlying5 cellsU8 hf with ⟨hcs, hx⟩ | ⟨a, len, cap, zs, hcs, _, hl, hm, hz, hx, hcell, hwz⟩
  · simp only [List.cons.injEq, and_true] at hcs
    subst hcs
    exact ⟨[], none, 0, rfl, Reads.nil _ _, (fun ad h _ => by cases h), Nat.zero_le _⟩
  · simp only [List.cons.injEq, and_true] at hcs
    subst hcs
    have hzl : len ≤ zs.length := by rw [hz]; split <;> omega
    have hlen : ((zs.take len).map fun n => UInt8.ofNat n.toNat).length = len := by simp; omega
    have hrd : Reads W (.slice (some a) len cap) len 1 (byts ((zs.take len).map fun n => UInt8.ofNat n.toNat)) := by
      refine ⟨by rw [byts_length, hlen, Nat.mul_one], _, cap, rfl, hl, (fun h => by cases h), fun ad had j u hu => ?_⟩
      cases had
      have hj : j < len := by have := (List.getElem?_eq_some_iff.1 hu).1; rw [byts_length, hlen] at this; exact this
      rw [hcell j (by omega), ← hu, byts, List.getElem?_map, List.getElem?_map, List.getElem?_take_of_lt hj, List.getElem?_eq_getElem (show j < zs.length by omega)]
      have hb := range_u8 hwz j
      rw [List.getElem?_eq_getElem (show j < zs.length by omega)] at hb
      simp only [Option.getD_some] at hb
      simp only [Option.map_some, u8v, List.getD_eq_getElem?_getD, List.getElem?_eq_getElem (show j < zs.length by omega), Option.getD_some]
      congr 2
      simp only [UInt8.toNat_ofNat']
      omega
    refine ⟨(zs.take len).map fun n => UInt8.ofNat n.toNat, some a, cap, by rw [hlen], by rw [hlen]; exact hrd, fun ad had h0 => ?_, by rw [hlen]; omega⟩
    cases had
    rw [hlen] at h0
    exact World.block_lt_of_cell? W a (by have := hcell 0 (by omega); simpa [Addr.add] using this)
/-- A list of numbers that came in. -/
theorem open_nums {H : Type} {enc : TypeId × Value → H} {W : World} {sp : Nat → Bool} {held : Bool} {base fuel : Nat} {c : Value} {x : DataW H × List MemPlace} (hf : DataW.trod enc Tryd.prog W base sp held fuel 39 [c] = some x) :
    ∃ (b : List Int) (a : Option Addr) (k : Nat), c = .slice a b.length k ∧ Reads W (.slice a b.length k) b.length 1 (b.map (Value.int .i64)) ∧ (∀ ad, a = some ad → 0 < b.length → ad.block < W.heap.size) ∧ b.length ≤ maxLen := by
  rcases open_ints Tryd.underlying39 Tryd.underlying3 cellsInt hf with ⟨hcs, hx⟩ | ⟨a, len, cap, zs, hcs, _, hl, hm, hz, hx, hcell, hwz⟩
  · simp only [List.cons.injEq, and_true] at hcs
    subst hcs
    exact ⟨[], none, 0, rfl, Reads.nil _ _, (fun ad h _ => by cases h), Nat.zero_le _⟩
  · simp only [List.cons.injEq, and_true] at hcs
    subst hcs
    have hzl : len ≤ zs.length := by rw [hz]; split <;> omega
    have hlen : (zs.take len).length = len := by simp; omega
    have hrd : Reads W (.slice (some a) len cap) len 1 ((zs.take len).map (Value.int .i64)) := by
      refine ⟨by rw [List.length_map, hlen, Nat.mul_one], _, cap, rfl, hl, (fun h => by cases h), fun ad had j u hu => ?_⟩
      cases had
      have hj : j < len := by have := (List.getElem?_eq_some_iff.1 hu).1; rw [List.length_map, hlen] at this; exact this
      rw [hcell j (by omega), ← hu, List.getElem?_map, List.getElem?_take_of_lt hj, List.getElem?_eq_getElem (show j < zs.length by omega)]
      simp only [Option.map_some, List.getD_eq_getElem?_getD, List.getElem?_eq_getElem (show j < zs.length by omega), Option.getD_some]
    refine ⟨zs.take len, some a, cap, by rw [hlen], by rw [hlen]; exact hrd, fun ad had h0 => ?_, by rw [hlen]; omega⟩
    cases had
    rw [hlen] at h0
    exact World.block_lt_of_cell? W a (by have := hcell 0 (by omega); simpa [Addr.add] using this)

set_option maxRecDepth 100000 in
theorem open_act {H : Type} {enc : TypeId × Value → H} {W : World} {base : Nat} {sp : Nat → Bool} {held : Bool} (fuel : Nat) (cs : List Value) (x : DataW H × List MemPlace)
    (h : DataW.trod enc Tryd.prog W base sp held fuel 41 cs = some x) : ∃ a : AC, cs = acells a ∧ a.inw W := by
  obtain ⟨xs, n, rfl, rfl, hl, hlen, hf⟩ := DataW.trod_struct Tryd.underlying41 h
  have hC : Tryd.prog.cellsOf 41 = 6 := by kernel_rfl
  rw [hC] at hl
  match cs, hl with
  | [c0, c1, c2, c3, c4, c5], _ =>
    have hn : ∀ i, i < 3 → ∃ y, xs[i]? = some y := fun i hi => ⟨_, List.getElem?_eq_getElem (by rw [hlen]; exact hi)⟩
    have g0 := hf 0 _ rfl
    have g1 := hf 1 _ rfl
    have g2 := hf 2 _ rfl
    obtain ⟨y0, e0⟩ := hn 0 (by omega)
    obtain ⟨y1, e1⟩ := hn 1 (by omega)
    obtain ⟨y2, e2⟩ := hn 2 (by omega)
    rw [e0] at g0
    rw [e1] at g1
    rw [e2] at g2
    have g0' : DataW.trod enc Tryd.prog W base sp held n 38 [c0, c1, c2, c3] = some y0 := g0
    obtain ⟨ys, n2, rfl, rfl, -, hlen2, hf2⟩ := DataW.trod_struct Tryd.underlying38 g0'
    have hn2 : ∀ i, i < 4 → ∃ y, ys[i]? = some y := fun i hi => ⟨_, List.getElem?_eq_getElem (by rw [hlen2]; exact hi)⟩
    have k0 := hf2 0 _ rfl
    have k1 := hf2 1 _ rfl
    have k2 := hf2 2 _ rfl
    have k3 := hf2 3 _ rfl
    obtain ⟨z0, u0⟩ := hn2 0 (by omega)
    obtain ⟨z1, u1⟩ := hn2 1 (by omega)
    obtain ⟨z2, u2⟩ := hn2 2 (by omega)
    obtain ⟨z3, u3⟩ := hn2 3 (by omega)
    rw [u0] at k0
    rw [u1] at k1
    rw [u2] at k2
    rw [u3] at k3
    obtain ⟨k, hk, -, wk⟩ := DataW.trod_int Tryd.underlying3 k0
    obtain ⟨s, hs, -, ws⟩ := DataW.trod_string Tryd.underlying9 k1
    obtain ⟨t, ht, -, wt⟩ := DataW.trod_string Tryd.underlying9 k2
    obtain ⟨b, ba, bc, hb, rb, nb, lb⟩ := open_bytes (c := c3) k3
    obtain ⟨m, hm, -, wm⟩ := DataW.trod_int Tryd.underlying3 g1
    obtain ⟨q, qa, qc, hq, rq, nq, lq⟩ := open_nums (c := c5) g2
    have hk' : [c0] = [Value.int .i64 k] := hk
    have hs' : [c1] = [Value.string s] := hs
    have ht' : [c2] = [Value.string t] := ht
    have hm' : [c4] = [Value.int .i64 m] := hm
    cases hk'; cases hs'; cases ht'; cases hm'
    subst hb
    subst hq
    have bm := bounds_i64 wm
    exact ⟨⟨k, s, t, b, ba, bc, m, q, qa, qc⟩, rfl, ⟨rb, nb, rq, nq, lb, lq, ws, wt, bm.2⟩⟩

set_option maxRecDepth 100000 in
theorem open_acts {H : Type} {enc : TypeId × Value → H} {W : World} {base b0 : Nat} {sp : Nat → Bool} {held : Bool} {v : Value} {d : DataW H} {p : List MemPlace} (hval : Value.okWide Tryd.prog W .any b0 35 v)
    (h : DataW.Trod enc Tryd.prog W base sp held 35 v d p) : ∃ (l : List AC) (a : Option Addr) (c : Nat), v = .slice a l.length c ∧ Acts W (.slice a l.length c) l := by
  obtain ⟨a0, len0, cap0, rfl⟩ := okWide_slice Tryd.underlying35 hval
  obtain ⟨fuel, hf⟩ := h
  have hC : Tryd.prog.cellsOf 41 = 6 := by kernel_rfl
  rcases DataW.trod_slice Tryd.underlying35 hf with ⟨h4, -⟩ | ⟨a, len, cap, elems, rest, n', rfl, h4, -, hb, hlc, hcm, hel, hget, -⟩
  · have h4' : [Value.slice a0 len0 cap0] = [Value.slice none 0 0] := h4
    simp only [List.cons.injEq, Value.slice.injEq, and_true] at h4'
    obtain ⟨rfl, rfl, rfl⟩ := h4'
    exact ⟨[], none, 0, rfl, Reads.nil _ _, (fun o ho => by cases ho), Nat.zero_le _⟩
  · have h4' : [Value.slice a0 len0 cap0] = [Value.slice (some a) len cap] := h4
    simp only [List.cons.injEq, Value.slice.injEq, and_true] at h4'
    obtain ⟨rfl, rfl, rfl⟩ := h4'
    obtain ⟨l, l1, hall⟩ := list_of (p := fun i (o : AC) => o.inw W ∧ ∀ r, r < 6 → W.cell? (a.add (i * 6 + r)) = (acells o)[r]?) len0 (fun i hi => by
      have := hget i hi
      rw [List.getElem?_eq_getElem (by rw [hel]; exact hi), hC] at this
      obtain ⟨cs', h1, h2⟩ := Option.bind_eq_some_iff.1 this
      obtain ⟨o, hcs, ht⟩ := open_act n' cs' _ h2
      obtain ⟨_, _, hcell⟩ := World.cells?_some h1
      refine ⟨o, ht, fun r hr => ?_⟩
      rw [← add_add, hcell r hr, hcs])
    subst l1
    refine ⟨l, some a, cap0, rfl, reads_of_each acells_len (by decide) hlc l rfl (fun i hi => (hall i hi).2), fun o ho => ?_, by omega⟩
    obtain ⟨i, hi, rfl⟩ := List.mem_iff_getElem.1 ho
    exact (hall i hi).1
end Go.Proofs.YtjhhmljebflanaaDoor
