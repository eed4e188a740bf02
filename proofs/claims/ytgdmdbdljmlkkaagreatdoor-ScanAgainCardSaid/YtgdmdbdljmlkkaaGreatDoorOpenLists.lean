/- A list of bytes that came in, opened.
A pair of lists of bytes that came in, opened. -/
import Derived.Test.YtgdmdbdljmlkkaaGreatDoorWLift
import Derived.Test.YtgdmdbdljmlkkaaGreatDoorRuns
import Derived.ChangeArms
import Derived.Deep.Slices
namespace Go.Proofs.YtgdmdbdljmlkkaaGreatDoor
set_option linter.unusedVariables false
set_option linter.unusedSimpArgs false
open Go.RowKit Go.ChangeShapes Go.WideShapes Go.Deep

theorem list_of {α : Type} {p : Nat → α → Prop} : ∀ n : Nat, (∀ i, i < n → ∃ t, p i t) → ∃ ts : List α, ts.length = n ∧ ∀ i (h1 : i < ts.length), p i ts[i]
  | 0, _ => ⟨[], rfl, fun i h1 => absurd h1 (Nat.not_lt_zero i)⟩
  | n + 1, h => by
    obtain ⟨ts, h1, h3⟩ := list_of n (fun i hi => h i (by omega))
    obtain ⟨t, hp⟩ := h n (by omega)
    refine ⟨ts ++ [t], by simp [h1], fun i hi1 => ?_⟩
    rcases Nat.lt_or_ge i n with hlt | hge
    · rw [List.getElem_append_left (by omega)]
      exact h3 i _
    · have : i = n := by simp at hi1; omega
      subst this
      simp only [List.getElem_append_right (Nat.le_of_eq h1), h1, Nat.sub_self, List.getElem_cons_zero]
      exact hp

theorem open_bytes {H : Type} {enc : TypeId × Value → H} {W : World} {sp : Nat → Bool} {held : Bool} {base fuel : Nat} {c : Value} {x : DataW H × List MemPlace} (hf : DataW.trod enc Tryz.prog W base sp held fuel 72 [c] = some x) :
    ∃ (b : List UInt8) (a : Option Addr) (k : Nat), c = .slice a b.length k ∧ Reads W (.slice a b.length k) b.length 1 (byts b) ∧ (∀ ad, a = some ad → 0 < b.length → ad.block < W.heap.size) ∧ b.length ≤ maxLen := by
  rcases open_ints Tryz.underlying72 Tryz.underlying5 cellsU8 hf with ⟨hcs, hx⟩ | ⟨a, len, cap, zs, hcs, _, hl, hm, hz, hx, hcell, hwz⟩
  · simp only [List.cons.injEq, and_true] at hcs
    subst hcs
    exact ⟨[], none, 0, rfl, Reads.nil _ _, (fun ad h _ => by cases h), Nat.zero_le _⟩
  · simp only [List.cons.injEq, and_true] at hcs
    subst hcs
    have hzl : len ≤ zs.length := by rw [hz]; split <;> omega
    have hlen : ((zs.take len).map fun n => UInt8.ofNat n.toNat).length = len := by simp; omega
    have hrd : Reads W (.slice (some a) len cap) len 1 (byts ((zs.take len).map fun n => UInt8.ofNat n.toNat)) := by
      refine ⟨by rw [byts_length, hlen, Nat.mul_one], _, cap, rfl, hl, (fun h => by cases h), fun ad had j u hu => ?_⟩
      cases had
      have hj : j < len := by have := (List.getElem?_eq_some_iff.1 hu).1; rw [byts_length, hlen] at this; exact this
      rw [hcell j (by omega), ← hu, byts, List.getElem?_map, List.getElem?_map, List.getElem?_take_of_lt hj, List.getElem?_eq_getElem (show j < zs.length by omega)]
      have hb := range_u8 hwz j
      rw [List.getElem?_eq_getElem (show j < zs.length by omega)] at hb
      simp only [Option.getD_some] at hb
      simp only [Option.map_some, u8v, List.getD_eq_getElem?_getD, List.getElem?_eq_getElem (show j < zs.length by omega), Option.getD_some]
      congr 2
      simp only [UInt8.toNat_ofNat']
      omega
    refine ⟨(zs.take len).map fun n => UInt8.ofNat n.toNat, some a, cap, by rw [hlen], by rw [hlen]; exact hrd, fun ad had h0 => ?_, by rw [hlen]; omega⟩
    cases had
    rw [hlen] at h0
    exact World.block_lt_of_cell? W a (by have := hcell 0 (by omega); simpa [Addr.add] using this)

set_option maxRecDepth 100000 in
theorem open_lists0 {H : Type} {enc : TypeId × Value → H} {W : World} {base : Nat} {sp : Nat → Bool} {held : Bool} {v : Value} {fuel : Nat} {d : DataW H} {p : List MemPlace} (hf : DataW.trod enc Tryz.prog W base sp held fuel 42 [v] = some (d, p))
    (hwt : ∀ n ∈ d.weights Tryz.prog 42, n ≤ 140737488351232) : ∃ (P : List SL) (a : Option Addr) (c : Nat), v = .slice a P.length c ∧ SLs W (.slice a P.length c) P ∧ P.length ≤ 5864062014805 ∧ ∀ x ∈ P, x.l.length ≤ 9223372036854775807 := by
  have hC : Tryz.prog.cellsOf 72 = 1 := by kernel_rfl
  rcases DataW.trod_slice Tryz.underlying42 hf with ⟨h4, -⟩ | ⟨a, len, cap, elems, rest, n', rfl, h4, hx, hb, hlc, hcm, hel, hget, -⟩
  · simp only [List.cons.injEq, and_true] at h4
    subst h4
    exact ⟨[], none, 0, rfl, ⟨Reads.nil _ _, by simp⟩, Nat.zero_le _, by simp⟩
  · simp only [List.cons.injEq, and_true] at h4
    subst h4
    obtain ⟨hd, -⟩ := Prod.mk.inj hx
    subst hd
    have hB : Tryz.prog.bytesOf 72 = 24 := by kernel_rfl
    have hwu : (DataW.slice (elems.map (·.1)) (rest.map (·.1))).weights Tryz.prog 42 = ((elems.map (·.1)).length + (rest.map (·.1)).length) * Tryz.prog.bytesOf 72 :: (DataW.weightsAll Tryz.prog 72 (elems.map (·.1)) ++ DataW.weightsAll Tryz.prog 72 (rest.map (·.1))) := by
      rw [DataW.weights, Tryz.underlying42]
    have hw0 : len * 24 ≤ 140737488351232 := by
      have := hwt _ (by rw [hwu]; exact List.mem_cons_self ..)
      rw [hB, List.length_map, hel] at this
      omega
    obtain ⟨l, l1, hall⟩ := list_of (p := fun i (o : SL) => (Reads W o.v o.l.length 1 (byts o.l) ∧ o.l.length ≤ maxLen) ∧ W.cell? (a.add i) = some o.v) len (fun i hi => by
      have := hget i hi
      rw [List.getElem?_eq_getElem (by rw [hel]; exact hi), hC] at this
      obtain ⟨cs', h1, h2⟩ := Option.bind_eq_some_iff.1 this
      obtain ⟨_, hlen, hcell⟩ := World.cells?_some h1
      match cs', hlen, h1, h2, hcell with
      | [c], _, h1, h2, hcell =>
        obtain ⟨b, ba, k, rfl, hr, -, hl⟩ := open_bytes h2
        refine ⟨⟨.slice ba b.length k, b⟩, ⟨hr, hl⟩, ?_⟩
        have := hcell 0 (by decide)
        rw [add_add, Nat.add_zero] at this
        simpa using this)
    subst l1
    refine ⟨l, some a, cap, rfl, ⟨⟨by simp, some a, cap, rfl, hlc, (fun h => by cases h), fun ad had j u hu => ?_⟩, fun x hx => ?_⟩, by omega, fun x hx => ?_⟩
    · cases had
      rw [List.getElem?_map] at hu
      obtain ⟨x, hx1, rfl⟩ := Option.map_eq_some_iff.1 hu
      obtain ⟨hj, rfl⟩ := List.getElem?_eq_some_iff.1 hx1
      exact (hall j hj).2
    · obtain ⟨i, hi, rfl⟩ := List.mem_iff_getElem.1 hx
      exact (hall i hi).1.1
    · obtain ⟨i, hi, rfl⟩ := List.mem_iff_getElem.1 hx
      have := (hall i hi).1.2
      unfold maxLen at this
      omega
set_option maxRecDepth 100000 in
theorem open_lists {H : Type} {enc : TypeId × Value → H} {W : World} {base b0 : Nat} {sp : Nat → Bool} {held : Bool} {v : Value} {d : DataW H} {p : List MemPlace} (hval : Value.okWide Tryz.prog W .any b0 42 v)
    (h : DataW.Trod enc Tryz.prog W base sp held 42 v d p) (hwt : ∀ n ∈ d.weights Tryz.prog 42, n ≤ 140737488351232) : ∃ (P : List SL) (a : Option Addr) (c : Nat), v = .slice a P.length c ∧ SLs W (.slice a P.length c) P ∧ P.length ≤ 5864062014805 ∧ ∀ x ∈ P, x.l.length ≤ 9223372036854775807 := by
  obtain ⟨a0, len0, cap0, rfl⟩ := okWide_slice Tryz.underlying42 hval
  obtain ⟨fuel, hf⟩ := h
  exact open_lists0 hf hwt
end Go.Proofs.YtgdmdbdljmlkkaaGreatDoor
namespace Go.Proofs.YtgdmdbdljmlkkaaGreatDoor
set_option linter.unusedVariables false
set_option linter.unusedSimpArgs false
open Go.RowKit Go.ChangeShapes Go.WideShapes Go.Deep

set_option maxRecDepth 100000 in
theorem open_pair {H : Type} {enc : TypeId × Value → H} {W : World} {base b0 : Nat} {sp : Nat → Bool} {held : Bool} {v : Value} {d : DataW H} {p : List MemPlace} (hval : Value.okWide Tryz.prog W .any b0 80 v)
    (h : DataW.Trod enc Tryz.prog W base sp held 80 v d p) (hwt : ∀ n ∈ d.weights Tryz.prog 80, n ≤ 140737488351232) :
    ∃ (P : List SL) (a : Option Addr) (c : Nat) (P2 : List SL) (a2 : Option Addr) (c2 : Nat), v = .agg #[.slice a P.length c, .slice a2 P2.length c2] ∧ (SLs W (.slice a P.length c) P ∧ P.length ≤ 5864062014805 ∧ ∀ x ∈ P, x.l.length ≤ 9223372036854775807) ∧ (SLs W (.slice a2 P2.length c2) P2 ∧ P2.length ≤ 5864062014805 ∧ ∀ x ∈ P2, x.l.length ≤ 9223372036854775807) := by
  obtain ⟨cs, rfl, hcs⟩ : ∃ cs, v = .agg cs ∧ cs.size = Tryz.prog.cellsOf 80 := by
    simp only [Value.okWide, Tryz.underlying80] at hval
    obtain ⟨cs, h1, h2, _⟩ := hval
    exact ⟨cs, h1, h2⟩
  have hC : Tryz.prog.cellsOf 80 = 2 := by kernel_rfl
  have hC1 : Tryz.prog.cellsOf 42 = 1 := by kernel_rfl
  rw [hC] at hcs
  obtain ⟨c0, c1, rfl⟩ : ∃ c0 c1, cs = #[c0, c1] := by
    obtain ⟨l⟩ := cs
    match l, hcs with
    | [c0, c1], _ => exact ⟨c0, c1, rfl⟩
  obtain ⟨fuel, hf⟩ := h
  obtain ⟨xs, m, rfl, hx, -, hlen, hget⟩ := DataW.trod_array Tryz.underlying80 hf
  have g0 := hget 0 (by omega)
  have g1 := hget 1 (by omega)
  rw [hC1] at g0 g1
  match xs, hlen, hx, g0, g1 with
  | [(d0, p0), (d1, p1)], _, hx, g0, g1 =>
    simp only [Prod.mk.injEq] at hx
    obtain ⟨rfl, -⟩ := hx
    have hw : (DataW.agg [d0, d1]).weights Tryz.prog 80 = d0.weights Tryz.prog 42 ++ (d1.weights Tryz.prog 42 ++ []) := by
      rw [DataW.weights, Tryz.underlying80]
      rfl
    have hwt2 : ∀ n ∈ (DataW.agg [d0, d1]).weights Tryz.prog 80, n ≤ 140737488351232 := hwt
    rw [hw, List.append_nil] at hwt2
    obtain ⟨P, a, c, rfl, h1⟩ := open_lists0 (v := c0) g0 (fun n hn => hwt2 n (List.mem_append_left _ hn))
    obtain ⟨P2, a2, c2, rfl, h2⟩ := open_lists0 (v := c1) g1 (fun n hn => hwt2 n (List.mem_append_right _ hn))
    exact ⟨P, a, c, P2, a2, c2, rfl, h1, h2⟩
end Go.Proofs.YtgdmdbdljmlkkaaGreatDoor
