/- Texts for programTexts_holds, joined: POpen. -/
import Derived.Test.YtpijpeocdlnhiaaGreatDoorTp05
import Derived.Test.YtpijpeocdlnhiaaGreatDoorTp19
import Derived.ChangeArms
import Derived.Deep.Slices
set_option linter.unusedVariables false
set_option linter.unusedSimpArgs false
namespace Go.Proofs.YtpijpeocdlnhiaaGreatDoor
open Go.RowKit Go.ChangeShapes Go.WideShapes Go.Deep
theorem plist_of {α : Type} {p : Nat → α → Prop} : ∀ n : Nat, (∀ i, i < n → ∃ t, p i t) → ∃ ts : List α, ts.length = n ∧ ∀ i (h1 : i < ts.length), p i ts[i]
  | 0, _ => ⟨[], rfl, fun i h1 => absurd h1 (Nat.not_lt_zero i)⟩
  | n + 1, h => by
    obtain ⟨ts, h1, h3⟩ := plist_of n (fun i hi => h i (by omega))
    obtain ⟨t, hp⟩ := h n (by omega)
    refine ⟨ts ++ [t], by simp [h1], fun i hi1 => ?_⟩
    rcases Nat.lt_or_ge i n with hlt | hge
    · rw [List.getElem_append_left (by omega)]
      exact h3 i _
    · have : i = n := by simp at hi1; omega
      subst this
      simp only [List.getElem_append_right (Nat.le_of_eq h1), h1, Nat.sub_self, List.getElem_cons_zero]
      exact hp
theorem fm_at {α : Type} {f : α → List Value} {k : Nat} (hf : ∀ a, (f a).length = k) (l : List α) (i r : Nat) (hr : r < k) : (l.flatMap f)[i * k + r]? = (l[i]?).bind (fun v => (f v)[r]?) := by
  induction l generalizing i with
  | nil => simp
  | cons a vs ih =>
    have hc : (f a).length = k := hf a
    rw [List.flatMap_cons]
    cases i with
    | zero => rw [Nat.zero_mul, Nat.zero_add, List.getElem?_append_left (by omega)]; rfl
    | succ i => rw [List.getElem?_append_right (by rw [hc, Nat.add_mul]; omega), hc, show (i + 1) * k + r - k = i * k + r by rw [Nat.add_mul]; omega, ih]; rfl
theorem reads_of_each {α : Type} {w : World} {f : α → List Value} {k : Nat} (hf : ∀ a, (f a).length = k) (hk : 0 < k) {a : Addr} {len cap : Nat} (hlc : len ≤ cap) (l : List α) (hl : l.length = len)
    (h : ∀ i (hi : i < l.length), ∀ r, r < k → w.cell? (a.add (i * k + r)) = (f l[i])[r]?) : Reads w (.slice (some a) len cap) len k (l.flatMap f) := by
  refine ⟨by rw [fm_length hf, hl], _, cap, rfl, hlc, (fun h => by cases h), fun ad had j u hu => ?_⟩
  cases had
  have hj : j = (j / k) * k + j % k := by rw [Nat.mul_comm]; exact (Nat.div_add_mod j k).symm
  have hr : j % k < k := Nat.mod_lt _ hk
  rw [hj, fm_at hf _ _ _ hr] at hu
  obtain ⟨v, hv1, hv2⟩ := Option.bind_eq_some_iff.1 hu
  obtain ⟨hv3, hv4⟩ := List.getElem?_eq_some_iff.1 hv1
  have := h (j / k) hv3 (j % k) hr
  rw [hv4] at this
  rw [hj, this]; exact hv2
theorem flat_single : ∀ l : List RT, l.flatMap (fun o : RT => [o.v]) = l.map RT.v
  | [] => rfl
  | a :: l => by rw [List.flatMap_cons, flat_single l]; rfl
theorem weightsAll_mem {H : Type} {P : Program} {e : TypeId} : ∀ {l : List (DataW H)} {d : DataW H}, d ∈ l → ∀ n ∈ d.weights P e, n ∈ DataW.weightsAll P e l
  | x :: l, d, h, n, hn => by
    rw [DataW.weightsAll]
    rcases List.mem_cons.1 h with rfl | h
    · exact List.mem_append_left _ hn
    · exact List.mem_append_right _ (weightsAll_mem h n hn)
set_option maxRecDepth 100000 in
theorem open_step {H : Type} {enc : TypeId × Value → H} {W : World} {base : Nat} {sp : Nat → Bool} {held : Bool} (fuel : Nat) (cs : List Value) (x : DataW H × List MemPlace)
    (h : DataW.trod enc Tryz.prog W base sp held fuel 81 cs = some x) : ∃ s : ST, cs = stcells s ∧ s.ok := by
  obtain ⟨xs, n, rfl, rfl, hl, hlen, hf⟩ := DataW.trod_struct Tryz.underlying81 h
  have hC : Tryz.prog.cellsOf 81 = 3 := by kernel_rfl
  rw [hC] at hl
  match cs, hl with
  | [c0, c1, c2], _ =>
    have hn : ∀ i, i < 3 → ∃ y, xs[i]? = some y := fun i hi => ⟨_, List.getElem?_eq_getElem (by rw [hlen]; exact hi)⟩
    have g0 := hf 0 _ rfl
    have g1 := hf 1 _ rfl
    have g2 := hf 2 _ rfl
    obtain ⟨y0, e0⟩ := hn 0 (by omega)
    obtain ⟨y1, e1⟩ := hn 1 (by omega)
    obtain ⟨y2, e2⟩ := hn 2 (by omega)
    rw [e0] at g0
    rw [e1] at g1
    rw [e2] at g2
    obtain ⟨k, hk, -, wk⟩ := DataW.trod_int Tryz.underlying3 g0
    obtain ⟨m, hm, -, wm⟩ := DataW.trod_int Tryz.underlying2 g1
    obtain ⟨s, hs, -, ws⟩ := DataW.trod_string Tryz.underlying9 g2
    have hk' : [c0] = [Value.int .i64 k] := hk
    have hm' : [c1] = [Value.int .i64 m] := hm
    have hs' : [c2] = [Value.string s] := hs
    cases hk'; cases hm'; cases hs'
    exact ⟨⟨k, m, s⟩, rfl, bounds_i64 wk, bounds_i64 wm, ws⟩
set_option maxRecDepth 100000 in
theorem open_routine {H : Type} {enc : TypeId × Value → H} {W : World} {base : Nat} {sp : Nat → Bool} {held : Bool} (fuel : Nat) (c : Value) (x : DataW H × List MemPlace)
    (h : DataW.trod enc Tryz.prog W base sp held fuel 79 [c] = some x) (hwt : ∀ n ∈ x.1.weights Tryz.prog 79, n ≤ 140737488351232) : ∃ r : RT, c = r.v ∧ r.inw W := by
  have hB : Tryz.prog.bytesOf 81 = 32 := by kernel_rfl
  have hC : Tryz.prog.cellsOf 81 = 3 := by kernel_rfl
  rcases DataW.trod_slice Tryz.underlying79 h with ⟨h4, -⟩ | ⟨a, len, cap, elems, rest, n', rfl, h4, hx, hb, hlc, hcm, hel, hget, -⟩
  · simp only [List.cons.injEq, and_true] at h4
    subst h4
    exact ⟨⟨[], none, 0⟩, rfl, Reads.nil _ _, Nat.zero_le _, by simp, by simp⟩
  · simp only [List.cons.injEq, and_true] at h4
    subst h4
    rw [hx] at hwt
    have hw0 : len * 32 ≤ 140737488351232 := by
      have hm : (((elems.map (·.1)).length + (rest.map (·.1)).length) * Tryz.prog.bytesOf 81) ∈ (DataW.slice (elems.map (·.1)) (rest.map (·.1))).weights Tryz.prog 79 := by
        unfold DataW.weights; rw [Tryz.underlying79]; exact List.mem_cons_self ..
      have := hwt _ hm
      rw [hB, List.length_map, hel] at this
      omega
    obtain ⟨l, l1, hall⟩ := plist_of (p := fun i (o : ST) => o.ok ∧ ∀ r, r < 3 → W.cell? (a.add (i * 3 + r)) = (stcells o)[r]?) len (fun i hi => by
      have := hget i hi
      rw [List.getElem?_eq_getElem (by rw [hel]; exact hi), hC] at this
      obtain ⟨cs', h1, h2⟩ := Option.bind_eq_some_iff.1 this
      obtain ⟨o, hcs, ht⟩ := open_step n' cs' _ h2
      obtain ⟨_, _, hcell⟩ := World.cells?_some h1
      refine ⟨o, ht, fun r hr => ?_⟩
      rw [← add_add, hcell r hr, hcs])
    subst l1
    refine ⟨⟨l, some a, cap⟩, rfl, reads_of_each stcells_len (by decide) hlc l rfl (fun i hi => (hall i hi).2), by show l.length ≤ maxLen; omega, fun o ho => ?_, hw0⟩
    obtain ⟨i, hi, rfl⟩ := List.mem_iff_getElem.1 ho
    exact (hall i hi).1
set_option maxRecDepth 100000 in
theorem open_prg {H : Type} {enc : TypeId × Value → H} {W : World} {base b0 : Nat} {sp : Nat → Bool} {held : Bool} {v : Value} {d : DataW H} {p : List MemPlace} (hval : Value.okWide Tryz.prog W .any b0 42 v)
    (h : DataW.Trod enc Tryz.prog W base sp held 42 v d p) (hwt : ∀ n ∈ d.weights Tryz.prog 42, n ≤ 140737488351232) : ∃ (P : List RT) (a : Option Addr) (c : Nat), v = .slice a P.length c ∧ PrgU W (.slice a P.length c) P := by
  obtain ⟨a0, len0, cap0, rfl⟩ := okWide_slice Tryz.underlying42 hval
  obtain ⟨fuel, hf⟩ := h
  have hC : Tryz.prog.cellsOf 79 = 1 := by kernel_rfl
  rcases DataW.trod_slice Tryz.underlying42 hf with ⟨h4, -⟩ | ⟨a, len, cap, elems, rest, n', rfl, h4, hx, hb, hlc, hcm, hel, hget, -⟩
  · have h4' : [Value.slice a0 len0 cap0] = [Value.slice none 0 0] := h4
    simp only [List.cons.injEq, Value.slice.injEq, and_true] at h4'
    obtain ⟨rfl, rfl, rfl⟩ := h4'
    exact ⟨[], none, 0, rfl, Reads.nil _ _, by simp, Nat.zero_le _, by simp⟩
  · have h4' : [Value.slice a0 len0 cap0] = [Value.slice (some a) len cap] := h4
    simp only [List.cons.injEq, Value.slice.injEq, and_true] at h4'
    obtain ⟨rfl, rfl, rfl⟩ := h4'
    obtain ⟨hd, -⟩ := Prod.mk.inj hx
    subst hd
    have hB : Tryz.prog.bytesOf 79 = 24 := by kernel_rfl
    have hwu : (DataW.slice (elems.map (·.1)) (rest.map (·.1))).weights Tryz.prog 42 = ((elems.map (·.1)).length + (rest.map (·.1)).length) * Tryz.prog.bytesOf 79 :: (DataW.weightsAll Tryz.prog 79 (elems.map (·.1)) ++ DataW.weightsAll Tryz.prog 79 (rest.map (·.1))) := by
      rw [DataW.weights, Tryz.underlying42]
    have hw0 : len0 * 24 ≤ 140737488351232 := by
      have := hwt _ (by rw [hwu]; exact List.mem_cons_self ..)
      rw [hB, List.length_map, hel] at this
      omega
    have hwe : ∀ i (hi : i < elems.length), ∀ n ∈ (elems[i]).1.weights Tryz.prog 79, n ≤ 140737488351232 := fun i hi n hn => by
      refine hwt n ?_
      rw [hwu]
      exact List.mem_cons_of_mem _ (List.mem_append_left _ (weightsAll_mem (List.mem_map.2 ⟨_, List.getElem_mem hi, rfl⟩) n hn))
    obtain ⟨l, l1, hall⟩ := plist_of (p := fun i (o : RT) => o.inw W ∧ ∀ r, r < 1 → W.cell? (a.add (i * 1 + r)) = ([o.v] : List Value)[r]?) len0 (fun i hi => by
      have := hget i hi
      rw [List.getElem?_eq_getElem (by rw [hel]; exact hi), hC] at this
      obtain ⟨cs', h1, h2⟩ := Option.bind_eq_some_iff.1 this
      obtain ⟨_, hlen, hcell⟩ := World.cells?_some h1
      match cs', hlen, h1, h2, hcell with
      | [c], _, h1, h2, hcell =>
        obtain ⟨o, hcs, ht⟩ := open_routine n' c _ h2 (hwe i (by rw [hel]; exact hi))
        refine ⟨o, ht, fun r hr => ?_⟩
        rw [← add_add, hcell r hr, hcs])
    subst l1
    refine ⟨l, some a, cap0, rfl, ?_, fun o ho => ?_, by omega, hw0⟩
    · have := reads_of_each (f := fun o : RT => [o.v]) (fun _ => rfl) (by decide) hlc l rfl (fun i hi => (hall i hi).2)
      rwa [flat_single] at this
    · obtain ⟨i, hi, rfl⟩ := List.mem_iff_getElem.1 ho
      exact (hall i hi).1
end Go.Proofs.YtpijpeocdlnhiaaGreatDoor
