/- A payload that came in, opened to a tree. -/
import Derived.Test.YtpijpeocdlnhiaaGreatDoorVal
import Derived.ChangeArms
import Derived.Deep.Slices
import Derived.OpenShut
namespace Go.Proofs.YtpijpeocdlnhiaaGreatDoor
set_option linter.unusedVariables false
set_option linter.unusedSimpArgs false
open Go.RowKit Go.ChangeShapes Go.WideShapes Go.Deep

theorem trod_float {H : Type} {enc : TypeId × Value → H} {P : Program} {w : World} {base : Nat} {spare : Nat → Bool} {held : Bool} {fuel : Nat} {t : TypeId} {cs : List Value} {x : DataW H × List MemPlace} {k : FloatKind} (ht : P.underlying t = some (.float k)) (h : DataW.trod enc P w base spare held fuel t cs = some x) :
    ∃ n, cs = [.float k n] ∧ x = (.lit (.float k n), []) ∧ (Lit.float k n).wf = true := by
  cases fuel with
  | zero => simp [DataW.trod] at h
  | succ n =>
    unfold DataW.trod at h
    rw [ht] at h
    split at h <;> simp_all

mutual
/-- The numbers of a tree are in the ranges of their kinds. -/
def wfT : VT → Prop
  | .node k n f s l => (-9223372036854775808 ≤ k ∧ k ≤ 9223372036854775807) ∧ (-9223372036854775808 ≤ n ∧ n ≤ 9223372036854775807) ∧ f < 18446744073709551616 ∧ s.size ≤ maxLen ∧ wfL l
def wfL : List VT → Prop
  | [] => True
  | t :: ts => wfT t ∧ wfL ts
end

theorem wfL_iff : ∀ l : List VT, wfL l ↔ ∀ t ∈ l, wfT t
  | [] => by rw [wfL]; simp
  | t :: ts => by rw [wfL, wfL_iff ts]; simp

theorem lists_of {p : Nat → VT → VV → Prop} : ∀ n : Nat, (∀ i, i < n → ∃ t v, p i t v) → ∃ (ts : List VT) (vs : List VV), ts.length = n ∧ vs.length = n ∧ ∀ i (h1 : i < ts.length) (h2 : i < vs.length), p i ts[i] vs[i]
  | 0, _ => ⟨[], [], rfl, rfl, fun i h1 _ => absurd h1 (Nat.not_lt_zero i)⟩
  | n + 1, h => by
    obtain ⟨ts, vs, h1, h2, h3⟩ := lists_of n (fun i hi => h i (by omega))
    obtain ⟨t, v, hp⟩ := h n (by omega)
    refine ⟨ts ++ [t], vs ++ [v], by simp [h1], by simp [h2], fun i hi1 hi2 => ?_⟩
    rcases Nat.lt_or_ge i n with hlt | hge
    · rw [List.getElem_append_left (by omega), List.getElem_append_left (by omega)]
      exact h3 i _ _
    · have : i = n := by simp at hi1; omega
      subst this
      simp only [List.getElem_append_right (Nat.le_of_eq h1), List.getElem_append_right (Nat.le_of_eq h2), h1, h2, Nat.sub_self, List.getElem_cons_zero]
      exact hp

theorem flat_at (vs : List VV) (i r : Nat) (hr : r < 5) : (flat vs)[i * 5 + r]? = (vs[i]?).bind (fun v => v.cells[r]?) := by
  induction vs generalizing i with
  | nil => simp
  | cons a vs ih =>
    have hc : a.cells.length = 5 := rfl
    show (a.cells ++ flat vs)[i * 5 + r]? = _
    cases i with
    | zero => rw [Nat.zero_mul, Nat.zero_add, List.getElem?_append_left (by omega)]; rfl
    | succ i => rw [List.getElem?_append_right (by omega), hc, show (i + 1) * 5 + r - 5 = i * 5 + r by omega, ih]; rfl

set_option maxRecDepth 100000 in
theorem open_cells {H : Type} {enc : TypeId × Value → H} {W : World} {base : Nat} {sp : Nat → Bool} {held : Bool} : ∀ (fuel : Nat) (cs : List Value) (x : DataW H × List MemPlace),
    DataW.trod enc Tryz.prog W base sp held fuel 26 cs = some x → ∃ t v, cs = VV.cells v ∧ TRead W (fun _ => True) t v ∧ wfT t := by
  intro fuel
  induction fuel using Nat.strongRecOn with
  | _ fuel ih =>
    intro cs x h
    obtain ⟨xs, n, rfl, rfl, hl, hlen, hf⟩ := DataW.trod_struct Tryz.underlying26 h
    have hC : Tryz.prog.cellsOf 26 = 5 := by kernel_rfl
    rw [hC] at hl
    match cs, hl with
    | [c0, c1, c2, c3, c4], _ =>
      have hn : ∀ i, i < 5 → ∃ y, xs[i]? = some y := fun i hi => ⟨_, List.getElem?_eq_getElem (by rw [hlen]; exact hi)⟩
      have g0 := hf 0 _ rfl
      have g1 := hf 1 _ rfl
      have g2 := hf 2 _ rfl
      have g3 := hf 3 _ rfl
      have g4 := hf 4 _ rfl
      obtain ⟨y0, e0⟩ := hn 0 (by omega)
      obtain ⟨y1, e1⟩ := hn 1 (by omega)
      obtain ⟨y2, e2⟩ := hn 2 (by omega)
      obtain ⟨y3, e3⟩ := hn 3 (by omega)
      obtain ⟨y4, e4⟩ := hn 4 (by omega)
      rw [e0] at g0
      rw [e1] at g1
      rw [e2] at g2
      rw [e3] at g3
      rw [e4] at g4
      obtain ⟨k, hk, -, wk⟩ := DataW.trod_int Tryz.underlying3 g0
      obtain ⟨m, hm, -, wm⟩ := DataW.trod_int Tryz.underlying2 g1
      obtain ⟨f, hff, -, wf⟩ := trod_float Tryz.underlying23 g2
      obtain ⟨s, hs, -, ws⟩ := DataW.trod_string Tryz.underlying9 g3
      have hk' : [c0] = [Value.int .i64 k] := hk
      have hm' : [c1] = [Value.int .i64 m] := hm
      have hf' : [c2] = [Value.float .f64 f] := hff
      have hs' : [c3] = [Value.string s] := hs
      cases hk'; cases hm'; cases hf'; cases hs'
      have bk := bounds_i64 wk
      have bm := bounds_i64 wm
      have bf : f < 18446744073709551616 := by simpa [Lit.wf] using wf
      rcases DataW.trod_slice Tryz.underlying24 g4 with ⟨h4, -⟩ | ⟨a, len, cap, elems, rest, n', rfl, h4, -, hb, hlc, hcm, hel, hget, -⟩
      · have h4' : [c4] = [Value.slice none 0 0] := h4
        cases h4'
        refine ⟨.node k m f s [], ⟨k, m, f, s, none, 0, 0⟩, rfl, ?_, ?_⟩
        · rw [TRead]
          exact ⟨rfl, rfl, rfl, rfl, rfl, Nat.zero_le _, [], Reads.nil _ _, fun h => absurd rfl h, by rw [TReads]⟩
        · rw [wfT, wfL]; exact ⟨bk, bm, bf, ws, trivial⟩
      · have h4' : [c4] = [Value.slice (some a) len cap] := h4
        cases h4'
        have hE : ∀ i, i < len → ∃ t v, TRead W (fun _ => True) t v ∧ wfT t ∧ ∀ r, r < 5 → W.cell? (a.add (i * 5 + r)) = (VV.cells v)[r]? := by
          intro i hi
          have := hget i hi
          rw [List.getElem?_eq_getElem (by rw [hel]; exact hi), hC] at this
          obtain ⟨cs', h1, h2⟩ := Option.bind_eq_some_iff.1 this
          obtain ⟨t, v, hcs, ht, hw⟩ := ih n' (by omega) cs' _ h2
          obtain ⟨_, _, hcell⟩ := World.cells?_some h1
          refine ⟨t, v, ht, hw, fun r hr => ?_⟩
          rw [← add_add, hcell r hr, hcs]
        obtain ⟨ts, vs, l1, l2, hall⟩ := lists_of len hE
        refine ⟨.node k m f s ts, ⟨k, m, f, s, some a, len, cap⟩, rfl, ?_, ?_⟩
        · rw [TRead]
          refine ⟨rfl, rfl, rfl, rfl, by rw [l1], by omega, vs, ?_, fun _ _ _ => trivial, TReads.mk (by omega) (fun i hi => ?_)⟩
          · rw [l1]
            refine ⟨by rw [flat_length, l2], _, cap, rfl, hlc, (fun h => by cases h), fun ad had j u hu => ?_⟩
            cases had
            have hj : j = (j / 5) * 5 + j % 5 := by omega
            have hr : j % 5 < 5 := Nat.mod_lt _ (by omega)
            rw [hj, flat_at _ _ _ hr] at hu
            obtain ⟨v, hv1, hv2⟩ := Option.bind_eq_some_iff.1 hu
            obtain ⟨hv3, hv4⟩ := List.getElem?_eq_some_iff.1 hv1
            have := (hall (j / 5) (by omega) hv3).2.2 (j % 5) hr
            rw [hv4] at this
            rw [hj, this]; exact hv2
          · exact ⟨vs[i]'(by omega), List.getElem?_eq_getElem (by omega), (hall i hi (by omega)).1⟩
        · rw [wfT, wfL_iff]
          refine ⟨bk, bm, bf, ws, fun t ht => ?_⟩
          obtain ⟨i, hi, rfl⟩ := List.mem_iff_getElem.1 ht
          exact (hall i hi (by omega)).2.1

set_option maxRecDepth 100000 in
theorem open_val {H : Type} {enc : TypeId × Value → H} {W : World} {base b0 : Nat} {sp : Nat → Bool} {held : Bool} {v : Value} {d : DataW H} {p : List MemPlace} (hval : Value.okWide Tryz.prog W .any b0 26 v)
    (h : DataW.Trod enc Tryz.prog W base sp held 26 v d p) : ∃ t u, v = VV.val u ∧ TRead W (fun _ => True) t u ∧ wfT t := by
  obtain ⟨cs, rfl, -⟩ := okWide_struct Tryz.underlying26 hval
  obtain ⟨fuel, hf⟩ := h
  obtain ⟨t, u, h1, h2, h3⟩ := open_cells fuel _ _ hf
  refine ⟨t, u, ?_, h2, h3⟩
  have h1' : cs.toList = VV.cells u := h1
  rw [VV.val]
  congr 1
  exact Array.ext' (by rw [h1']; rfl)
end Go.Proofs.YtpijpeocdlnhiaaGreatDoor
