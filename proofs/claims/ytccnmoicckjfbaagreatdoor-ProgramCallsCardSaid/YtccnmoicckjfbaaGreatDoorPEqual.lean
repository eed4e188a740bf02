/- slices.Equal of the same strings. -/
import Derived.Test.YtccnmoicckjfbaaGreatDoorPNames
namespace Go.Proofs.YtccnmoicckjfbaaGreatDoor
set_option linter.unusedVariables false
set_option linter.unusedSimpArgs false
open Go.RowKit

theorem strV_cell {w : World} {b o c n : Nat} {l : List Str} (h : Reads w (.slice (some ⟨b, o, none⟩) n c) n 1 (strV l)) (j : Nat) (hj : j < (l.map fun s => (⟨s.toArray⟩ : ByteArray)).length) :
    w.cell? ⟨b, o + j, none⟩ = some (.string ((l.map fun s => (⟨s.toArray⟩ : ByteArray)).getD j ByteArray.empty)) := by
  have hj' : j < l.length := by simpa using hj
  have hn : l.length = n := by have := h.1; simpa using this
  obtain ⟨b', o', c', hv, _, _, hc⟩ := h.at (by omega)
  cases hv
  refine hc j _ ?_
  rw [strV, List.getElem?_map, List.getElem?_eq_getElem hj']
  simp [List.getD, hj']

/-- Two slices with the same strings are equal. -/
theorem sequalS_any (v1 v2 : Value) (l : List Str) (w : World) (h1 : Reads w v1 l.length 1 (strV l)) (h2 : Reads w v2 l.length 1 (strV l)) (hl : l.length ≤ 4398046600000) :
    Calls Tryz.prog 8 #[v1, v2] w fun e w' => e = .returned (.bool true) ∧ Below w.heap.size w w' := by
  obtain ⟨a1, c1, rfl⟩ : ∃ a c, v1 = .slice a l.length c := by obtain ⟨_, a, c, hv, _⟩ := h1; exact ⟨a, c, hv⟩
  obtain ⟨a2, c2, rfl⟩ : ∃ a c, v2 = .slice a l.length c := by obtain ⟨_, a, c, hv, _⟩ := h2; exact ⟨a, c, hv⟩
  rcases Nat.eq_zero_or_pos l.length with h0 | hp
  · rw [h0]
    refine (Tryz.slices_Equal_string_empty a1 a2 c1 0 c2 w (by omega)).mono ?_
    rintro e w' ⟨rfl, rfl⟩
    exact ⟨rfl, Below.refl _ _⟩
  · obtain ⟨b1, o1, c1', hv, -, -, -⟩ := h1.at hp
    cases hv
    obtain ⟨b2, o2, c2', hv, -, -, -⟩ := h2.at hp
    cases hv
    refine (Tryz.slices_Equal_string b1 o1 l.length c1 b2 o2 l.length c2 (l.map fun s => (⟨s.toArray⟩ : ByteArray)) (l.map fun s => (⟨s.toArray⟩ : ByteArray)) w (by simp) (by simp) (by omega) (by omega) (strV_cell h1) (strV_cell h2)).mono ?_
    rintro e w' ⟨rfl, q, rfl⟩
    exact ⟨by simp, below_drew (Below.refl _ _) q⟩

set_option maxRecDepth 100000 in
set_option maxHeartbeats 1000000 in
theorem calls_any (pa : Option Addr) (pc : Nat) (P : List RT) (w : World) (h : PrgU w (.slice pa P.length pc) P) (hs : (allS P).length ≤ 4398046600000) :
    Calls Tryz.prog 6 #[.slice pa P.length pc] w fun e w' => ∃ v1 v2, e = .returned (.tuple #[v1, v2]) ∧ Reads w' v1 (namesL 3 (allS P)).length 1 (strV (namesL 3 (allS P))) ∧ Reads w' v2 (namesL 5 (allS P)).length 1 (strV (namesL 5 (allS P))) ∧ Below w.heap.size w w' := by
  have HP := Lib.hid h
  clear h
  go_enter Tryz.func6, Tryz.ntmps6
  go_wp2_with fail
  refine (names_any pa pc P 3 w HP.out hs).mono ?_
  rintro e w1 ⟨v1, rfl, hr1, hb1⟩
  have HR1 := Lib.hid hr1
  have HB1 := Lib.hid hb1
  clear hr1 hb1
  go_wp2_with fail
  refine (names_any pa pc P 5 w1 (HP.out.later HB1.out) hs).mono ?_
  rintro e w2 ⟨v2, rfl, hr2, hb2⟩
  have HR2 := Lib.hid hr2
  have HR12 := Lib.hid (HR1.out.later hb2)
  have HB2 := Lib.hid (HB1.out.trans (hb2.mono HB1.out.size))
  clear hr2 hb2
  go_wp2
  go_ret2
  exact ⟨_, _, rfl, HR12.out, HR2.out, HB2.out⟩
end Go.Proofs.YtccnmoicckjfbaaGreatDoor
