/- Two equal lists of strings, compared. -/
import Derived.Test.YtgdmdbdljmlkkaaGreatDoorRel2
import Derived.Test.YtgdmdbdljmlkkaaGreatDoorDConcat
namespace Go.Proofs.YtgdmdbdljmlkkaaGreatDoor
set_option linter.unusedVariables false
set_option linter.unusedSimpArgs false
open Go.RowKit

theorem stringVs_eq (R : List RF) : namesR R = (R.map fun r => r.f.name).map Value.string := by
  unfold namesR; rw [List.map_map]; rfl

set_option maxRecDepth 100000 in
set_option maxHeartbeats 1000000 in
theorem sequal_any (a1 a2 : Option Addr) (c1 c2 : Nat) (l : List ByteArray) (w : World) (h1 : Reads w (.slice a1 l.length c1) l.length 1 (l.map Value.string)) (h2 : Reads w (.slice a2 l.length c2) l.length 1 (l.map Value.string)) (hl : l.length ≤ 100000) :
    Calls Tryz.prog 48 #[.slice a1 l.length c1, .slice a2 l.length c2] w fun e w' => e = .returned (.bool true) ∧ Below w.heap.size w w' := by
  have HC : Hid (∀ (j : Nat) (hj : j < l.length), ∃ b o b' o', a1 = some ⟨b, o, none⟩ ∧ a2 = some ⟨b', o', none⟩ ∧ l.length ≤ c1 ∧ l.length ≤ c2 ∧ b < w.heap.size ∧ b' < w.heap.size ∧ w.cell? ⟨b, o + j, none⟩ = some (.string l[j]) ∧ w.cell? ⟨b', o' + j, none⟩ = some (.string l[j])) := by
    intro j hj
    obtain ⟨b, o, c', hv, hle, hb, hc⟩ := h1.at (by omega)
    cases hv
    obtain ⟨b', o', c'', hv, hle', hb', hc'⟩ := h2.at (by omega)
    cases hv
    refine ⟨b, o, b', o', rfl, rfl, hle, hle', hb, hb', hc j _ ?_, hc' j _ ?_⟩
    · rw [List.getElem?_map, List.getElem?_eq_getElem hj]; rfl
    · rw [List.getElem?_map, List.getElem?_eq_getElem hj]; rfl
  clear h1 h2
  go_enter Tryz.func48, Tryz.ntmps48
  go_wp2_with fail
  go_loopw [13] (fun i w' => ∃ m : Nat, m ≤ l.length ∧ i = .int .i64 m ∧ Hid (Below w.heap.size w w')) (fun i _ => l.length - (RowKit.intOf i).toNat)
  case atStart => exact ⟨0, by omega, rfl, Below.refl _ _⟩
  case round =>
    obtain ⟨m, hm, rfl, HB⟩ := hrel
    by_cases hlt : m < l.length
    · obtain ⟨b, o, b', o', rfl, rfl, hle, hle', hb, hb', k1, k2⟩ := HC.out m hlt
      have hc1 := (HB.out.cell (p := ⟨b, o + m, none⟩) hb).trans k1
      have hc2 := (HB.out.cell (p := ⟨b', o' + m, none⟩) hb').trans k2
      clear k1 k2
      generalize l[m] = s at *
      go_wp2_with fail
      go_quiet (fail)
      have HBN := Lib.hid (show Below w.heap.size w (wr.drewN nq) from ⟨HB.out.os, HB.out.tape, HB.out.output, HB.out.size, HB.out.block⟩)
      clear hc1 hc2 hb hb'
      go_wp2
      go_roundw
      case rel => exact ⟨m + 1, by omega, by go_num, HBN⟩
      case measure => simp [RowKit.intOf]; omega
    · obtain rfl : m = l.length := by omega
      go_wp2
      go_ret
      exact ⟨rfl, HB.out⟩

theorem bel_step {w0 a b : World} (h : Hid (Below w0.heap.size w0 a)) (hb : Below a.heap.size a b) : Hid (Below w0.heap.size w0 b) := h.out.trans (hb.mono h.out.size)
end Go.Proofs.YtgdmdbdljmlkkaaGreatDoor
