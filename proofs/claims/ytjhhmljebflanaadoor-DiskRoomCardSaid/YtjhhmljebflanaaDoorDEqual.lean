/- slices.Equal of bytes. -/
import Derived.Test.YtjhhmljebflanaaDoorDAlive
namespace Go.Proofs.YtjhhmljebflanaaDoor
set_option linter.unusedVariables false
set_option linter.unusedSimpArgs false
open Go.RowKit

theorem u8_ne (x y : UInt8) : (decide ((x.toNat : Int) ≠ (y.toNat : Int))) = decide (x ≠ y) := by
  congr 1
  rw [ne_eq, ne_eq, Int.natCast_inj, UInt8.toNat_inj]

set_option maxRecDepth 100000 in
set_option maxHeartbeats 1000000 in
theorem bequal_any (a1 a2 : Option Addr) (c1 c2 : Nat) (l1 l2 : List UInt8) (w : World) (h1 : Reads w (.slice a1 l1.length c1) l1.length 1 (byts l1)) (h2 : Reads w (.slice a2 l2.length c2) l2.length 1 (byts l2)) (hl : l1.length ≤ 100000) (hl2 : l2.length ≤ 100000) :
    Calls Tryd.prog 22 #[.slice a1 l1.length c1, .slice a2 l2.length c2] w fun e w' => e = .returned (.bool (decide (l1 = l2))) ∧ Below w.heap.size w w' := by
  by_cases hlen : l1.length = l2.length
  · have HC : Hid (∀ (j : Nat) (hj : j < l1.length), ∃ b o b' o', a1 = some ⟨b, o, none⟩ ∧ a2 = some ⟨b', o', none⟩ ∧ l1.length ≤ c1 ∧ l2.length ≤ c2 ∧ b < w.heap.size ∧ b' < w.heap.size ∧ w.cell? ⟨b, o + j, none⟩ = some (.int .u8 l1[j].toNat) ∧ w.cell? ⟨b', o' + j, none⟩ = some (.int .u8 (l2[j]'(by omega)).toNat)) := by
      intro j hj
      obtain ⟨b, o, c', hv, hle, hb, hc⟩ := h1.at (by omega)
      cases hv
      obtain ⟨b', o', c'', hv, hle', hb', hc'⟩ := h2.at (by omega)
      cases hv
      refine ⟨b, o, b', o', rfl, rfl, hle, hle', hb, hb', hc j _ ?_, hc' j _ ?_⟩
      · rw [byts, List.getElem?_map, List.getElem?_eq_getElem hj]; rfl
      · rw [byts, List.getElem?_map, List.getElem?_eq_getElem (show j < l2.length by omega)]; rfl
    have heq : ((l1.length : Int) != (l2.length : Int)) = false := by simp; omega
    clear h1 h2
    go_enter Tryd.func22, Tryd.ntmps22
    go_wp2_with fail
    go_loopw [13] (fun i w' => ∃ m : Nat, m ≤ l1.length ∧ i = .int .i64 m ∧ Hid (Below w.heap.size w w') ∧ Hid (∀ j (h1 : j < l1.length) (h2 : j < l2.length), j < m → l1[j] = l2[j])) (fun i _ => l1.length - (RowKit.intOf i).toNat)
    case atStart => exact ⟨0, by omega, rfl, Below.refl _ _, fun j _ _ h => by omega⟩
    case round =>
      obtain ⟨m, hm, rfl, HB, HLOW⟩ := hrel
      by_cases hlt : m < l1.length
      · obtain ⟨b, o, b', o', rfl, rfl, hle, hle', hb, hb', k1, k2⟩ := HC.out m hlt
        have hc1 := (HB.out.cell (p := ⟨b, o + m, none⟩) hb).trans k1
        have hc2 := (HB.out.cell (p := ⟨b', o' + m, none⟩) hb').trans k2
        clear k1 k2
        have hl2' : m < l2.length := by omega
        by_cases hq : l1[m] = l2[m]
        · have hb1 : (((l1[m].toNat : Nat) : Int) != ((l2[m].toNat : Nat) : Int)) = false := by rw [hq]; simp
          go_wp2_with fail
          go_quiet (fail)
          have HBN := Lib.hid (show Below w.heap.size w (wr.drewN nq) from ⟨HB.out.os, HB.out.tape, HB.out.output, HB.out.size, HB.out.block⟩)
          clear hc1 hc2 hb1 hb hb'
          go_wp2
          go_roundw
          case rel =>
            refine ⟨m + 1, by omega, by go_num, HBN, fun j h1 h2 h3 => ?_⟩
            rcases Nat.lt_or_ge j m with h4 | h4
            · exact HLOW.out j h1 h2 h4
            · have : j = m := by omega
              subst this; exact hq
          case measure => simp [RowKit.intOf]; omega
        · have hb1 : (((l1[m].toNat : Nat) : Int) != ((l2[m].toNat : Nat) : Int)) = true := by
            simp only [bne_iff_ne, ne_eq, Int.natCast_inj, UInt8.toNat_inj]; exact hq
          have HE : Hid (decide (l1 = l2) = false) := decide_eq_false (fun e => hq (by subst e; rfl))
          go_wp2_with fail
          go_quiet (fail)
          have HBN := Lib.hid (show Below w.heap.size w (wr.drewN nq) from ⟨HB.out.os, HB.out.tape, HB.out.output, HB.out.size, HB.out.block⟩)
          clear hc1 hc2 hb1 hb hb'
          go_wp2
          go_ret
          exact ⟨congrArg (fun b => Ending.returned (.bool b)) HE.out.symm, HBN.out⟩
      · obtain rfl : m = l1.length := by omega
        have HE : Hid (decide (l1 = l2) = true) := decide_eq_true (List.ext_getElem hlen (fun j h1 h2 => HLOW.out j h1 h2 h1))
        go_wp2
        go_ret
        exact ⟨congrArg (fun b => Ending.returned (.bool b)) HE.out.symm, HB.out⟩
  · have HN : Hid (decide (l1 = l2) = false) := decide_eq_false (fun e => hlen (by rw [e]))
    have hne : ((l1.length : Int) != (l2.length : Int)) = true := by simp; omega
    clear h1 h2
    rw [HN.out]
    go_enter Tryd.func22, Tryd.ntmps22
    go_wp2
    go_ret
    exact ⟨rfl, Below.refl _ _⟩
end Go.Proofs.YtjhhmljebflanaaDoor
