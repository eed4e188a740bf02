/- From a walk to a given statement on logs: what all laws share. -/
import Derived.Test.YtgdmdbdljmlkkaaGreatDoorRows
import Derived.Test.YtgdmdbdljmlkkaaGreatDoorCards
import Derived.Test.YtgdmdbdljmlkkaaGreatDoorTie
import Derived.Test.YtgdmdbdljmlkkaaGreatDoorDConcat
import Derived.Test.YtgdmdbdljmlkkaaGreatDoorSegName
import Derived.Shelf.Strconv.Itoa0
import Derived.Test.YtgdmdbdljmlkkaaGreatDoorLift
import Derived.ProofKit
import Derived.LaidMore
import Derived.Lay
import Derived.OpenShut
import Derived.Stop.Joined
import Derived.SevenTiedAt
namespace Go.Proofs.YtgdmdbdljmlkkaaGreatDoor
set_option linter.unusedVariables false
set_option linter.unusedSimpArgs false
open Go.ChangeShapes Go.WideShapes Go.ChangeAt Go.RowKit

abbrev laidD : List (String × DataW Unit) := Rows.walMatchesRow.laid

theorem laid_met (os : Os) (args : Array Value) : laidMetH Tryz.prog laidD ((World.laidAll Tryz.prog os laidD).forCall (fun _ _ => 0) ⟨#[], args, []⟩).memory := by
  rw [MakeChecks.laidMetH_plain _ _ _ (by kernel_rfl)]
  exact laidMet_laidAll _ (by kernel_rfl) (by kernel_rfl)

theorem cellsU8 : Tryz.prog.cellsOf 5 = 1 := by kernel_rfl

set_option maxRecDepth 100000 in
theorem openBy {H : Type} {enc : TypeId × Value → H} {W : World} {base : Nat} {v1 : Value} {d1 : DataW H} {p1 : List MemPlace} (hval : Value.okWide Tryz.prog W .any base 72 v1) (h1 : DataW.Trod enc Tryz.prog W 0 (fun _ => true) true 72 v1 d1 p1) :
    ∃ (b : List UInt8) (a : Option Addr) (c : Nat), v1 = .slice a b.length c ∧ Reads W (.slice a b.length c) b.length 1 (byts b) ∧ (∀ ad, a = some ad → 0 < b.length → ad.block < W.heap.size) ∧ b.length ≤ maxLen := by
  obtain ⟨a1, len, cap, rfl⟩ := okWide_slice Tryz.underlying72 hval
  obtain ⟨fuel, hf⟩ := h1
  have hlt := DataW.trod_lt fuel _ _ _ hf
  rcases open_ints Tryz.underlying72 Tryz.underlying5 cellsU8 hf with ⟨hcs, hx⟩ | ⟨a, len', cap', zs, hcs, _, hl, hm, hz, hx, hcell, hwz⟩
  · simp [Value.cells] at hcs
    obtain ⟨rfl, rfl, rfl⟩ := hcs
    exact ⟨[], none, 0, rfl, Reads.nil _ _, (fun ad h _ => by cases h), Nat.zero_le _⟩
  · simp [Value.cells] at hcs
    obtain ⟨rfl, rfl, rfl⟩ := hcs
    simp only [if_true] at hz
    have hlen : ((zs.take len).map fun n => UInt8.ofNat n.toNat).length = len := by simp; omega
    have hrd : Reads W (.slice (some a) len cap) len 1 (byts ((zs.take len).map fun n => UInt8.ofNat n.toNat)) := by
      refine ⟨by rw [byts_length, hlen, Nat.mul_one], _, cap, rfl, hl, (fun h => by cases h), fun ad had j u hu => ?_⟩
      cases had
      have hj : j < len := by have := (List.getElem?_eq_some_iff.1 hu).1; rw [byts_length, hlen] at this; exact this
      rw [hcell j (by omega), ← hu, byts, List.getElem?_map, List.getElem?_map, List.getElem?_take_of_lt hj, List.getElem?_eq_getElem (show j < zs.length by omega)]
      have hb := range_u8 hwz j
      rw [List.getElem?_eq_getElem (show j < zs.length by omega)] at hb
      simp only [Option.getD_some] at hb
      simp only [Option.map_some, u8v, List.getD_eq_getElem?_getD, List.getElem?_eq_getElem (show j < zs.length by omega), Option.getD_some]
      congr 2
      simp only [UInt8.toNat_ofNat']
      omega
    refine ⟨(zs.take len).map fun n => UInt8.ofNat n.toNat, some a, cap, by rw [hlen], by rw [hlen]; exact hrd, fun ad had h0 => ?_, by rw [hlen]; omega⟩
    cases had
    rw [hlen] at h0
    exact World.block_lt_of_cell? W a (by have := hcell 0 (by omega); simpa [Addr.add] using this)

theorem gPow : Tryz.prog.globalNamed powName = some 0 := by kernel_rfl
theorem gPowType : (Tryz.prog.globals[0]?).map (·.type) = some 282 := by kernel_rfl
theorem cellsU64 : Tryz.prog.cellsOf 233 = 1 := by kernel_rfl
theorem cellsPow : Tryz.prog.cellsOf 282 = 20 := by kernel_rfl
theorem tab_of_laid {W : World} (h : laidMetH Tryz.prog laidD W) : Tab W := by
  rw [MakeChecks.laidMetH_plain _ _ _ (by kernel_rfl)] at h
  have h3 := laidMet.filter (fun x => x.1 == powName) h
  exact Lib.tabIs_of_head gPow gPowType Tryz.underlying282 Tryz.underlying233 cellsU64 cellsPow (rest := []) (by exact h3)
end Go.Proofs.YtgdmdbdljmlkkaaGreatDoor
