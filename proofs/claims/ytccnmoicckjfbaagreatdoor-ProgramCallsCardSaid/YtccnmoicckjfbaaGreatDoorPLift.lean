/- From a walk to a given statement on programs: what the laws share. -/
import Derived.Test.YtccnmoicckjfbaaGreatDoorRows
import Derived.Test.YtccnmoicckjfbaaGreatDoorCards
import Derived.Test.YtccnmoicckjfbaaGreatDoorTie
import Derived.Test.YtccnmoicckjfbaaGreatDoorPLimits
import Derived.Test.YtccnmoicckjfbaaGreatDoorLift
import Derived.ProofKit
import Derived.LaidMore
import Derived.Lay
import Derived.OpenShut
import Derived.Stop.Joined
import Derived.SevenTiedAt
namespace Go.Proofs.YtccnmoicckjfbaaGreatDoor
set_option linter.unusedVariables false
set_option linter.unusedSimpArgs false
open Go.ChangeShapes Go.WideShapes Go.ChangeAt Go.RowKit

abbrev laidP : List (String × DataW Unit) := Rows.programCallsRow.laid
theorem laid_met (os : Os) (args : Array Value) : laidMetH Tryz.prog laidP ((World.laidAll Tryz.prog os laidP).forCall (fun _ _ => 0) ⟨#[], args, []⟩).memory := by
  rw [MakeChecks.laidMetH_plain _ _ _ (by kernel_rfl)]
  exact laidMet_laidAll _ (by kernel_rfl) (by kernel_rfl)

theorem words_data : (Rows.laid_clockwork_program_words : DataW Unit) = .agg (wordsL.map fun s => .lit (.string s.data.toList)) := by kernel_rfl

theorem words_of_laid {W : World} (h : laidMetH Tryz.prog laidP W) : Words W := by
  rw [MakeChecks.laidMetH_plain _ _ _ (by kernel_rfl)] at h
  have h3 := laidMet.filter (fun x => x.1 == "clockwork/program.words") h
  have e : laidP.filter (fun x => x.1 == "clockwork/program.words") = [("clockwork/program.words", .agg (wordsL.map fun s => .lit (.string s.data.toList)))] := by rw [← words_data]; kernel_rfl
  rw [e] at h3
  obtain ⟨ps, ⟨g, t, cs, fuel, p, q, hg, ht, hv, hd, _, _⟩, _, _⟩ := h3
  obtain rfl := Option.some.inj ((show Tryz.prog.globalNamed "clockwork/program.words" = some 0 by kernel_rfl).symm.trans hg)
  obtain rfl := Option.some.inj ((show (Tryz.prog.globals[0]?).map (·.type) = some 53 by kernel_rfl).symm.trans ht)
  obtain ⟨xs, m, _, ex, _, hl, hel⟩ := DataW.trod_array Tryz.underlying53 hd
  have c5 : Tryz.prog.cellsOf 9 = 1 := by kernel_rfl
  have e3 : (xs.map (·.1)) = wordsL.map fun s => (DataW.lit (.string s.data.toList) : DataW Unit) := (DataW.agg.inj (Prod.mk.inj ex).1).symm
  have hc : ∀ i x, wordsL[i]? = some x → W.cell? ⟨0, i, none⟩ = some (.string x) := by
    intro i x hx
    have hi : i < 13 := (List.getElem?_eq_some_iff.1 hx).1
    have hE := hel i hi
    rw [c5, Nat.mul_one, List.getElem?_eq_getElem (by omega)] at hE
    obtain ⟨z, e1, e2, _⟩ := DataW.trod_string Tryz.underlying9 hE
    have e4 : (xs.map (·.1))[i]? = (wordsL.map fun s => (DataW.lit (.string s.data.toList) : DataW Unit))[i]? := by rw [e3]
    rw [List.getElem?_map, List.getElem?_map, List.getElem?_eq_getElem (by omega : i < xs.length), hx, e2] at e4
    have hz : z = x := by
      simp only [Option.map_some, Option.some.injEq, DataW.lit.injEq, Lit.string.injEq] at e4
      have : z.data = x.data := by rw [← Array.toArray_toList (xs := z.data), e4, Array.toArray_toList]
      cases z; cases x; simp_all
    rw [World.var?_cell hg hv i, ← hz]
    have : cs.toList[i]? = some (.string z) := by
      have h0 : ((cs.toList.drop i).take 1)[0]? = some (.string z) := by rw [e1]; rfl
      simpa using h0
    simpa using this
  refine ⟨?_, hc⟩
  have := World.block_lt_of_cell? W _ (hc 0 ⟨#[]⟩ rfl)
  exact this
end Go.Proofs.YtccnmoicckjfbaaGreatDoor
