/- From a walk to a given statement on payloads and their texts: what the laws share. -/
import Derived.Test.YtpijpeocdlnhiaaGreatDoorRows
import Derived.Test.YtpijpeocdlnhiaaGreatDoorCards
import Derived.Test.YtpijpeocdlnhiaaGreatDoorTie
import Derived.Test.YtpijpeocdlnhiaaGreatDoorLift
import Derived.Test.YtpijpeocdlnhiaaGreatDoorTTextA
import Derived.Test.YtpijpeocdlnhiaaGreatDoorTWord
import Derived.ProofKit
import Derived.LaidMore
import Derived.LaidLaws
import Derived.Lib.LaidTab
import Derived.Lay
import Derived.OpenShut
import Derived.Stop.Joined
import Derived.SevenTiedAt
namespace Go.Proofs.YtpijpeocdlnhiaaGreatDoor
set_option linter.unusedVariables false
set_option linter.unusedSimpArgs false
open Go.ChangeShapes Go.WideShapes Go.ChangeAt Go.RowKit

abbrev laidD : List (String × DataW Unit) := Rows.valueParsesRow.laid
theorem laid_met (os : Os) (args : Array Value) : laidMetH Tryz.prog laidD ((World.laidAll Tryz.prog os laidD).forCall (fun _ _ => 0) ⟨#[], args, []⟩).memory := by
  rw [MakeChecks.laidMetH_plain _ _ _ (by kernel_rfl)]
  exact laidMet_laidAll _ (by kernel_rfl) (by kernel_rfl)

theorem gPow : Tryz.prog.globalNamed powName = some 3 := by kernel_rfl
theorem gPowType : (Tryz.prog.globals[3]?).map (·.type) = some 203 := by kernel_rfl
theorem cellsU64 : Tryz.prog.cellsOf 70 = 1 := by kernel_rfl
theorem cellsPow : Tryz.prog.cellsOf 203 = 20 := by kernel_rfl
theorem tab_of_laid {W : World} (h : laidMetH Tryz.prog laidD W) : Tab W := by
  rw [MakeChecks.laidMetH_plain _ _ _ (by kernel_rfl)] at h
  have h3 := laidMet.filter (fun x => x.1 == powName) h
  exact Lib.tabIs_of_head gPow gPowType Tryz.underlying203 Tryz.underlying70 cellsU64 cellsPow (rest := []) (by exact h3)
abbrev deName : String := "math/bits.deBruijn64tab"
abbrev deList : List Int := [0, 1, 56, 2, 57, 49, 28, 3, 61, 58, 42, 50, 38, 29, 17, 4, 62, 47, 59, 36, 45, 43, 51, 22, 53, 39, 33, 30, 24, 18, 12, 5, 63, 55, 48, 27, 60, 41, 37, 16, 46, 35, 44, 21, 52, 32, 23, 11, 54, 26, 40, 15, 34, 20, 31, 10, 25, 14, 19, 9, 13, 8, 7, 6]
theorem gDe : Tryz.prog.globalNamed deName = some 9 := by kernel_rfl
theorem gDeType : (Tryz.prog.globals[9]?).map (·.type) = some 227 := by kernel_rfl
theorem cellsU8' : Tryz.prog.cellsOf 5 = 1 := by kernel_rfl
theorem cellsDe : Tryz.prog.cellsOf 227 = 64 := by kernel_rfl
theorem de_of_laid {W : World} (h : laidMetH Tryz.prog laidD W) : W.cell? ⟨9, 15, none⟩ = some (.int .u8 4) := by
  rw [MakeChecks.laidMetH_plain _ _ _ (by kernel_rfl)] at h
  have h3 := laidMet.filter (fun x => x.1 == deName) h
  have h4 : Lib.TabIs Tryz.prog W deName .u8 deList := Lib.tabIs_of_head gDe gDeType Tryz.underlying227 Tryz.underlying5 cellsU8' cellsDe (rest := []) (by exact h3)
  exact h4.cell gDe 15 (by decide)
theorem tabs_of_laid {W : World} (h : laidMetH Tryz.prog laidD W) : Tabs W := ⟨tab_of_laid h, de_of_laid h⟩
set_option maxRecDepth 100000 in
theorem sent_of_laid {W : World} {name : String} {n : Nat} {nm : String} {d : DataW Unit} (hg0 : Tryz.prog.globalNamed name = some n) (ht0 : (Tryz.prog.globals[n]?).map (·.type) = some 131)
    (e : laidD.filter (fun x => x.1 == name) = [(name, .iface nm d)]) (h : laidMet Tryz.prog laidD W) : ∃ ev, W.cell? ⟨n, 0, none⟩ = some ev ∧ (ev = .nilIface ∨ ∃ te pe, ev = .iface te pe) := by
  have h3 := laidMet.filter (fun x => x.1 == name) h
  rw [e] at h3
  obtain ⟨ps, ⟨g, t, cs, fuel, p, q, hg, ht, hv, hd, _, _⟩, _, _⟩ := h3
  obtain rfl := Option.some.inj (hg0.symm.trans hg)
  obtain rfl := Option.some.inj (ht0.symm.trans ht)
  obtain ⟨fuel', u, v, hcs, _, _⟩ := iface_of_trod Tryz.underlying131 hd
  refine ⟨.iface u v, ?_, .inr ⟨u, v, rfl⟩⟩
  rw [World.var?_cell hg hv 0]
  have h0 : cs.toList[0]? = some (.iface u v) := by rw [hcs]; rfl
  simpa using h0
theorem errs_of_laid {W : World} (h : laidMetH Tryz.prog laidD W) : Errs W := by
  rw [MakeChecks.laidMetH_plain _ _ _ (by kernel_rfl)] at h
  exact ⟨sent_of_laid (name := "strconv.ErrSyntax") (nm := "*errors.errorString") (d := .ptr (.agg [.lit (.string [105, 110, 118, 97, 108, 105, 100, 32, 115, 121, 110, 116, 97, 120])])) (by kernel_rfl) (by kernel_rfl) (by kernel_rfl) h, sent_of_laid (name := "strconv.ErrRange") (nm := "*errors.errorString") (d := .ptr (.agg [.lit (.string [118, 97, 108, 117, 101, 32, 111, 117, 116, 32, 111, 102, 32, 114, 97, 110, 103, 101])])) (by kernel_rfl) (by kernel_rfl) (by kernel_rfl) h⟩
theorem base_of_laid {W : World} (h : laidMetH Tryz.prog laidD W) : Base W := ⟨errs_of_laid h, de_of_laid h⟩
end Go.Proofs.YtpijpeocdlnhiaaGreatDoor
