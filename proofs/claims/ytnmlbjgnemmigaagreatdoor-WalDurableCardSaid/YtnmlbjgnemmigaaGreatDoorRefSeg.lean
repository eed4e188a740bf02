/- The reference's Put from a log whose segments hold just the records that were put. -/
import Derived.Test.YtnmlbjgnemmigaaGreatDoorRefPut2
import Derived.Test.YtnmlbjgnemmigaaGreatDoorRuns
namespace Go.Proofs.YtnmlbjgnemmigaaGreatDoor
set_option linter.unusedVariables false
set_option linter.unusedSimpArgs false
open Go.RowKit

theorem rot_seg {room most : Int} {s : Seg} (h : s.i0 + s.pre.length + 2 ≤ 1000) : rotG opsF (segL room most s) = (segL room most ⟨s.i0, s.pre ++ [s.cur], [], 0⟩, 0) := by
  have e1 := syn_seg (room := room) (s := s) (by omega)
  have e2 := cre_seg (room := room) (s := s) (by omega)
  unfold rotG
  rw [if_neg (by show ¬ (99999999 : Int) ≤ (s.i0 + s.pre.length + 1 : Nat); omega)]
  show (if (opsF.syn (segD room s) (nameI (s.i0 + s.pre.length + 1 : Nat))).2 ≠ 0 then _ else if (opsF.cre (opsF.syn (segD room s) (nameI (s.i0 + s.pre.length + 1 : Nat))).1 (nameI ((s.i0 + s.pre.length + 1 : Nat) + 1 : Int))).2 ≠ 0 then _ else (({ n := _, size := 0, waiting := 0, most := _, D := (opsF.cre (opsF.syn (segD room s) (nameI (s.i0 + s.pre.length + 1 : Nat))).1 (nameI ((s.i0 + s.pre.length + 1 : Nat) + 1 : Int))).1 } : LS), (0 : Int))) = _
  rw [e1, if_neg (by simp)]
  simp only [e2]
  rw [if_neg (by simp)]
  simp [segL, framesB]
  omega
theorem files_len (s : Seg) : s.files.length = s.pre.length + 1 := by
  unfold Seg.files
  rw [List.length_append, preF_length]; rfl

theorem rput_seg {room most : Int} {s : Seg} {q b : Nat} (hI : RunI most s q b) (hq : q ≤ 300) (hb : b ≤ 10000) (v : Value) (R : List RF) (T : Nat → Prop) (ra : Option Addr) (rc : Nat) (r : List UInt8) (w : World) (h : RLi w v R T) (hf : R.map RF.f = s.files)
    (hr : Reads w (.slice ra r.length rc) r.length 1 (byts r)) (hl : r.length ≤ 2000) (hroom : ((framesB s.all).length : Int) + (r.length + 8) ≤ room) :
    Calls Tryz.prog 12 #[rlog v (segL room most s), .slice ra r.length rc] w (MPst w T (segL room most (stepS most s r).1, (stepS most s r).2)) := by
  have hi0 := hI.i0
  have hpre := hI.pre
  have hlen := hI.len
  have hwt := hI.good.wt
  have hn : s.i0 + s.pre.length + 2 ≤ 1000 := by omega
  have hRL : R.length = s.pre.length + 1 := by rw [← files_len, ← hf, List.length_map]
  have hRS : sumR R = (framesB s.all).length := by rw [sumR_f, hf, seg_sum]
  have hcl : (framesB s.cur).length ≤ (framesB s.all).length := by unfold Seg.all; rw [framesB_append, List.length_append]; omega
  have hcw : s.cur.length ≤ (framesB s.cur).length := by have := framesB_len8 s.cur; omega
  have hz : (0 : Int) ≤ (segL room most s).size ∧ (segL room most s).size ≤ 1000000000 := by show (0 : Int) ≤ ((framesB s.cur).length : Int) ∧ ((framesB s.cur).length : Int) ≤ _; omega
  have hw : (0 : Int) ≤ (segL room most s).waiting ∧ (segL room most s).waiting ≤ 1000000000 := by show (0 : Int) ≤ (s.wt : Int) ∧ (s.wt : Int) ≤ _; omega
  have hp : (0 : Int) ≤ (segL room most s).D.plan ∧ (segL room most s).D.plan ≤ 9223372036854775807 := by show (0 : Int) ≤ 0 ∧ (0 : Int) ≤ _; omega
  rw [← put_seg hI.good hn r hl hroom]
  by_cases h1 : r = []
  · exact rput_stay (segL room most s) v R T ra rc r w h hf (by omega) hp (by omega) hr (by omega) hz hw (.inl h1)
  by_cases h2 : most < (r.length : Int) + 8
  · exact rput_stay (segL room most s) v R T ra rc r w h hf (by omega) hp (by omega) hr (by omega) hz hw (.inr (.inl h2))
  by_cases h3 : 0 < (segL room most s).size ∧ most < (segL room most s).size + (r.length + 8)
  · have e1 := syn_seg (room := room) (s := s) (by omega)
    have e1' : doF 3 (segL room most s).D (nameI (segL room most s).n) ⟨#[]⟩ [] = (segD room { s with wt := 0 }, 0) := e1
    have e2 := rot_seg (room := room) (most := most) hn
    refine rput_next (segL room most s) v R T ra rc r w h hf (by omega) hp (by omega) hr (by omega) hz (by show (0 : Int) ≤ ((s.i0 + s.pre.length + 1 : Nat) : Int); omega) ?_ ?_ h1 (by omega) h2 h3.1 h3.2
    · rw [e1']
      refine ⟨?_, ?_, by show (0 : Int) ≤ 0; omega, by show (0 : Int) ≤ _; omega⟩
      · show (Seg.files { s with wt := 0 }).length ≤ 5000
        rw [files_len]; show s.pre.length + 1 ≤ 5000; omega
      · show sumD (Seg.files { s with wt := 0 }) ≤ 1000000000
        rw [seg_sum]; show (framesB s.all).length ≤ _; omega
    · rw [e2]
      refine ⟨⟨?_, ⟨by show (0 : Int) ≤ 0; omega, by show (0 : Int) ≤ _; omega⟩, ?_⟩, ⟨?_, ?_⟩, ⟨?_, ?_⟩⟩
      · show (Seg.files ⟨s.i0, s.pre ++ [s.cur], [], 0⟩).length ≤ 5000
        rw [files_len]; simp; omega
      · show sumD (Seg.files ⟨s.i0, s.pre ++ [s.cur], [], 0⟩) ≤ 100000000
        rw [seg_sum]
        have : Seg.all ⟨s.i0, s.pre ++ [s.cur], [], 0⟩ = s.all := by simp [Seg.all]
        rw [this]; omega
      · show (0 : Int) ≤ ((framesB []).length : Int); simp [framesB]
      · show ((framesB []).length : Int) ≤ 1000000000; simp [framesB]
      · show (0 : Int) ≤ ((0 : Nat) : Int); omega
      · show ((0 : Nat) : Int) ≤ 1000000000; omega
  · exact rput_stay (segL room most s) v R T ra rc r w h hf (by omega) hp (by omega) hr (by omega) hz hw (.inr (.inr h3))
end Go.Proofs.YtnmlbjgnemmigaaGreatDoor
