/- value.Text of a value of the kind text. -/
import Derived.Test.YtccnmoicckjfbaaGreatDoorPText
namespace Go.Proofs.YtccnmoicckjfbaaGreatDoor
set_option linter.unusedVariables false
set_option linter.unusedSimpArgs false
open Go.RowKit

theorem good_text (s : ByteArray) : goodT 8 (.node 3 0 0 s []) = true := by
  have hc : canonB 0 = 0 := by decide +kernel
  simp [goodT, goodL, headB, hc]
theorem bel_step {w0 a b : World} (h : Hid (Below w0.heap.size w0 a)) (hb : Below a.heap.size a b) : Hid (Below w0.heap.size w0 b) := h.out.trans (hb.mono h.out.size)
/-- The text of a text value. -/
def quoted (s : ByteArray) : ByteArray := ⟨(34 :: hexL s.data.toList ++ [34]).toArray⟩

set_option maxRecDepth 100000 in
set_option maxHeartbeats 2000000 in
theorem vtop_text (s : ByteArray) (w : World) (hs : s.size ≤ 1000000) :
    Calls Tryz.prog 26 #[.agg #[.int .i64 3, .int .i64 0, .float .f64 0, .string s, .slice none 0 0]] w fun e w' => e = .returned (.string (quoted s)) ∧ Below w.heap.size w w' := by
  have hX : (w.alloc (.cells #[.int .i64 3, .int .i64 0, .float .f64 0, .string s, .slice none 0 0] 60)).heap[w.heap.size]? = some (.cells #[.int .i64 3, .int .i64 0, .float .f64 0, .string s, .slice none 0 0] 60 (0, 0)) := heap_alloc_new w _
  have HX := Lib.hid hX
  have HBel : Hid (Below w.heap.size w (w.alloc (.cells #[.int .i64 3, .int .i64 0, .float .f64 0, .string s, .slice none 0 0] 60))) := (Below.refl _ _).alloc (Nat.le_refl _) _
  clear hX
  have hm : ∀ q, (257 : Nat) = q → ∀ W, (method q 107 (.agg #[]) "clockwork/value.text").run Tryz.prog W = .ok (117, .agg #[]) W := by
    rintro q rfl W
    kernel_rfl
  have hm2 := hm 257 rfl
  clear hm
  go_enter Tryz.func26, Tryz.ntmps26
  go_upto_region 1 with fail
  generalize w.alloc (.cells #[.int .i64 3, .int .i64 0, .float .f64 0, .string s, .slice none 0 0] 60) = wa at *
  obtain ⟨x0, x1, x2, x3, x4⟩ := cells5 HX.out
  have HVA := Lib.hid (valid_any (.node 3 0 0 s []) ⟨3, 0, 0, s, none, 0, 0⟩ (fun _ => True) wa (by rw [TRead]; exact ⟨rfl, rfl, rfl, rfl, rfl, Nat.zero_le _, [], Reads.nil _ _, fun h => absurd rfl h, by rw [TReads]⟩) (by rw [wfT]; refine ⟨by omega, by omega, by omega, by unfold maxLen; omega, ?_⟩; rw [wfL]; trivial))
  rw [good_text] at HVA
  simp only [VV.val] at HVA
  go_wp2_with fail
  refine HVA.out.mono ?_
  rintro e w2 ⟨rfl, hb2⟩
  have HB2 := Lib.hid (HBel.out.trans (hb2.mono HBel.out.size))
  have HX2 := Lib.hid ((hb2.block _ (lt_of_heap HX.out)).trans HX.out)
  clear hb2 x0 x1 x2 x3 x4 HVA
  have HKS : Hid (∀ w', Hid (Below w2.heap.size w2 w') → (w'.cell? ⟨w.heap.size, 0, none⟩ = some (.int .i64 3) ∧ w'.cell? ⟨w.heap.size, 1, none⟩ = some (.int .i64 0) ∧ w'.cell? ⟨w.heap.size, 2, none⟩ = some (.float .f64 0) ∧ w'.cell? ⟨w.heap.size, 3, none⟩ = some (.string s) ∧ w'.cell? ⟨w.heap.size, 4, none⟩ = some (.slice none 0 0))) := fun w' hb =>
    cells5 ((hb.out.block _ (lt_of_heap HX2.out)).trans HX2.out)
  have HB0 : Hid (Below w2.heap.size w2 w2.drew) := (Below.refl _ _).drew
  have HB00 : Hid (Below w2.heap.size w2 w2) := Below.refl _ _
  have HK3 : Hid (kindV 3 = .iface 107 (.agg #[])) := rfl
  go_upto_region 3 with fail
  go_region_held3 (fun w' => w'.cell? ⟨w.heap.size, 0, none⟩ = some (.int .i64 3) ∧ w'.cell? ⟨w.heap.size, 1, none⟩ = some (.int .i64 0) ∧ w'.cell? ⟨w.heap.size, 2, none⟩ = some (.float .f64 0) ∧ w'.cell? ⟨w.heap.size, 3, none⟩ = some (.string s) ∧ w'.cell? ⟨w.heap.size, 4, none⟩ = some (.slice none 0 0)) (exact HKS.out _ (by assumption))
    (first
    | (go_at_call 37; refine (of_any 3 _).mono ?_; rintro e w3 ⟨rfl, rfl⟩; rw [HK3.out])
    | (go_at_call 117; refine (vtext_any 3 0 0 s none 0 0 _ hs).mono ?_; rintro e w4 ⟨rfl, hb4⟩
       have HB4 := bel_step (by assumption) hb4
       clear hb4)
    | fail)
  all_goals
    have HBE := Lib.hid (HB2.out.trans (HB4.out.mono HB2.out.size))
    go_wp2
    go_ret
    exact ⟨rfl, HBE.out⟩
end Go.Proofs.YtccnmoicckjfbaaGreatDoor
