/- Texts for programTexts_holds, joined: PRight2. -/
import Derived.Test.YtpijpeocdlnhiaaGreatDoorTp03
import Derived.Test.YtpijpeocdlnhiaaGreatDoorTp05
set_option linter.unusedVariables false
set_option linter.unusedSimpArgs false
namespace Go.Proofs.YtpijpeocdlnhiaaGreatDoor
open Go.RowKit
set_option maxRecDepth 100000 in
set_option maxHeartbeats 2000000 in
theorem between_any (w : World) (b : Nat) (n hi : Int) (s : ByteArray) (k : Int) (h : w.heap[b]? = some (.cells #[.int .i64 k, .int .i64 n, .string s] 82 (0, 0))) (hh : -1 ≤ hi ∧ hi ≤ 1000000) :
    Calls Tryz.prog 88 #[.int .i64 hi, .pointer (some ⟨b, 0, none⟩)] w fun e w' => e = .returned (.bool (decide (0 ≤ n) && decide (n ≤ hi))) ∧ Below w.heap.size w w' := by
  have x1 := cellAt h 1 rfl
  clear h
  by_cases h1 : n ≥ 0
  · have H1 : Hid (decide (0 ≤ n) = true) := decide_eq_true h1
    go_enter Tryz.func88, Tryz.ntmps88
    go_wp2
    go_ret
    exact ⟨by rw [H1.out]; rfl, Below.refl _ _⟩
  · have H1 : Hid (decide (0 ≤ n) = false) := decide_eq_false h1
    go_enter Tryz.func88, Tryz.ntmps88
    go_wp2
    go_ret
    exact ⟨by rw [H1.out]; rfl, Below.refl _ _⟩
set_option maxRecDepth 100000 in
set_option maxHeartbeats 2000000 in
theorem right_panic (k : Int) (hk : k = 10 ∨ k = 12) (n : Int) (s : ByteArray) (rs ss : Int) (hr : 0 ≤ rs ∧ rs ≤ 1000000 ∧ 0 ≤ ss ∧ ss ≤ 1000000) (w : World) :
    Calls Tryz.prog 53 #[.agg #[.int .i64 k, .int .i64 n, .string s], .int .i64 rs, .int .i64 ss] w fun e w' => e = .returned (.bool (decide (n = 0) && decide (s.size ≤ 1000))) ∧ Below w.heap.size w w' := by
  have h1 : decide (k ∈ numL) = false := by rcases hk with rfl | rfl <;> decide
  have h2 : decide (k ∈ namL) = true := by rcases hk with rfl | rfl <;> decide
  have H1 := Lib.hid h1
  have H2 := Lib.hid h2
  clear h1 h2
  have hb2 : Below w.heap.size w ((w.alloc (.cells #[.int .i64 k, .int .i64 n, .string s] 82)).alloc (.cells #[.int .i64 k, .int .i64 0, .string ⟨#[]⟩] 82)) := ((Below.refl _ _).alloc (Nat.le_refl _) _).alloc (by simp) _
  have HX : Hid (((w.alloc (.cells #[.int .i64 k, .int .i64 n, .string s] 82)).alloc (.cells #[.int .i64 k, .int .i64 0, .string ⟨#[]⟩] 82)).heap[w.heap.size]? = some (.cells #[.int .i64 k, .int .i64 n, .string s] 82 (0, 0))) := (alloc2_low w _ _).trans (heap_alloc_new w _)
  have HY : Hid (((w.alloc (.cells #[.int .i64 k, .int .i64 n, .string s] 82)).alloc (.cells #[.int .i64 k, .int .i64 0, .string ⟨#[]⟩] 82)).heap[w.heap.size + 1]? = some (.cells #[.int .i64 k, .int .i64 0, .string ⟨#[]⟩] 82 (0, 0))) := alloc2_high w _ _ (heap_alloc_new _ _)
  have HB := Lib.hid hb2
  have hmf : ∀ fn first cap w, (Instr.makeFunc fn first cap).run Tryz.prog w = .ok (.func fn first cap) w := fun _ _ _ _ => rfl
  clear hb2
  go_enter Tryz.func53, Tryz.ntmps53
  go_upto_region 2 with fail
  generalize (w.alloc (.cells #[.int .i64 k, .int .i64 n, .string s] 82)).alloc (.cells #[.int .i64 k, .int .i64 0, .string ⟨#[]⟩] 82) = wd at *
  have x0 := cellAt HX.out 0 rfl
  go_wp2_with fail
  refine (numbered_any k _).mono ?_
  rintro e w2 ⟨rfl, hb2⟩
  rw [H1.out]
  have HX2 := Lib.hid ((hb2.block _ (lt_of_heap HX.out)).trans HX.out)
  have HY2 := Lib.hid ((hb2.block _ (lt_of_heap HY.out)).trans HY.out)
  have HB2 := Lib.hid (HB.out.trans (hb2.mono HB.out.size))
  clear hb2 x0
  have x0 := cellAt HX2.out 0 rfl
  go_wp2_with fail
  refine (named_any k _).mono ?_
  rintro e w5 ⟨rfl, hb5⟩
  rw [H2.out]
  have HX5 := Lib.hid ((hb5.block _ (lt_of_heap HX2.out)).trans HX2.out)
  have HY5 := Lib.hid ((hb5.block _ (lt_of_heap HY2.out)).trans HY2.out)
  have HB5 := Lib.hid (HB2.out.trans (hb5.mono HB2.out.size))
  clear hb5 x0
  have x2 := cellAt HX5.out 2 rfl
  have f2 := freeAt HY5.out 2
  have y2 := cellAt HY5.out 2 rfl
  go_upto_region 6 with fail
  have HX6 : Hid ((w5.setCell ⟨w.heap.size + 1, 2, none⟩ (.string s)).heap[w.heap.size]? = _) := (Below.heap_setCell _ ⟨w.heap.size + 1, 2, none⟩ _ _ (by show w.heap.size ≠ w.heap.size + 1; omega)).trans HX5.out
  have HY6 : Hid ((w5.setCell ⟨w.heap.size + 1, 2, none⟩ (.string s)).heap[w.heap.size + 1]? = some (.cells #[.int .i64 k, .int .i64 0, .string s] 82 (0, 0))) := heap_store HY5.out 2 _
  have HB6 := Lib.hid (HB5.out.setCell (p := ⟨w.heap.size + 1, 2, none⟩) (by show w.heap.size ≤ w.heap.size + 1; omega) (.string s))
  generalize w5.setCell ⟨w.heap.size + 1, 2, none⟩ (.string s) = w6 at *
  clear x2 f2 y2 HX5 HY5
  have x0 := cellAt HX6.out 0 rfl
  have x1 := cellAt HX6.out 1 rfl
  have x2 := cellAt HX6.out 2 rfl
  have y0 := cellAt HY6.out 0 rfl
  have y1 := cellAt HY6.out 1 rfl
  have y2 := cellAt HY6.out 2 rfl
  have g0 : ¬ k ≤ 0 := by omega
  have g13 : ¬ 13 ≤ k := by omega
  have e3 : (k == 3) = false := by rw [beq_eq_false_iff_ne]; omega
  have e5 : (k == 5) = false := by rw [beq_eq_false_iff_ne]; omega
  have e4 : (k == 4) = false := by rw [beq_eq_false_iff_ne]; omega
  have e6 : (k == 6) = false := by rw [beq_eq_false_iff_ne]; omega
  have e8 : (k == 8) = false := by rw [beq_eq_false_iff_ne]; omega
  have e9 : (k == 9) = false := by rw [beq_eq_false_iff_ne]; omega
  clear hk hr
  by_cases hn : n = 0
  · subst hn
    by_cases hz : 1000 < (s.size : Int)
    · have HZ : Hid (decide (s.size ≤ 1000) = false) := decide_eq_false (by omega)
      go_wp2
      go_ret
      exact ⟨by rw [HZ.out]; rfl, HB6.out⟩
    · have HZ : Hid (decide (s.size ≤ 1000) = true) := decide_eq_true (by omega)
      go_wp2
      go_ret
      exact ⟨by rw [HZ.out]; rfl, HB6.out⟩
  · have HN : Hid (decide (n = 0) = false) := decide_eq_false hn
    have hn2 : (n == 0) = false := by rw [beq_eq_false_iff_ne]; exact hn
    clear hn
    go_wp2
    go_ret
    exact ⟨by rw [HN.out]; rfl, HB6.out⟩
set_option maxRecDepth 100000 in
set_option maxHeartbeats 2000000 in
theorem right_set (k : Int) (hk : k = 1 ∨ k = 2) (n : Int) (s : ByteArray) (rs ss : Int) (hr : 0 ≤ rs ∧ rs ≤ 1000000 ∧ 0 ≤ ss ∧ ss ≤ 1000000) (w : World) :
    Calls Tryz.prog 53 #[.agg #[.int .i64 k, .int .i64 n, .string s], .int .i64 rs, .int .i64 ss] w fun e w' => e = .returned (.bool (decide (s = ⟨#[]⟩))) ∧ Below w.heap.size w w' := by
  have h1 : decide (k ∈ numL) = true := by rcases hk with rfl | rfl <;> decide
  have h2 : decide (k ∈ namL) = false := by rcases hk with rfl | rfl <;> decide
  have H1 := Lib.hid h1
  have H2 := Lib.hid h2
  clear h1 h2
  have hb2 : Below w.heap.size w ((w.alloc (.cells #[.int .i64 k, .int .i64 n, .string s] 82)).alloc (.cells #[.int .i64 k, .int .i64 0, .string ⟨#[]⟩] 82)) := ((Below.refl _ _).alloc (Nat.le_refl _) _).alloc (by simp) _
  have HX : Hid (((w.alloc (.cells #[.int .i64 k, .int .i64 n, .string s] 82)).alloc (.cells #[.int .i64 k, .int .i64 0, .string ⟨#[]⟩] 82)).heap[w.heap.size]? = some (.cells #[.int .i64 k, .int .i64 n, .string s] 82 (0, 0))) := (alloc2_low w _ _).trans (heap_alloc_new w _)
  have HY : Hid (((w.alloc (.cells #[.int .i64 k, .int .i64 n, .string s] 82)).alloc (.cells #[.int .i64 k, .int .i64 0, .string ⟨#[]⟩] 82)).heap[w.heap.size + 1]? = some (.cells #[.int .i64 k, .int .i64 0, .string ⟨#[]⟩] 82 (0, 0))) := alloc2_high w _ _ (heap_alloc_new _ _)
  have HB := Lib.hid hb2
  have hmf : ∀ fn first cap w, (Instr.makeFunc fn first cap).run Tryz.prog w = .ok (.func fn first cap) w := fun _ _ _ _ => rfl
  clear hb2
  go_enter Tryz.func53, Tryz.ntmps53
  go_upto_region 2 with fail
  generalize (w.alloc (.cells #[.int .i64 k, .int .i64 n, .string s] 82)).alloc (.cells #[.int .i64 k, .int .i64 0, .string ⟨#[]⟩] 82) = wd at *
  have x0 := cellAt HX.out 0 rfl
  go_wp2_with fail
  refine (numbered_any k _).mono ?_
  rintro e w2 ⟨rfl, hb2⟩
  rw [H1.out]
  have HX2 := Lib.hid ((hb2.block _ (lt_of_heap HX.out)).trans HX.out)
  have HY2 := Lib.hid ((hb2.block _ (lt_of_heap HY.out)).trans HY.out)
  have HB2 := Lib.hid (HB.out.trans (hb2.mono HB.out.size))
  clear hb2 x0
  have x0 := cellAt HX2.out 0 rfl
  have x1 := cellAt HX2.out 1 rfl
  have f1 := freeAt HY2.out 1
  have y1 := cellAt HY2.out 1 rfl
  go_upto_region 4 with fail
  have HX4 : Hid ((w2.setCell ⟨w.heap.size + 1, 1, none⟩ (.int .i64 n)).heap[w.heap.size]? = _) := (Below.heap_setCell _ ⟨w.heap.size + 1, 1, none⟩ _ _ (by show w.heap.size ≠ w.heap.size + 1; omega)).trans HX2.out
  have HY4 : Hid ((w2.setCell ⟨w.heap.size + 1, 1, none⟩ (.int .i64 n)).heap[w.heap.size + 1]? = some (.cells #[.int .i64 k, .int .i64 n, .string ⟨#[]⟩] 82 (0, 0))) := heap_store HY2.out 1 _
  have HB4 := Lib.hid (HB2.out.setCell (p := ⟨w.heap.size + 1, 1, none⟩) (by show w.heap.size ≤ w.heap.size + 1; omega) (.int .i64 n))
  generalize w2.setCell ⟨w.heap.size + 1, 1, none⟩ (.int .i64 n) = w4 at *
  clear x0 x1 f1 y1 HX2 HY2
  have x0 := cellAt HX4.out 0 rfl
  go_wp2_with fail
  refine (named_any k _).mono ?_
  rintro e w5 ⟨rfl, hb5⟩
  rw [H2.out]
  have HX5 := Lib.hid ((hb5.block _ (lt_of_heap HX4.out)).trans HX4.out)
  have HY5 := Lib.hid ((hb5.block _ (lt_of_heap HY4.out)).trans HY4.out)
  have HB5 := Lib.hid (HB4.out.trans (hb5.mono HB4.out.size))
  clear hb5 x0
  have x0 := cellAt HX5.out 0 rfl
  have x1 := cellAt HX5.out 1 rfl
  have x2 := cellAt HX5.out 2 rfl
  have y0 := cellAt HY5.out 0 rfl
  have y1 := cellAt HY5.out 1 rfl
  have y2 := cellAt HY5.out 2 rfl
  have g0 : ¬ k ≤ 0 := by omega
  have g13 : ¬ 13 ≤ k := by omega
  have e3 : (k == 3) = false := by rw [beq_eq_false_iff_ne]; omega
  have e5 : (k == 5) = false := by rw [beq_eq_false_iff_ne]; omega
  have e4 : (k == 4) = false := by rw [beq_eq_false_iff_ne]; omega
  have e6 : (k == 6) = false := by rw [beq_eq_false_iff_ne]; omega
  have e8 : (k == 8) = false := by rw [beq_eq_false_iff_ne]; omega
  have e9 : (k == 9) = false := by rw [beq_eq_false_iff_ne]; omega
  clear hk hr
  by_cases hs : s = ⟨#[]⟩
  · subst hs
    go_wp2
    go_ret
    exact ⟨rfl, HB5.out⟩
  · have HS : Hid (decide (s = ⟨#[]⟩) = false) := decide_eq_false hs
    have hs1 := str_empty hs
    clear hs
    go_wp2
    go_ret
    exact ⟨by rw [HS.out]; rfl, HB5.out⟩
set_option maxRecDepth 100000 in
set_option maxHeartbeats 2000000 in
theorem right_sleep (k : Int) (hk : k = 4 ∨ k = 4) (n : Int) (s : ByteArray) (rs ss : Int) (hr : 0 ≤ rs ∧ rs ≤ 1000000 ∧ 0 ≤ ss ∧ ss ≤ 1000000) (w : World) :
    Calls Tryz.prog 53 #[.agg #[.int .i64 k, .int .i64 n, .string s], .int .i64 rs, .int .i64 ss] w fun e w' => e = .returned (.bool (decide (s = ⟨#[]⟩) && decide (0 ≤ n))) ∧ Below w.heap.size w w' := by
  have h1 : decide (k ∈ numL) = true := by rcases hk with rfl | rfl <;> decide
  have h2 : decide (k ∈ namL) = false := by rcases hk with rfl | rfl <;> decide
  have H1 := Lib.hid h1
  have H2 := Lib.hid h2
  clear h1 h2
  have hb2 : Below w.heap.size w ((w.alloc (.cells #[.int .i64 k, .int .i64 n, .string s] 82)).alloc (.cells #[.int .i64 k, .int .i64 0, .string ⟨#[]⟩] 82)) := ((Below.refl _ _).alloc (Nat.le_refl _) _).alloc (by simp) _
  have HX : Hid (((w.alloc (.cells #[.int .i64 k, .int .i64 n, .string s] 82)).alloc (.cells #[.int .i64 k, .int .i64 0, .string ⟨#[]⟩] 82)).heap[w.heap.size]? = some (.cells #[.int .i64 k, .int .i64 n, .string s] 82 (0, 0))) := (alloc2_low w _ _).trans (heap_alloc_new w _)
  have HY : Hid (((w.alloc (.cells #[.int .i64 k, .int .i64 n, .string s] 82)).alloc (.cells #[.int .i64 k, .int .i64 0, .string ⟨#[]⟩] 82)).heap[w.heap.size + 1]? = some (.cells #[.int .i64 k, .int .i64 0, .string ⟨#[]⟩] 82 (0, 0))) := alloc2_high w _ _ (heap_alloc_new _ _)
  have HB := Lib.hid hb2
  have hmf : ∀ fn first cap w, (Instr.makeFunc fn first cap).run Tryz.prog w = .ok (.func fn first cap) w := fun _ _ _ _ => rfl
  clear hb2
  go_enter Tryz.func53, Tryz.ntmps53
  go_upto_region 2 with fail
  generalize (w.alloc (.cells #[.int .i64 k, .int .i64 n, .string s] 82)).alloc (.cells #[.int .i64 k, .int .i64 0, .string ⟨#[]⟩] 82) = wd at *
  have x0 := cellAt HX.out 0 rfl
  go_wp2_with fail
  refine (numbered_any k _).mono ?_
  rintro e w2 ⟨rfl, hb2⟩
  rw [H1.out]
  have HX2 := Lib.hid ((hb2.block _ (lt_of_heap HX.out)).trans HX.out)
  have HY2 := Lib.hid ((hb2.block _ (lt_of_heap HY.out)).trans HY.out)
  have HB2 := Lib.hid (HB.out.trans (hb2.mono HB.out.size))
  clear hb2 x0
  have x0 := cellAt HX2.out 0 rfl
  have x1 := cellAt HX2.out 1 rfl
  have f1 := freeAt HY2.out 1
  have y1 := cellAt HY2.out 1 rfl
  go_upto_region 4 with fail
  have HX4 : Hid ((w2.setCell ⟨w.heap.size + 1, 1, none⟩ (.int .i64 n)).heap[w.heap.size]? = _) := (Below.heap_setCell _ ⟨w.heap.size + 1, 1, none⟩ _ _ (by show w.heap.size ≠ w.heap.size + 1; omega)).trans HX2.out
  have HY4 : Hid ((w2.setCell ⟨w.heap.size + 1, 1, none⟩ (.int .i64 n)).heap[w.heap.size + 1]? = some (.cells #[.int .i64 k, .int .i64 n, .string ⟨#[]⟩] 82 (0, 0))) := heap_store HY2.out 1 _
  have HB4 := Lib.hid (HB2.out.setCell (p := ⟨w.heap.size + 1, 1, none⟩) (by show w.heap.size ≤ w.heap.size + 1; omega) (.int .i64 n))
  generalize w2.setCell ⟨w.heap.size + 1, 1, none⟩ (.int .i64 n) = w4 at *
  clear x0 x1 f1 y1 HX2 HY2
  have x0 := cellAt HX4.out 0 rfl
  go_wp2_with fail
  refine (named_any k _).mono ?_
  rintro e w5 ⟨rfl, hb5⟩
  rw [H2.out]
  have HX5 := Lib.hid ((hb5.block _ (lt_of_heap HX4.out)).trans HX4.out)
  have HY5 := Lib.hid ((hb5.block _ (lt_of_heap HY4.out)).trans HY4.out)
  have HB5 := Lib.hid (HB4.out.trans (hb5.mono HB4.out.size))
  clear hb5 x0
  have x0 := cellAt HX5.out 0 rfl
  have x1 := cellAt HX5.out 1 rfl
  have x2 := cellAt HX5.out 2 rfl
  have y0 := cellAt HY5.out 0 rfl
  have y1 := cellAt HY5.out 1 rfl
  have y2 := cellAt HY5.out 2 rfl
  have g0 : ¬ k ≤ 0 := by omega
  have g13 : ¬ 13 ≤ k := by omega
  obtain rfl : k = 4 := by omega
  clear hk
  clear hr
  by_cases hs : s = ⟨#[]⟩
  · subst hs
    by_cases hn : n ≥ 0
    · have HN : Hid (decide (0 ≤ n) = true) := decide_eq_true hn
      go_wp2
      go_ret
      exact ⟨by first | rfl | (rw [HN.out]; rfl), HB5.out⟩
    · have HN : Hid (decide (0 ≤ n) = false) := decide_eq_false hn
      go_wp2
      go_ret
      exact ⟨by rw [HN.out]; rfl, HB5.out⟩
  · have HS : Hid (decide (s = ⟨#[]⟩) = false) := decide_eq_false hs
    have hs1 := str_empty hs
    clear hs
    go_wp2
    go_ret
    exact ⟨by rw [HS.out]; rfl, HB5.out⟩
set_option maxRecDepth 100000 in
set_option maxHeartbeats 2000000 in
theorem right_spawn (k : Int) (hk : k = 6 ∨ k = 6) (n : Int) (s : ByteArray) (rs ss : Int) (hr : 0 ≤ rs ∧ rs ≤ 1000000 ∧ 0 ≤ ss ∧ ss ≤ 1000000) (w : World) :
    Calls Tryz.prog 53 #[.agg #[.int .i64 k, .int .i64 n, .string s], .int .i64 rs, .int .i64 ss] w fun e w' => e = .returned (.bool (decide (s = ⟨#[]⟩) && (decide (0 ≤ n) && decide (n ≤ rs - 1)))) ∧ Below w.heap.size w w' := by
  have h1 : decide (k ∈ numL) = true := by rcases hk with rfl | rfl <;> decide
  have h2 : decide (k ∈ namL) = false := by rcases hk with rfl | rfl <;> decide
  have H1 := Lib.hid h1
  have H2 := Lib.hid h2
  clear h1 h2
  have hb2 : Below w.heap.size w ((w.alloc (.cells #[.int .i64 k, .int .i64 n, .string s] 82)).alloc (.cells #[.int .i64 k, .int .i64 0, .string ⟨#[]⟩] 82)) := ((Below.refl _ _).alloc (Nat.le_refl _) _).alloc (by simp) _
  have HX : Hid (((w.alloc (.cells #[.int .i64 k, .int .i64 n, .string s] 82)).alloc (.cells #[.int .i64 k, .int .i64 0, .string ⟨#[]⟩] 82)).heap[w.heap.size]? = some (.cells #[.int .i64 k, .int .i64 n, .string s] 82 (0, 0))) := (alloc2_low w _ _).trans (heap_alloc_new w _)
  have HY : Hid (((w.alloc (.cells #[.int .i64 k, .int .i64 n, .string s] 82)).alloc (.cells #[.int .i64 k, .int .i64 0, .string ⟨#[]⟩] 82)).heap[w.heap.size + 1]? = some (.cells #[.int .i64 k, .int .i64 0, .string ⟨#[]⟩] 82 (0, 0))) := alloc2_high w _ _ (heap_alloc_new _ _)
  have HB := Lib.hid hb2
  have hmf : ∀ fn first cap w, (Instr.makeFunc fn first cap).run Tryz.prog w = .ok (.func fn first cap) w := fun _ _ _ _ => rfl
  clear hb2
  go_enter Tryz.func53, Tryz.ntmps53
  go_upto_region 2 with fail
  generalize (w.alloc (.cells #[.int .i64 k, .int .i64 n, .string s] 82)).alloc (.cells #[.int .i64 k, .int .i64 0, .string ⟨#[]⟩] 82) = wd at *
  have x0 := cellAt HX.out 0 rfl
  go_wp2_with fail
  refine (numbered_any k _).mono ?_
  rintro e w2 ⟨rfl, hb2⟩
  rw [H1.out]
  have HX2 := Lib.hid ((hb2.block _ (lt_of_heap HX.out)).trans HX.out)
  have HY2 := Lib.hid ((hb2.block _ (lt_of_heap HY.out)).trans HY.out)
  have HB2 := Lib.hid (HB.out.trans (hb2.mono HB.out.size))
  clear hb2 x0
  have x0 := cellAt HX2.out 0 rfl
  have x1 := cellAt HX2.out 1 rfl
  have f1 := freeAt HY2.out 1
  have y1 := cellAt HY2.out 1 rfl
  go_upto_region 4 with fail
  have HX4 : Hid ((w2.setCell ⟨w.heap.size + 1, 1, none⟩ (.int .i64 n)).heap[w.heap.size]? = _) := (Below.heap_setCell _ ⟨w.heap.size + 1, 1, none⟩ _ _ (by show w.heap.size ≠ w.heap.size + 1; omega)).trans HX2.out
  have HY4 : Hid ((w2.setCell ⟨w.heap.size + 1, 1, none⟩ (.int .i64 n)).heap[w.heap.size + 1]? = some (.cells #[.int .i64 k, .int .i64 n, .string ⟨#[]⟩] 82 (0, 0))) := heap_store HY2.out 1 _
  have HB4 := Lib.hid (HB2.out.setCell (p := ⟨w.heap.size + 1, 1, none⟩) (by show w.heap.size ≤ w.heap.size + 1; omega) (.int .i64 n))
  generalize w2.setCell ⟨w.heap.size + 1, 1, none⟩ (.int .i64 n) = w4 at *
  clear x0 x1 f1 y1 HX2 HY2
  have x0 := cellAt HX4.out 0 rfl
  go_wp2_with fail
  refine (named_any k _).mono ?_
  rintro e w5 ⟨rfl, hb5⟩
  rw [H2.out]
  have HX5 := Lib.hid ((hb5.block _ (lt_of_heap HX4.out)).trans HX4.out)
  have HY5 := Lib.hid ((hb5.block _ (lt_of_heap HY4.out)).trans HY4.out)
  have HB5 := Lib.hid (HB4.out.trans (hb5.mono HB4.out.size))
  clear hb5 x0
  have x0 := cellAt HX5.out 0 rfl
  have x1 := cellAt HX5.out 1 rfl
  have x2 := cellAt HX5.out 2 rfl
  have y0 := cellAt HY5.out 0 rfl
  have y1 := cellAt HY5.out 1 rfl
  have y2 := cellAt HY5.out 2 rfl
  have g0 : ¬ k ≤ 0 := by omega
  have g13 : ¬ 13 ≤ k := by omega
  obtain rfl : k = 6 := by omega
  clear hk
  all_goals
    by_cases hs : s = ⟨#[]⟩
    · subst hs
      have hiw : -1 ≤ (rs - 1) ∧ (rs - 1) ≤ 1000000 := by omega
      go_wp2_with fail
      refine (between_any _ w.heap.size n (rs - 1) ⟨#[]⟩ _ HX5.out hiw).mono ?_
      rintro e w9 ⟨rfl, hb9⟩
      have HB9 := Lib.hid (HB5.out.trans (hb9.mono HB5.out.size))
      clear hb9 x0 x1 x2 y0 y1 y2
      go_wp2
      go_ret
      exact ⟨rfl, HB9.out⟩
    · have HS : Hid (decide (s = ⟨#[]⟩) = false) := decide_eq_false hs
      have hs1 := str_empty hs
      clear hs
      go_wp2
      go_ret
      exact ⟨by rw [HS.out]; rfl, HB5.out⟩
set_option maxRecDepth 100000 in
set_option maxHeartbeats 2000000 in
theorem right_jump (k : Int) (hk : k = 8 ∨ k = 9) (n : Int) (s : ByteArray) (rs ss : Int) (hr : 0 ≤ rs ∧ rs ≤ 1000000 ∧ 0 ≤ ss ∧ ss ≤ 1000000) (w : World) :
    Calls Tryz.prog 53 #[.agg #[.int .i64 k, .int .i64 n, .string s], .int .i64 rs, .int .i64 ss] w fun e w' => e = .returned (.bool (decide (s = ⟨#[]⟩) && (decide (0 ≤ n) && decide (n ≤ ss)))) ∧ Below w.heap.size w w' := by
  have h1 : decide (k ∈ numL) = true := by rcases hk with rfl | rfl <;> decide
  have h2 : decide (k ∈ namL) = false := by rcases hk with rfl | rfl <;> decide
  have H1 := Lib.hid h1
  have H2 := Lib.hid h2
  clear h1 h2
  have hb2 : Below w.heap.size w ((w.alloc (.cells #[.int .i64 k, .int .i64 n, .string s] 82)).alloc (.cells #[.int .i64 k, .int .i64 0, .string ⟨#[]⟩] 82)) := ((Below.refl _ _).alloc (Nat.le_refl _) _).alloc (by simp) _
  have HX : Hid (((w.alloc (.cells #[.int .i64 k, .int .i64 n, .string s] 82)).alloc (.cells #[.int .i64 k, .int .i64 0, .string ⟨#[]⟩] 82)).heap[w.heap.size]? = some (.cells #[.int .i64 k, .int .i64 n, .string s] 82 (0, 0))) := (alloc2_low w _ _).trans (heap_alloc_new w _)
  have HY : Hid (((w.alloc (.cells #[.int .i64 k, .int .i64 n, .string s] 82)).alloc (.cells #[.int .i64 k, .int .i64 0, .string ⟨#[]⟩] 82)).heap[w.heap.size + 1]? = some (.cells #[.int .i64 k, .int .i64 0, .string ⟨#[]⟩] 82 (0, 0))) := alloc2_high w _ _ (heap_alloc_new _ _)
  have HB := Lib.hid hb2
  have hmf : ∀ fn first cap w, (Instr.makeFunc fn first cap).run Tryz.prog w = .ok (.func fn first cap) w := fun _ _ _ _ => rfl
  clear hb2
  go_enter Tryz.func53, Tryz.ntmps53
  go_upto_region 2 with fail
  generalize (w.alloc (.cells #[.int .i64 k, .int .i64 n, .string s] 82)).alloc (.cells #[.int .i64 k, .int .i64 0, .string ⟨#[]⟩] 82) = wd at *
  have x0 := cellAt HX.out 0 rfl
  go_wp2_with fail
  refine (numbered_any k _).mono ?_
  rintro e w2 ⟨rfl, hb2⟩
  rw [H1.out]
  have HX2 := Lib.hid ((hb2.block _ (lt_of_heap HX.out)).trans HX.out)
  have HY2 := Lib.hid ((hb2.block _ (lt_of_heap HY.out)).trans HY.out)
  have HB2 := Lib.hid (HB.out.trans (hb2.mono HB.out.size))
  clear hb2 x0
  have x0 := cellAt HX2.out 0 rfl
  have x1 := cellAt HX2.out 1 rfl
  have f1 := freeAt HY2.out 1
  have y1 := cellAt HY2.out 1 rfl
  go_upto_region 4 with fail
  have HX4 : Hid ((w2.setCell ⟨w.heap.size + 1, 1, none⟩ (.int .i64 n)).heap[w.heap.size]? = _) := (Below.heap_setCell _ ⟨w.heap.size + 1, 1, none⟩ _ _ (by show w.heap.size ≠ w.heap.size + 1; omega)).trans HX2.out
  have HY4 : Hid ((w2.setCell ⟨w.heap.size + 1, 1, none⟩ (.int .i64 n)).heap[w.heap.size + 1]? = some (.cells #[.int .i64 k, .int .i64 n, .string ⟨#[]⟩] 82 (0, 0))) := heap_store HY2.out 1 _
  have HB4 := Lib.hid (HB2.out.setCell (p := ⟨w.heap.size + 1, 1, none⟩) (by show w.heap.size ≤ w.heap.size + 1; omega) (.int .i64 n))
  generalize w2.setCell ⟨w.heap.size + 1, 1, none⟩ (.int .i64 n) = w4 at *
  clear x0 x1 f1 y1 HX2 HY2
  have x0 := cellAt HX4.out 0 rfl
  go_wp2_with fail
  refine (named_any k _).mono ?_
  rintro e w5 ⟨rfl, hb5⟩
  rw [H2.out]
  have HX5 := Lib.hid ((hb5.block _ (lt_of_heap HX4.out)).trans HX4.out)
  have HY5 := Lib.hid ((hb5.block _ (lt_of_heap HY4.out)).trans HY4.out)
  have HB5 := Lib.hid (HB4.out.trans (hb5.mono HB4.out.size))
  clear hb5 x0
  have x0 := cellAt HX5.out 0 rfl
  have x1 := cellAt HX5.out 1 rfl
  have x2 := cellAt HX5.out 2 rfl
  have y0 := cellAt HY5.out 0 rfl
  have y1 := cellAt HY5.out 1 rfl
  have y2 := cellAt HY5.out 2 rfl
  have g0 : ¬ k ≤ 0 := by omega
  have g13 : ¬ 13 ≤ k := by omega
  rcases hk with rfl | rfl
  all_goals
    by_cases hs : s = ⟨#[]⟩
    · subst hs
      have hiw : -1 ≤ ss ∧ ss ≤ 1000000 := by omega
      go_wp2_with fail
      refine (between_any _ w.heap.size n ss ⟨#[]⟩ _ HX5.out hiw).mono ?_
      rintro e w9 ⟨rfl, hb9⟩
      have HB9 := Lib.hid (HB5.out.trans (hb9.mono HB5.out.size))
      clear hb9 x0 x1 x2 y0 y1 y2
      go_wp2
      go_ret
      exact ⟨rfl, HB9.out⟩
    · have HS : Hid (decide (s = ⟨#[]⟩) = false) := decide_eq_false hs
      have hs1 := str_empty hs
      clear hs
      go_wp2
      go_ret
      exact ⟨by rw [HS.out]; rfl, HB5.out⟩
set_option maxRecDepth 100000 in
set_option maxHeartbeats 2000000 in
theorem right_out (k : Int) (hk : k ≤ 0 ∨ 13 ≤ k) (n : Int) (s : ByteArray) (rs ss : Int) (hr : 0 ≤ rs ∧ rs ≤ 1000000 ∧ 0 ≤ ss ∧ ss ≤ 1000000) (w : World) :
    Calls Tryz.prog 53 #[.agg #[.int .i64 k, .int .i64 n, .string s], .int .i64 rs, .int .i64 ss] w fun e w' => e = .returned (.bool (false)) ∧ Below w.heap.size w w' := by
  have h1 : decide (k ∈ numL) = false := by rw [decide_eq_false_iff_not]; simp only [numL, namL, List.mem_cons, List.not_mem_nil, or_false]; omega
  have h2 : decide (k ∈ namL) = false := by rw [decide_eq_false_iff_not]; simp only [numL, namL, List.mem_cons, List.not_mem_nil, or_false]; omega
  have H1 := Lib.hid h1
  have H2 := Lib.hid h2
  clear h1 h2
  have hb2 : Below w.heap.size w ((w.alloc (.cells #[.int .i64 k, .int .i64 n, .string s] 82)).alloc (.cells #[.int .i64 k, .int .i64 0, .string ⟨#[]⟩] 82)) := ((Below.refl _ _).alloc (Nat.le_refl _) _).alloc (by simp) _
  have HX : Hid (((w.alloc (.cells #[.int .i64 k, .int .i64 n, .string s] 82)).alloc (.cells #[.int .i64 k, .int .i64 0, .string ⟨#[]⟩] 82)).heap[w.heap.size]? = some (.cells #[.int .i64 k, .int .i64 n, .string s] 82 (0, 0))) := (alloc2_low w _ _).trans (heap_alloc_new w _)
  have HY : Hid (((w.alloc (.cells #[.int .i64 k, .int .i64 n, .string s] 82)).alloc (.cells #[.int .i64 k, .int .i64 0, .string ⟨#[]⟩] 82)).heap[w.heap.size + 1]? = some (.cells #[.int .i64 k, .int .i64 0, .string ⟨#[]⟩] 82 (0, 0))) := alloc2_high w _ _ (heap_alloc_new _ _)
  have HB := Lib.hid hb2
  have hmf : ∀ fn first cap w, (Instr.makeFunc fn first cap).run Tryz.prog w = .ok (.func fn first cap) w := fun _ _ _ _ => rfl
  clear hb2
  go_enter Tryz.func53, Tryz.ntmps53
  go_upto_region 2 with fail
  generalize (w.alloc (.cells #[.int .i64 k, .int .i64 n, .string s] 82)).alloc (.cells #[.int .i64 k, .int .i64 0, .string ⟨#[]⟩] 82) = wd at *
  have x0 := cellAt HX.out 0 rfl
  go_wp2_with fail
  refine (numbered_any k _).mono ?_
  rintro e w2 ⟨rfl, hb2⟩
  rw [H1.out]
  have HX2 := Lib.hid ((hb2.block _ (lt_of_heap HX.out)).trans HX.out)
  have HY2 := Lib.hid ((hb2.block _ (lt_of_heap HY.out)).trans HY.out)
  have HB2 := Lib.hid (HB.out.trans (hb2.mono HB.out.size))
  clear hb2 x0
  have x0 := cellAt HX2.out 0 rfl
  go_wp2_with fail
  refine (named_any k _).mono ?_
  rintro e w5 ⟨rfl, hb5⟩
  rw [H2.out]
  have HX5 := Lib.hid ((hb5.block _ (lt_of_heap HX2.out)).trans HX2.out)
  have HY5 := Lib.hid ((hb5.block _ (lt_of_heap HY2.out)).trans HY2.out)
  have HB5 := Lib.hid (HB2.out.trans (hb5.mono HB2.out.size))
  clear hb5 x0
  have x0 := cellAt HX5.out 0 rfl
  have x1 := cellAt HX5.out 1 rfl
  have x2 := cellAt HX5.out 2 rfl
  have y0 := cellAt HY5.out 0 rfl
  have y1 := cellAt HY5.out 1 rfl
  have y2 := cellAt HY5.out 2 rfl
  have e3 : (k == 3) = false := by rw [beq_eq_false_iff_ne]; omega
  have e5 : (k == 5) = false := by rw [beq_eq_false_iff_ne]; omega
  have e4 : (k == 4) = false := by rw [beq_eq_false_iff_ne]; omega
  have e6 : (k == 6) = false := by rw [beq_eq_false_iff_ne]; omega
  have e8 : (k == 8) = false := by rw [beq_eq_false_iff_ne]; omega
  have e9 : (k == 9) = false := by rw [beq_eq_false_iff_ne]; omega
  have hc : k ≤ 0 ∨ (¬ k ≤ 0 ∧ 13 ≤ k) := by omega
  clear hk hr
  rcases hc with hc | ⟨hc, hd⟩
  · go_wp2
    go_ret
    exact ⟨rfl, HB5.out⟩
  · go_wp2
    go_ret
    exact ⟨rfl, HB5.out⟩
def rightB (x : ST) (np nl : Nat) : Bool :=
  if x.k = 1 ∨ x.k = 2 then decide (x.s = ⟨#[]⟩)
  else if x.k = 3 ∨ x.k = 5 then decide (x.n = 0) && decide (x.s.size ≤ 1000) && !decide (x.s = ⟨#[]⟩)
  else if x.k = 4 ∨ x.k = 4 then decide (x.s = ⟨#[]⟩) && decide (0 ≤ x.n)
  else if x.k = 6 ∨ x.k = 6 then decide (x.s = ⟨#[]⟩) && (decide (0 ≤ x.n) && decide (x.n ≤ (np : Int) - 1))
  else if x.k = 7 ∨ x.k = 11 then decide (x.n = 0) && decide (x.s = ⟨#[]⟩)
  else if x.k = 8 ∨ x.k = 9 then decide (x.s = ⟨#[]⟩) && (decide (0 ≤ x.n) && decide (x.n ≤ (nl : Int)))
  else if x.k = 10 ∨ x.k = 12 then decide (x.n = 0) && decide (x.s.size ≤ 1000)
  else false
theorem right_any (x : ST) (np nl : Nat) (h1 : np ≤ 1000000) (h2 : nl ≤ 1000000) (W : World) :
    Calls Tryz.prog 53 #[x.val, .int .i64 np, .int .i64 nl] W fun e w' => e = .returned (.bool (rightB x np nl)) ∧ Below W.heap.size W w' := by
  obtain ⟨k, n, s⟩ := x
  have hr : 0 ≤ (np : Int) ∧ (np : Int) ≤ 1000000 ∧ 0 ≤ (nl : Int) ∧ (nl : Int) ≤ 1000000 := by omega
  unfold ST.val rightB
  simp only
  by_cases c1 : k = 1 ∨ k = 2
  · rw [if_pos c1]; exact right_set k c1 n s np nl hr W
  rw [if_neg c1]
  by_cases c2 : k = 3 ∨ k = 5
  · rw [if_pos c2]; exact right_call k c2 n s np nl hr W
  rw [if_neg c2]
  by_cases c3 : k = 4 ∨ k = 4
  · rw [if_pos c3]; exact right_sleep k c3 n s np nl hr W
  rw [if_neg c3]
  by_cases c4 : k = 6 ∨ k = 6
  · rw [if_pos c4]; exact right_spawn k c4 n s np nl hr W
  rw [if_neg c4]
  by_cases c5 : k = 7 ∨ k = 11
  · rw [if_pos c5]; exact right_bare k c5 n s np nl hr W
  rw [if_neg c5]
  by_cases c6 : k = 8 ∨ k = 9
  · rw [if_pos c6]; exact right_jump k c6 n s np nl hr W
  rw [if_neg c6]
  by_cases c7 : k = 10 ∨ k = 12
  · rw [if_pos c7]; exact right_panic k c7 n s np nl hr W
  rw [if_neg c7]
  exact right_out k (by omega) n s np nl hr W
end Go.Proofs.YtpijpeocdlnhiaaGreatDoor
