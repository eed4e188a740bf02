/- Step.right. -/
import Derived.Test.YtccnmoicckjfbaaGreatDoorPKind
namespace Go.Proofs.YtccnmoicckjfbaaGreatDoor
set_option linter.unusedVariables false
set_option linter.unusedSimpArgs false
open Go.RowKit

theorem str_ne {a b : ByteArray} (h : ¬ a = b) : (¬ a.toList = b.toList) ∧ (a.toList == b.toList) = false := by
  have h1 : ¬ a.toList = b.toList := fun e => h (by
    have h2 := ba_beq a b
    rw [beq_toListBytes, e] at h2
    simpa using h2)
  exact ⟨h1, by simpa using h1⟩
theorem str_empty {s : ByteArray} (h : ¬ s = ⟨#[]⟩) : ¬ s.toList = [] := by simpa using (str_ne h).1

set_option maxRecDepth 100000 in
set_option maxHeartbeats 2000000 in
theorem right_bare (k : Int) (hk : k = 7 ∨ k = 11) (n : Int) (s : ByteArray) (rs ss : Int) (hr : 0 ≤ rs ∧ rs ≤ 1000000 ∧ 0 ≤ ss ∧ ss ≤ 1000000) (w : World) :
    Calls Tryz.prog 21 #[.agg #[.int .i64 k, .int .i64 n, .string s], .int .i64 rs, .int .i64 ss] w fun e w' => e = .returned (.bool (decide (n = 0) && decide (s = ⟨#[]⟩))) ∧ Below w.heap.size w w' := by
  have h1 : decide (k ∈ numL) = false := by rcases hk with rfl | rfl <;> decide
  have h2 : decide (k ∈ namL) = false := by rcases hk with rfl | rfl <;> decide
  have H1 := Lib.hid h1
  have H2 := Lib.hid h2
  clear h1 h2
  have hb2 : Below w.heap.size w ((w.alloc (.cells #[.int .i64 k, .int .i64 n, .string s] 37)).alloc (.cells #[.int .i64 k, .int .i64 0, .string ⟨#[]⟩] 37)) := ((Below.refl _ _).alloc (Nat.le_refl _) _).alloc (by simp) _
  have HX : Hid (((w.alloc (.cells #[.int .i64 k, .int .i64 n, .string s] 37)).alloc (.cells #[.int .i64 k, .int .i64 0, .string ⟨#[]⟩] 37)).heap[w.heap.size]? = some (.cells #[.int .i64 k, .int .i64 n, .string s] 37 (0, 0))) := (alloc2_low w _ _).trans (heap_alloc_new w _)
  have HY : Hid (((w.alloc (.cells #[.int .i64 k, .int .i64 n, .string s] 37)).alloc (.cells #[.int .i64 k, .int .i64 0, .string ⟨#[]⟩] 37)).heap[w.heap.size + 1]? = some (.cells #[.int .i64 k, .int .i64 0, .string ⟨#[]⟩] 37 (0, 0))) := alloc2_high w _ _ (heap_alloc_new _ _)
  have HB := Lib.hid hb2
  have hmf : ∀ fn first cap w, (Instr.makeFunc fn first cap).run Tryz.prog w = .ok (.func fn first cap) w := fun _ _ _ _ => rfl
  clear hb2
  go_enter Tryz.func21, Tryz.ntmps21
  go_upto_region 2 with fail
  generalize (w.alloc (.cells #[.int .i64 k, .int .i64 n, .string s] 37)).alloc (.cells #[.int .i64 k, .int .i64 0, .string ⟨#[]⟩] 37) = wd at *
  have x0 := cellAt HX.out 0 rfl
  go_wp2_with fail
  refine (numbered_any k _).mono ?_
  rintro e w2 ⟨rfl, hb2⟩
  rw [H1.out]
  have HX2 := Lib.hid ((hb2.block _ (lt_of_heap HX.out)).trans HX.out)
  have HY2 := Lib.hid ((hb2.block _ (lt_of_heap HY.out)).trans HY.out)
  have HB2 := Lib.hid (HB.out.trans (hb2.mono HB.out.size))
  clear hb2 x0
  have x0 := cellAt HX2.out 0 rfl
  go_wp2_with fail
  refine (named_any k _).mono ?_
  rintro e w5 ⟨rfl, hb5⟩
  rw [H2.out]
  have HX5 := Lib.hid ((hb5.block _ (lt_of_heap HX2.out)).trans HX2.out)
  have HY5 := Lib.hid ((hb5.block _ (lt_of_heap HY2.out)).trans HY2.out)
  have HB5 := Lib.hid (HB2.out.trans (hb5.mono HB2.out.size))
  clear hb5 x0
  have x0 := cellAt HX5.out 0 rfl
  have x1 := cellAt HX5.out 1 rfl
  have x2 := cellAt HX5.out 2 rfl
  have y0 := cellAt HY5.out 0 rfl
  have y1 := cellAt HY5.out 1 rfl
  have y2 := cellAt HY5.out 2 rfl
  have g0 : ¬ k ≤ 0 := by omega
  have g13 : ¬ 13 ≤ k := by omega
  have e3 : (k == 3) = false := by rw [beq_eq_false_iff_ne]; omega
  have e5 : (k == 5) = false := by rw [beq_eq_false_iff_ne]; omega
  have e4 : (k == 4) = false := by rw [beq_eq_false_iff_ne]; omega
  have e6 : (k == 6) = false := by rw [beq_eq_false_iff_ne]; omega
  have e8 : (k == 8) = false := by rw [beq_eq_false_iff_ne]; omega
  have e9 : (k == 9) = false := by rw [beq_eq_false_iff_ne]; omega
  clear hk hr
  by_cases hn : n = 0
  · subst hn
    by_cases hs : s = ⟨#[]⟩
    · subst hs
      go_wp2
      go_ret
      exact ⟨rfl, HB5.out⟩
    · have HS : Hid (decide (s = ⟨#[]⟩) = false) := decide_eq_false hs
      have hs1 := str_empty hs
      clear hs
      go_wp2
      go_ret
      exact ⟨by rw [HS.out]; rfl, HB5.out⟩
  · have HN : Hid (decide (n = 0) = false) := decide_eq_false hn
    have hn2 : (n == 0) = false := by rw [beq_eq_false_iff_ne]; exact hn
    clear hn
    go_wp2
    go_ret
    exact ⟨by rw [HN.out]; rfl, HB5.out⟩

set_option maxRecDepth 100000 in
set_option maxHeartbeats 2000000 in
theorem right_call (k : Int) (hk : k = 3 ∨ k = 5) (n : Int) (s : ByteArray) (rs ss : Int) (hr : 0 ≤ rs ∧ rs ≤ 1000000 ∧ 0 ≤ ss ∧ ss ≤ 1000000) (w : World) :
    Calls Tryz.prog 21 #[.agg #[.int .i64 k, .int .i64 n, .string s], .int .i64 rs, .int .i64 ss] w fun e w' => e = .returned (.bool (decide (n = 0) && decide (s.size ≤ 1000) && !decide (s = ⟨#[]⟩))) ∧ Below w.heap.size w w' := by
  have h1 : decide (k ∈ numL) = false := by rcases hk with rfl | rfl <;> decide
  have h2 : decide (k ∈ namL) = true := by rcases hk with rfl | rfl <;> decide
  have H1 := Lib.hid h1
  have H2 := Lib.hid h2
  clear h1 h2
  have hb2 : Below w.heap.size w ((w.alloc (.cells #[.int .i64 k, .int .i64 n, .string s] 37)).alloc (.cells #[.int .i64 k, .int .i64 0, .string ⟨#[]⟩] 37)) := ((Below.refl _ _).alloc (Nat.le_refl _) _).alloc (by simp) _
  have HX : Hid (((w.alloc (.cells #[.int .i64 k, .int .i64 n, .string s] 37)).alloc (.cells #[.int .i64 k, .int .i64 0, .string ⟨#[]⟩] 37)).heap[w.heap.size]? = some (.cells #[.int .i64 k, .int .i64 n, .string s] 37 (0, 0))) := (alloc2_low w _ _).trans (heap_alloc_new w _)
  have HY : Hid (((w.alloc (.cells #[.int .i64 k, .int .i64 n, .string s] 37)).alloc (.cells #[.int .i64 k, .int .i64 0, .string ⟨#[]⟩] 37)).heap[w.heap.size + 1]? = some (.cells #[.int .i64 k, .int .i64 0, .string ⟨#[]⟩] 37 (0, 0))) := alloc2_high w _ _ (heap_alloc_new _ _)
  have HB := Lib.hid hb2
  have hmf : ∀ fn first cap w, (Instr.makeFunc fn first cap).run Tryz.prog w = .ok (.func fn first cap) w := fun _ _ _ _ => rfl
  clear hb2
  go_enter Tryz.func21, Tryz.ntmps21
  go_upto_region 2 with fail
  generalize (w.alloc (.cells #[.int .i64 k, .int .i64 n, .string s] 37)).alloc (.cells #[.int .i64 k, .int .i64 0, .string ⟨#[]⟩] 37) = wd at *
  have x0 := cellAt HX.out 0 rfl
  go_wp2_with fail
  refine (numbered_any k _).mono ?_
  rintro e w2 ⟨rfl, hb2⟩
  rw [H1.out]
  have HX2 := Lib.hid ((hb2.block _ (lt_of_heap HX.out)).trans HX.out)
  have HY2 := Lib.hid ((hb2.block _ (lt_of_heap HY.out)).trans HY.out)
  have HB2 := Lib.hid (HB.out.trans (hb2.mono HB.out.size))
  clear hb2 x0
  have x0 := cellAt HX2.out 0 rfl
  go_wp2_with fail
  refine (named_any k _).mono ?_
  rintro e w5 ⟨rfl, hb5⟩
  rw [H2.out]
  have HX5 := Lib.hid ((hb5.block _ (lt_of_heap HX2.out)).trans HX2.out)
  have HY5 := Lib.hid ((hb5.block _ (lt_of_heap HY2.out)).trans HY2.out)
  have HB5 := Lib.hid (HB2.out.trans (hb5.mono HB2.out.size))
  clear hb5 x0
  have x2 := cellAt HX5.out 2 rfl
  have f2 := freeAt HY5.out 2
  have y2 := cellAt HY5.out 2 rfl
  go_upto_region 6 with fail
  have HX6 : Hid ((w5.setCell ⟨w.heap.size + 1, 2, none⟩ (.string s)).heap[w.heap.size]? = _) := (Below.heap_setCell _ ⟨w.heap.size + 1, 2, none⟩ _ _ (by show w.heap.size ≠ w.heap.size + 1; omega)).trans HX5.out
  have HY6 : Hid ((w5.setCell ⟨w.heap.size + 1, 2, none⟩ (.string s)).heap[w.heap.size + 1]? = some (.cells #[.int .i64 k, .int .i64 0, .string s] 37 (0, 0))) := heap_store HY5.out 2 _
  have HB6 := Lib.hid (HB5.out.setCell (p := ⟨w.heap.size + 1, 2, none⟩) (by show w.heap.size ≤ w.heap.size + 1; omega) (.string s))
  generalize w5.setCell ⟨w.heap.size + 1, 2, none⟩ (.string s) = w6 at *
  clear x2 f2 y2 HX5 HY5
  have x0 := cellAt HX6.out 0 rfl
  have x1 := cellAt HX6.out 1 rfl
  have x2 := cellAt HX6.out 2 rfl
  have y0 := cellAt HY6.out 0 rfl
  have y1 := cellAt HY6.out 1 rfl
  have y2 := cellAt HY6.out 2 rfl
  have g0 : ¬ k ≤ 0 := by omega
  have g13 : ¬ 13 ≤ k := by omega
  rcases hk with rfl | rfl
  all_goals
    clear hr
    by_cases hn : n = 0
    · subst hn
      by_cases hz : 1000 < (s.size : Int)
      · have HZ : Hid (decide (s.size ≤ 1000) = false) := decide_eq_false (by omega)
        go_wp2
        go_ret
        exact ⟨by rw [HZ.out]; rfl, HB6.out⟩
      · have HZ : Hid (decide (s.size ≤ 1000) = true) := decide_eq_true (by omega)
        by_cases hs : s = ⟨#[]⟩
        · subst hs
          go_wp2
          go_ret
          exact ⟨rfl, HB6.out⟩
        · have HS : Hid (decide (s = ⟨#[]⟩) = false) := decide_eq_false hs
          have HE : Hid (s.toList.isEmpty = false) := by rw [Hid, List.isEmpty_eq_false_iff]; exact str_empty hs
          clear hs
          go_wp2
          go_ret
          exact ⟨by rw [HZ.out, HS.out]; exact congrArg (fun b => Ending.returned (.bool (!b))) HE.out, HB6.out⟩
    · have HN : Hid (decide (n = 0) = false) := decide_eq_false hn
      have hn2 : (n == 0) = false := by rw [beq_eq_false_iff_ne]; exact hn
      clear hn
      go_wp2
      go_ret
      exact ⟨by rw [HN.out]; rfl, HB6.out⟩
end Go.Proofs.YtccnmoicckjfbaaGreatDoor
