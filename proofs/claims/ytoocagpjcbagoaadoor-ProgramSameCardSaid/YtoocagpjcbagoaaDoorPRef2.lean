/- The reference's right, kind by kind. -/
import Derived.Test.YtoocagpjcbagoaaDoorPRef1
import Derived.Test.YtoocagpjcbagoaaDoorPRight2
namespace Go.Proofs.YtoocagpjcbagoaaDoor
set_option linter.unusedVariables false
set_option linter.unusedSimpArgs false
open Go.RowKit

theorem word_ne : ∀ k : Fin 13, k.val ≠ 0 → (wordsL.getD k.val ⟨#[]⟩).toList.isEmpty = false := by decide +kernel
theorem str_isEmpty {s : ByteArray} (h : ¬ s = ⟨#[]⟩) : s.toList.isEmpty = false := by simpa using str_empty h

set_option maxRecDepth 100000 in
set_option maxHeartbeats 2000000 in
theorem rr1 (P : List RT) (a : Option Addr) (c : Nat) (i : Nat) (hi : i < P.length) (n : Int) (s : ByteArray) (w : World) (h : PrgU w (.slice a P.length c) P) (hP : P.length ≤ 20) (hl : P[i].l.length ≤ 200) (hs0 : s.size ≤ 9223372036854775807) :
    Calls Tryd.prog 24 #[.slice a P.length c, .int .i64 i, .agg #[.int .i64 1, .int .i64 n, .string s]] w fun e w' => e = .returned (.bool (rightB ⟨1, n, s⟩ P.length P[i].l.length)) ∧ Below w.heap.size w w' := by
  have HX : Hid ((w.alloc (.cells #[.int .i64 1, .int .i64 n, .string s] 39)).heap[w.heap.size]? = some (.cells #[.int .i64 1, .int .i64 n, .string s] 39 (0, 0))) := heap_alloc_new w _
  have HB : Hid (Below w.heap.size w (w.alloc (.cells #[.int .i64 1, .int .i64 n, .string s] 39))) := (Below.refl _ _).alloc (Nat.le_refl _) _
  have HP := Lib.hid h
  have HW := Lib.hid (word_ne ⟨1, by decide⟩ (by decide))
  clear h
  simp only at HW
  go_enter Tryd.func24, Tryd.ntmps24
  go_upto_region 1 with fail
  generalize w.alloc (.cells #[.int .i64 1, .int .i64 n, .string s] 39) = wd at *
  have x0 := cellAt HX.out 0 rfl
  go_wp2_with fail
  refine (rword_in 1 (by decide) _).mono ?_
  rintro e w2 ⟨rfl, hb2⟩
  have HX2 := Lib.hid ((hb2.block _ (lt_of_heap HX.out)).trans HX.out)
  have HB2 := Lib.hid (HB.out.trans (hb2.mono HB.out.size))
  clear hb2 x0 HX HB
  generalize wordsL.getD 1 ⟨#[]⟩ = wx at *
  have hw := HW.out
  have x0 := cellAt HX2.out 0 rfl
  have x1 := cellAt HX2.out 1 rfl
  have x2 := cellAt HX2.out 2 rfl
  go_wp2_with fail
  refine (rfield_in 1 (by decide) _).mono ?_
  rintro e w3 ⟨rfl, rfl⟩
  simp only [fieldI, Nat.reduceEqDiff, or_false, or_true, false_or, true_or, if_true, if_false]
  go_wp2_with fail
  refine (rfield_in 1 (by decide) _).mono ?_
  rintro e w3 ⟨rfl, rfl⟩
  simp only [fieldI, Nat.reduceEqDiff, or_false, or_true, false_or, true_or, if_true, if_false]
  by_cases hs : s = ⟨#[]⟩
  rotate_left
  · have HV : Hid (rightB ⟨1, n, s⟩ P.length P[i].l.length = false) := by rw [Hid]; unfold rightB; simp [hs]
    have hs1 := str_isEmpty hs
    clear hs
    go_wp2
    go_ret
    exact ⟨by rw [HV.out]; rfl, HB2.out⟩
  subst hs
  have HV : Hid (rightB ⟨1, n, ⟨#[]⟩⟩ P.length P[i].l.length = true) := by rw [Hid]; unfold rightB; simp
  go_wp2
  go_ret
  exact ⟨by rw [HV.out]; rfl, HB2.out⟩

set_option maxRecDepth 100000 in
set_option maxHeartbeats 2000000 in
theorem rr2 (P : List RT) (a : Option Addr) (c : Nat) (i : Nat) (hi : i < P.length) (n : Int) (s : ByteArray) (w : World) (h : PrgU w (.slice a P.length c) P) (hP : P.length ≤ 20) (hl : P[i].l.length ≤ 200) (hs0 : s.size ≤ 9223372036854775807) :
    Calls Tryd.prog 24 #[.slice a P.length c, .int .i64 i, .agg #[.int .i64 2, .int .i64 n, .string s]] w fun e w' => e = .returned (.bool (rightB ⟨2, n, s⟩ P.length P[i].l.length)) ∧ Below w.heap.size w w' := by
  have HX : Hid ((w.alloc (.cells #[.int .i64 2, .int .i64 n, .string s] 39)).heap[w.heap.size]? = some (.cells #[.int .i64 2, .int .i64 n, .string s] 39 (0, 0))) := heap_alloc_new w _
  have HB : Hid (Below w.heap.size w (w.alloc (.cells #[.int .i64 2, .int .i64 n, .string s] 39))) := (Below.refl _ _).alloc (Nat.le_refl _) _
  have HP := Lib.hid h
  have HW := Lib.hid (word_ne ⟨2, by decide⟩ (by decide))
  clear h
  simp only at HW
  go_enter Tryd.func24, Tryd.ntmps24
  go_upto_region 1 with fail
  generalize w.alloc (.cells #[.int .i64 2, .int .i64 n, .string s] 39) = wd at *
  have x0 := cellAt HX.out 0 rfl
  go_wp2_with fail
  refine (rword_in 2 (by decide) _).mono ?_
  rintro e w2 ⟨rfl, hb2⟩
  have HX2 := Lib.hid ((hb2.block _ (lt_of_heap HX.out)).trans HX.out)
  have HB2 := Lib.hid (HB.out.trans (hb2.mono HB.out.size))
  clear hb2 x0 HX HB
  generalize wordsL.getD 2 ⟨#[]⟩ = wx at *
  have hw := HW.out
  have x0 := cellAt HX2.out 0 rfl
  have x1 := cellAt HX2.out 1 rfl
  have x2 := cellAt HX2.out 2 rfl
  go_wp2_with fail
  refine (rfield_in 2 (by decide) _).mono ?_
  rintro e w3 ⟨rfl, rfl⟩
  simp only [fieldI, Nat.reduceEqDiff, or_false, or_true, false_or, true_or, if_true, if_false]
  go_wp2_with fail
  refine (rfield_in 2 (by decide) _).mono ?_
  rintro e w3 ⟨rfl, rfl⟩
  simp only [fieldI, Nat.reduceEqDiff, or_false, or_true, false_or, true_or, if_true, if_false]
  by_cases hs : s = ⟨#[]⟩
  rotate_left
  · have HV : Hid (rightB ⟨2, n, s⟩ P.length P[i].l.length = false) := by rw [Hid]; unfold rightB; simp [hs]
    have hs1 := str_isEmpty hs
    clear hs
    go_wp2
    go_ret
    exact ⟨by rw [HV.out]; rfl, HB2.out⟩
  subst hs
  have HV : Hid (rightB ⟨2, n, ⟨#[]⟩⟩ P.length P[i].l.length = true) := by rw [Hid]; unfold rightB; simp
  go_wp2
  go_ret
  exact ⟨by rw [HV.out]; rfl, HB2.out⟩

set_option maxRecDepth 100000 in
set_option maxHeartbeats 2000000 in
theorem rr3 (P : List RT) (a : Option Addr) (c : Nat) (i : Nat) (hi : i < P.length) (n : Int) (s : ByteArray) (w : World) (h : PrgU w (.slice a P.length c) P) (hP : P.length ≤ 20) (hl : P[i].l.length ≤ 200) (hs0 : s.size ≤ 9223372036854775807) :
    Calls Tryd.prog 24 #[.slice a P.length c, .int .i64 i, .agg #[.int .i64 3, .int .i64 n, .string s]] w fun e w' => e = .returned (.bool (rightB ⟨3, n, s⟩ P.length P[i].l.length)) ∧ Below w.heap.size w w' := by
  have HX : Hid ((w.alloc (.cells #[.int .i64 3, .int .i64 n, .string s] 39)).heap[w.heap.size]? = some (.cells #[.int .i64 3, .int .i64 n, .string s] 39 (0, 0))) := heap_alloc_new w _
  have HB : Hid (Below w.heap.size w (w.alloc (.cells #[.int .i64 3, .int .i64 n, .string s] 39))) := (Below.refl _ _).alloc (Nat.le_refl _) _
  have HP := Lib.hid h
  have HW := Lib.hid (word_ne ⟨3, by decide⟩ (by decide))
  clear h
  simp only at HW
  go_enter Tryd.func24, Tryd.ntmps24
  go_upto_region 1 with fail
  generalize w.alloc (.cells #[.int .i64 3, .int .i64 n, .string s] 39) = wd at *
  have x0 := cellAt HX.out 0 rfl
  go_wp2_with fail
  refine (rword_in 3 (by decide) _).mono ?_
  rintro e w2 ⟨rfl, hb2⟩
  have HX2 := Lib.hid ((hb2.block _ (lt_of_heap HX.out)).trans HX.out)
  have HB2 := Lib.hid (HB.out.trans (hb2.mono HB.out.size))
  clear hb2 x0 HX HB
  generalize wordsL.getD 3 ⟨#[]⟩ = wx at *
  have hw := HW.out
  have x0 := cellAt HX2.out 0 rfl
  have x1 := cellAt HX2.out 1 rfl
  have x2 := cellAt HX2.out 2 rfl
  go_wp2_with fail
  refine (rfield_in 3 (by decide) _).mono ?_
  rintro e w3 ⟨rfl, rfl⟩
  simp only [fieldI, Nat.reduceEqDiff, or_false, or_true, false_or, true_or, if_true, if_false]
  by_cases hn : n = 0
  rotate_left
  · have HV : Hid (rightB ⟨3, n, s⟩ P.length P[i].l.length = false) := by rw [Hid]; unfold rightB; simp [hn]
    have hn2 : (n != 0) = true := by rw [bne_iff_ne]; exact hn
    clear hn
    go_wp2
    go_ret
    exact ⟨by rw [HV.out]; rfl, HB2.out⟩
  subst hn
  go_wp2_with fail
  refine (rfield_in 3 (by decide) _).mono ?_
  rintro e w3 ⟨rfl, rfl⟩
  simp only [fieldI, Nat.reduceEqDiff, or_false, or_true, false_or, true_or, if_true, if_false]
  by_cases hz : 1000 < (s.size : Int)
  · have HV : Hid (rightB ⟨3, 0, s⟩ P.length P[i].l.length = false) := by rw [Hid]; unfold rightB; simp; omega
    go_wp2
    go_ret
    exact ⟨by rw [HV.out]; rfl, HB2.out⟩
  by_cases hs : s = ⟨#[]⟩
  · subst hs
    have HV : Hid (rightB ⟨3, 0, ⟨#[]⟩⟩ P.length P[i].l.length = false) := by rw [Hid]; unfold rightB; simp
    go_wp2
    go_ret
    exact ⟨by rw [HV.out]; rfl, HB2.out⟩
  · have HV : Hid (rightB ⟨3, 0, s⟩ P.length P[i].l.length = true) := by rw [Hid]; unfold rightB; simp [hs]; omega
    have hs1 := str_isEmpty hs
    clear hs
    go_wp2
    go_ret
    exact ⟨by rw [HV.out]; rfl, HB2.out⟩

set_option maxRecDepth 100000 in
set_option maxHeartbeats 2000000 in
theorem rr4 (P : List RT) (a : Option Addr) (c : Nat) (i : Nat) (hi : i < P.length) (n : Int) (s : ByteArray) (w : World) (h : PrgU w (.slice a P.length c) P) (hP : P.length ≤ 20) (hl : P[i].l.length ≤ 200) (hs0 : s.size ≤ 9223372036854775807) :
    Calls Tryd.prog 24 #[.slice a P.length c, .int .i64 i, .agg #[.int .i64 4, .int .i64 n, .string s]] w fun e w' => e = .returned (.bool (rightB ⟨4, n, s⟩ P.length P[i].l.length)) ∧ Below w.heap.size w w' := by
  have HX : Hid ((w.alloc (.cells #[.int .i64 4, .int .i64 n, .string s] 39)).heap[w.heap.size]? = some (.cells #[.int .i64 4, .int .i64 n, .string s] 39 (0, 0))) := heap_alloc_new w _
  have HB : Hid (Below w.heap.size w (w.alloc (.cells #[.int .i64 4, .int .i64 n, .string s] 39))) := (Below.refl _ _).alloc (Nat.le_refl _) _
  have HP := Lib.hid h
  have HW := Lib.hid (word_ne ⟨4, by decide⟩ (by decide))
  clear h
  simp only at HW
  go_enter Tryd.func24, Tryd.ntmps24
  go_upto_region 1 with fail
  generalize w.alloc (.cells #[.int .i64 4, .int .i64 n, .string s] 39) = wd at *
  have x0 := cellAt HX.out 0 rfl
  go_wp2_with fail
  refine (rword_in 4 (by decide) _).mono ?_
  rintro e w2 ⟨rfl, hb2⟩
  have HX2 := Lib.hid ((hb2.block _ (lt_of_heap HX.out)).trans HX.out)
  have HB2 := Lib.hid (HB.out.trans (hb2.mono HB.out.size))
  clear hb2 x0 HX HB
  generalize wordsL.getD 4 ⟨#[]⟩ = wx at *
  have hw := HW.out
  have x0 := cellAt HX2.out 0 rfl
  have x1 := cellAt HX2.out 1 rfl
  have x2 := cellAt HX2.out 2 rfl
  go_wp2_with fail
  refine (rfield_in 4 (by decide) _).mono ?_
  rintro e w3 ⟨rfl, rfl⟩
  simp only [fieldI, Nat.reduceEqDiff, or_false, or_true, false_or, true_or, if_true, if_false]
  go_wp2_with fail
  refine (rfield_in 4 (by decide) _).mono ?_
  rintro e w3 ⟨rfl, rfl⟩
  simp only [fieldI, Nat.reduceEqDiff, or_false, or_true, false_or, true_or, if_true, if_false]
  by_cases hs : s = ⟨#[]⟩
  rotate_left
  · have HV : Hid (rightB ⟨4, n, s⟩ P.length P[i].l.length = false) := by rw [Hid]; unfold rightB; simp [hs]
    have hs1 := str_isEmpty hs
    clear hs
    go_wp2
    go_ret
    exact ⟨by rw [HV.out]; rfl, HB2.out⟩
  subst hs
  have HV : Hid (rightB ⟨4, n, ⟨#[]⟩⟩ P.length P[i].l.length = decide (0 ≤ n)) := by rw [Hid]; unfold rightB; simp
  go_wp2
  go_ret
  exact ⟨by rw [HV.out]; rfl, HB2.out⟩

set_option maxRecDepth 100000 in
set_option maxHeartbeats 2000000 in
theorem rr5 (P : List RT) (a : Option Addr) (c : Nat) (i : Nat) (hi : i < P.length) (n : Int) (s : ByteArray) (w : World) (h : PrgU w (.slice a P.length c) P) (hP : P.length ≤ 20) (hl : P[i].l.length ≤ 200) (hs0 : s.size ≤ 9223372036854775807) :
    Calls Tryd.prog 24 #[.slice a P.length c, .int .i64 i, .agg #[.int .i64 5, .int .i64 n, .string s]] w fun e w' => e = .returned (.bool (rightB ⟨5, n, s⟩ P.length P[i].l.length)) ∧ Below w.heap.size w w' := by
  have HX : Hid ((w.alloc (.cells #[.int .i64 5, .int .i64 n, .string s] 39)).heap[w.heap.size]? = some (.cells #[.int .i64 5, .int .i64 n, .string s] 39 (0, 0))) := heap_alloc_new w _
  have HB : Hid (Below w.heap.size w (w.alloc (.cells #[.int .i64 5, .int .i64 n, .string s] 39))) := (Below.refl _ _).alloc (Nat.le_refl _) _
  have HP := Lib.hid h
  have HW := Lib.hid (word_ne ⟨5, by decide⟩ (by decide))
  clear h
  simp only at HW
  go_enter Tryd.func24, Tryd.ntmps24
  go_upto_region 1 with fail
  generalize w.alloc (.cells #[.int .i64 5, .int .i64 n, .string s] 39) = wd at *
  have x0 := cellAt HX.out 0 rfl
  go_wp2_with fail
  refine (rword_in 5 (by decide) _).mono ?_
  rintro e w2 ⟨rfl, hb2⟩
  have HX2 := Lib.hid ((hb2.block _ (lt_of_heap HX.out)).trans HX.out)
  have HB2 := Lib.hid (HB.out.trans (hb2.mono HB.out.size))
  clear hb2 x0 HX HB
  generalize wordsL.getD 5 ⟨#[]⟩ = wx at *
  have hw := HW.out
  have x0 := cellAt HX2.out 0 rfl
  have x1 := cellAt HX2.out 1 rfl
  have x2 := cellAt HX2.out 2 rfl
  go_wp2_with fail
  refine (rfield_in 5 (by decide) _).mono ?_
  rintro e w3 ⟨rfl, rfl⟩
  simp only [fieldI, Nat.reduceEqDiff, or_false, or_true, false_or, true_or, if_true, if_false]
  by_cases hn : n = 0
  rotate_left
  · have HV : Hid (rightB ⟨5, n, s⟩ P.length P[i].l.length = false) := by rw [Hid]; unfold rightB; simp [hn]
    have hn2 : (n != 0) = true := by rw [bne_iff_ne]; exact hn
    clear hn
    go_wp2
    go_ret
    exact ⟨by rw [HV.out]; rfl, HB2.out⟩
  subst hn
  go_wp2_with fail
  refine (rfield_in 5 (by decide) _).mono ?_
  rintro e w3 ⟨rfl, rfl⟩
  simp only [fieldI, Nat.reduceEqDiff, or_false, or_true, false_or, true_or, if_true, if_false]
  by_cases hz : 1000 < (s.size : Int)
  · have HV : Hid (rightB ⟨5, 0, s⟩ P.length P[i].l.length = false) := by rw [Hid]; unfold rightB; simp; omega
    go_wp2
    go_ret
    exact ⟨by rw [HV.out]; rfl, HB2.out⟩
  by_cases hs : s = ⟨#[]⟩
  · subst hs
    have HV : Hid (rightB ⟨5, 0, ⟨#[]⟩⟩ P.length P[i].l.length = false) := by rw [Hid]; unfold rightB; simp
    go_wp2
    go_ret
    exact ⟨by rw [HV.out]; rfl, HB2.out⟩
  · have HV : Hid (rightB ⟨5, 0, s⟩ P.length P[i].l.length = true) := by rw [Hid]; unfold rightB; simp [hs]; omega
    have hs1 := str_isEmpty hs
    clear hs
    go_wp2
    go_ret
    exact ⟨by rw [HV.out]; rfl, HB2.out⟩

set_option maxRecDepth 100000 in
set_option maxHeartbeats 2000000 in
theorem rr6 (P : List RT) (a : Option Addr) (c : Nat) (i : Nat) (hi : i < P.length) (n : Int) (s : ByteArray) (w : World) (h : PrgU w (.slice a P.length c) P) (hP : P.length ≤ 20) (hl : P[i].l.length ≤ 200) (hs0 : s.size ≤ 9223372036854775807) :
    Calls Tryd.prog 24 #[.slice a P.length c, .int .i64 i, .agg #[.int .i64 6, .int .i64 n, .string s]] w fun e w' => e = .returned (.bool (rightB ⟨6, n, s⟩ P.length P[i].l.length)) ∧ Below w.heap.size w w' := by
  have HX : Hid ((w.alloc (.cells #[.int .i64 6, .int .i64 n, .string s] 39)).heap[w.heap.size]? = some (.cells #[.int .i64 6, .int .i64 n, .string s] 39 (0, 0))) := heap_alloc_new w _
  have HB : Hid (Below w.heap.size w (w.alloc (.cells #[.int .i64 6, .int .i64 n, .string s] 39))) := (Below.refl _ _).alloc (Nat.le_refl _) _
  have HP := Lib.hid h
  have HW := Lib.hid (word_ne ⟨6, by decide⟩ (by decide))
  clear h
  simp only at HW
  go_enter Tryd.func24, Tryd.ntmps24
  go_upto_region 1 with fail
  generalize w.alloc (.cells #[.int .i64 6, .int .i64 n, .string s] 39) = wd at *
  have x0 := cellAt HX.out 0 rfl
  go_wp2_with fail
  refine (rword_in 6 (by decide) _).mono ?_
  rintro e w2 ⟨rfl, hb2⟩
  have HX2 := Lib.hid ((hb2.block _ (lt_of_heap HX.out)).trans HX.out)
  have HB2 := Lib.hid (HB.out.trans (hb2.mono HB.out.size))
  clear hb2 x0 HX HB
  generalize wordsL.getD 6 ⟨#[]⟩ = wx at *
  have hw := HW.out
  have x0 := cellAt HX2.out 0 rfl
  have x1 := cellAt HX2.out 1 rfl
  have x2 := cellAt HX2.out 2 rfl
  go_wp2_with fail
  refine (rfield_in 6 (by decide) _).mono ?_
  rintro e w3 ⟨rfl, rfl⟩
  simp only [fieldI, Nat.reduceEqDiff, or_false, or_true, false_or, true_or, if_true, if_false]
  go_wp2_with fail
  refine (rfield_in 6 (by decide) _).mono ?_
  rintro e w3 ⟨rfl, rfl⟩
  simp only [fieldI, Nat.reduceEqDiff, or_false, or_true, false_or, true_or, if_true, if_false]
  by_cases hs : s = ⟨#[]⟩
  rotate_left
  · have HV : Hid (rightB ⟨6, n, s⟩ P.length P[i].l.length = false) := by rw [Hid]; unfold rightB; simp [hs]
    have hs1 := str_isEmpty hs
    clear hs
    go_wp2
    go_ret
    exact ⟨by rw [HV.out]; rfl, HB2.out⟩
  subst hs
  by_cases hn : n < 0
  · have HV : Hid (rightB ⟨6, n, ⟨#[]⟩⟩ P.length P[i].l.length = false) := by rw [Hid]; unfold rightB; simp; omega
    go_wp2
    go_ret
    exact ⟨by rw [HV.out]; rfl, HB2.out⟩
  · have HV : Hid (rightB ⟨6, n, ⟨#[]⟩⟩ P.length P[i].l.length = decide (n < (P.length : Int))) := by rw [Hid]; unfold rightB; rw [Bool.eq_iff_iff]; simp; omega
    go_wp2
    go_ret
    exact ⟨by rw [HV.out]; rfl, HB2.out⟩

set_option maxRecDepth 100000 in
set_option maxHeartbeats 2000000 in
theorem rr7 (P : List RT) (a : Option Addr) (c : Nat) (i : Nat) (hi : i < P.length) (n : Int) (s : ByteArray) (w : World) (h : PrgU w (.slice a P.length c) P) (hP : P.length ≤ 20) (hl : P[i].l.length ≤ 200) (hs0 : s.size ≤ 9223372036854775807) :
    Calls Tryd.prog 24 #[.slice a P.length c, .int .i64 i, .agg #[.int .i64 7, .int .i64 n, .string s]] w fun e w' => e = .returned (.bool (rightB ⟨7, n, s⟩ P.length P[i].l.length)) ∧ Below w.heap.size w w' := by
  have HX : Hid ((w.alloc (.cells #[.int .i64 7, .int .i64 n, .string s] 39)).heap[w.heap.size]? = some (.cells #[.int .i64 7, .int .i64 n, .string s] 39 (0, 0))) := heap_alloc_new w _
  have HB : Hid (Below w.heap.size w (w.alloc (.cells #[.int .i64 7, .int .i64 n, .string s] 39))) := (Below.refl _ _).alloc (Nat.le_refl _) _
  have HP := Lib.hid h
  have HW := Lib.hid (word_ne ⟨7, by decide⟩ (by decide))
  clear h
  simp only at HW
  go_enter Tryd.func24, Tryd.ntmps24
  go_upto_region 1 with fail
  generalize w.alloc (.cells #[.int .i64 7, .int .i64 n, .string s] 39) = wd at *
  have x0 := cellAt HX.out 0 rfl
  go_wp2_with fail
  refine (rword_in 7 (by decide) _).mono ?_
  rintro e w2 ⟨rfl, hb2⟩
  have HX2 := Lib.hid ((hb2.block _ (lt_of_heap HX.out)).trans HX.out)
  have HB2 := Lib.hid (HB.out.trans (hb2.mono HB.out.size))
  clear hb2 x0 HX HB
  generalize wordsL.getD 7 ⟨#[]⟩ = wx at *
  have hw := HW.out
  have x0 := cellAt HX2.out 0 rfl
  have x1 := cellAt HX2.out 1 rfl
  have x2 := cellAt HX2.out 2 rfl
  go_wp2_with fail
  refine (rfield_in 7 (by decide) _).mono ?_
  rintro e w3 ⟨rfl, rfl⟩
  simp only [fieldI, Nat.reduceEqDiff, or_false, or_true, false_or, true_or, if_true, if_false]
  by_cases hn : n = 0
  rotate_left
  · have HV : Hid (rightB ⟨7, n, s⟩ P.length P[i].l.length = false) := by rw [Hid]; unfold rightB; simp [hn]
    have hn2 : (n != 0) = true := by rw [bne_iff_ne]; exact hn
    clear hn
    go_wp2
    go_ret
    exact ⟨by rw [HV.out]; rfl, HB2.out⟩
  subst hn
  go_wp2_with fail
  refine (rfield_in 7 (by decide) _).mono ?_
  rintro e w3 ⟨rfl, rfl⟩
  simp only [fieldI, Nat.reduceEqDiff, or_false, or_true, false_or, true_or, if_true, if_false]
  by_cases hs : s = ⟨#[]⟩
  rotate_left
  · have HV : Hid (rightB ⟨7, 0, s⟩ P.length P[i].l.length = false) := by rw [Hid]; unfold rightB; simp [hs]
    have hs1 := str_isEmpty hs
    clear hs
    go_wp2
    go_ret
    exact ⟨by rw [HV.out]; rfl, HB2.out⟩
  subst hs
  have HV : Hid (rightB ⟨7, 0, ⟨#[]⟩⟩ P.length P[i].l.length = true) := by rw [Hid]; unfold rightB; simp
  go_wp2
  go_ret
  exact ⟨by rw [HV.out]; rfl, HB2.out⟩

set_option maxRecDepth 100000 in
set_option maxHeartbeats 2000000 in
theorem rr8 (P : List RT) (a : Option Addr) (c : Nat) (i : Nat) (hi : i < P.length) (n : Int) (s : ByteArray) (w : World) (h : PrgU w (.slice a P.length c) P) (hP : P.length ≤ 20) (hl : P[i].l.length ≤ 200) (hs0 : s.size ≤ 9223372036854775807) :
    Calls Tryd.prog 24 #[.slice a P.length c, .int .i64 i, .agg #[.int .i64 8, .int .i64 n, .string s]] w fun e w' => e = .returned (.bool (rightB ⟨8, n, s⟩ P.length P[i].l.length)) ∧ Below w.heap.size w w' := by
  have HX : Hid ((w.alloc (.cells #[.int .i64 8, .int .i64 n, .string s] 39)).heap[w.heap.size]? = some (.cells #[.int .i64 8, .int .i64 n, .string s] 39 (0, 0))) := heap_alloc_new w _
  have HB : Hid (Below w.heap.size w (w.alloc (.cells #[.int .i64 8, .int .i64 n, .string s] 39))) := (Below.refl _ _).alloc (Nat.le_refl _) _
  have HP := Lib.hid h
  have HW := Lib.hid (word_ne ⟨8, by decide⟩ (by decide))
  clear h
  simp only at HW
  go_enter Tryd.func24, Tryd.ntmps24
  go_upto_region 1 with fail
  generalize w.alloc (.cells #[.int .i64 8, .int .i64 n, .string s] 39) = wd at *
  have x0 := cellAt HX.out 0 rfl
  go_wp2_with fail
  refine (rword_in 8 (by decide) _).mono ?_
  rintro e w2 ⟨rfl, hb2⟩
  have HX2 := Lib.hid ((hb2.block _ (lt_of_heap HX.out)).trans HX.out)
  have HB2 := Lib.hid (HB.out.trans (hb2.mono HB.out.size))
  clear hb2 x0 HX HB
  generalize wordsL.getD 8 ⟨#[]⟩ = wx at *
  have hw := HW.out
  have x0 := cellAt HX2.out 0 rfl
  have x1 := cellAt HX2.out 1 rfl
  have x2 := cellAt HX2.out 2 rfl
  go_wp2_with fail
  refine (rfield_in 8 (by decide) _).mono ?_
  rintro e w3 ⟨rfl, rfl⟩
  simp only [fieldI, Nat.reduceEqDiff, or_false, or_true, false_or, true_or, if_true, if_false]
  go_wp2_with fail
  refine (rfield_in 8 (by decide) _).mono ?_
  rintro e w3 ⟨rfl, rfl⟩
  simp only [fieldI, Nat.reduceEqDiff, or_false, or_true, false_or, true_or, if_true, if_false]
  by_cases hs : s = ⟨#[]⟩
  rotate_left
  · have HV : Hid (rightB ⟨8, n, s⟩ P.length P[i].l.length = false) := by rw [Hid]; unfold rightB; simp [hs]
    have hs1 := str_isEmpty hs
    clear hs
    go_wp2
    go_ret
    exact ⟨by rw [HV.out]; rfl, HB2.out⟩
  subst hs
  by_cases hn : n < 0
  · have HV : Hid (rightB ⟨8, n, ⟨#[]⟩⟩ P.length P[i].l.length = false) := by rw [Hid]; unfold rightB; simp; omega
    have hgd : decide (0 ≤ n) = false := by simp; omega
    go_wp2_with fail
    go_quiet (fail)
    have HBN := Lib.hid (show Below w.heap.size w (w3.drewN nq) from ⟨HB2.out.os, HB2.out.tape, HB2.out.output, HB2.out.size, HB2.out.block⟩)
    go_wp2
    go_ret
    exact ⟨by rw [HV.out]; rfl, HBN.out⟩
  · have HV : Hid (rightB ⟨8, n, ⟨#[]⟩⟩ P.length P[i].l.length = decide (n ≤ (P[i].l.length : Int))) := by rw [Hid]; unfold rightB; simp; omega
    have hn0 : 0 ≤ n := by omega
    have hgd : decide (0 ≤ n) = true := by simp; omega
    obtain ⟨b, o, c', hv, hle, hbl, hcell⟩ := (HP.out.later HB2.out).rd.at (by omega)
    cases hv
    have hc := hcell i (RT.v P[i]) (by rw [List.getElem?_map, List.getElem?_eq_getElem hi]; rfl)
    clear hcell
    unfold RT.v at hc
    go_wp2_with fail
    go_quiet (fail)
    have HBN := Lib.hid (show Below w.heap.size w (w3.drewN nq) from ⟨HB2.out.os, HB2.out.tape, HB2.out.output, HB2.out.size, HB2.out.block⟩)
    go_wp2
    go_ret
    exact ⟨by rw [HV.out]; rfl, HBN.out⟩

set_option maxRecDepth 100000 in
set_option maxHeartbeats 2000000 in
theorem rr9 (P : List RT) (a : Option Addr) (c : Nat) (i : Nat) (hi : i < P.length) (n : Int) (s : ByteArray) (w : World) (h : PrgU w (.slice a P.length c) P) (hP : P.length ≤ 20) (hl : P[i].l.length ≤ 200) (hs0 : s.size ≤ 9223372036854775807) :
    Calls Tryd.prog 24 #[.slice a P.length c, .int .i64 i, .agg #[.int .i64 9, .int .i64 n, .string s]] w fun e w' => e = .returned (.bool (rightB ⟨9, n, s⟩ P.length P[i].l.length)) ∧ Below w.heap.size w w' := by
  have HX : Hid ((w.alloc (.cells #[.int .i64 9, .int .i64 n, .string s] 39)).heap[w.heap.size]? = some (.cells #[.int .i64 9, .int .i64 n, .string s] 39 (0, 0))) := heap_alloc_new w _
  have HB : Hid (Below w.heap.size w (w.alloc (.cells #[.int .i64 9, .int .i64 n, .string s] 39))) := (Below.refl _ _).alloc (Nat.le_refl _) _
  have HP := Lib.hid h
  have HW := Lib.hid (word_ne ⟨9, by decide⟩ (by decide))
  clear h
  simp only at HW
  go_enter Tryd.func24, Tryd.ntmps24
  go_upto_region 1 with fail
  generalize w.alloc (.cells #[.int .i64 9, .int .i64 n, .string s] 39) = wd at *
  have x0 := cellAt HX.out 0 rfl
  go_wp2_with fail
  refine (rword_in 9 (by decide) _).mono ?_
  rintro e w2 ⟨rfl, hb2⟩
  have HX2 := Lib.hid ((hb2.block _ (lt_of_heap HX.out)).trans HX.out)
  have HB2 := Lib.hid (HB.out.trans (hb2.mono HB.out.size))
  clear hb2 x0 HX HB
  generalize wordsL.getD 9 ⟨#[]⟩ = wx at *
  have hw := HW.out
  have x0 := cellAt HX2.out 0 rfl
  have x1 := cellAt HX2.out 1 rfl
  have x2 := cellAt HX2.out 2 rfl
  go_wp2_with fail
  refine (rfield_in 9 (by decide) _).mono ?_
  rintro e w3 ⟨rfl, rfl⟩
  simp only [fieldI, Nat.reduceEqDiff, or_false, or_true, false_or, true_or, if_true, if_false]
  go_wp2_with fail
  refine (rfield_in 9 (by decide) _).mono ?_
  rintro e w3 ⟨rfl, rfl⟩
  simp only [fieldI, Nat.reduceEqDiff, or_false, or_true, false_or, true_or, if_true, if_false]
  by_cases hs : s = ⟨#[]⟩
  rotate_left
  · have HV : Hid (rightB ⟨9, n, s⟩ P.length P[i].l.length = false) := by rw [Hid]; unfold rightB; simp [hs]
    have hs1 := str_isEmpty hs
    clear hs
    go_wp2
    go_ret
    exact ⟨by rw [HV.out]; rfl, HB2.out⟩
  subst hs
  by_cases hn : n < 0
  · have HV : Hid (rightB ⟨9, n, ⟨#[]⟩⟩ P.length P[i].l.length = false) := by rw [Hid]; unfold rightB; simp; omega
    have hgd : decide (0 ≤ n) = false := by simp; omega
    go_wp2_with fail
    go_quiet (fail)
    have HBN := Lib.hid (show Below w.heap.size w (w3.drewN nq) from ⟨HB2.out.os, HB2.out.tape, HB2.out.output, HB2.out.size, HB2.out.block⟩)
    go_wp2
    go_ret
    exact ⟨by rw [HV.out]; rfl, HBN.out⟩
  · have HV : Hid (rightB ⟨9, n, ⟨#[]⟩⟩ P.length P[i].l.length = decide (n ≤ (P[i].l.length : Int))) := by rw [Hid]; unfold rightB; simp; omega
    have hn0 : 0 ≤ n := by omega
    have hgd : decide (0 ≤ n) = true := by simp; omega
    obtain ⟨b, o, c', hv, hle, hbl, hcell⟩ := (HP.out.later HB2.out).rd.at (by omega)
    cases hv
    have hc := hcell i (RT.v P[i]) (by rw [List.getElem?_map, List.getElem?_eq_getElem hi]; rfl)
    clear hcell
    unfold RT.v at hc
    go_wp2_with fail
    go_quiet (fail)
    have HBN := Lib.hid (show Below w.heap.size w (w3.drewN nq) from ⟨HB2.out.os, HB2.out.tape, HB2.out.output, HB2.out.size, HB2.out.block⟩)
    go_wp2
    go_ret
    exact ⟨by rw [HV.out]; rfl, HBN.out⟩

set_option maxRecDepth 100000 in
set_option maxHeartbeats 2000000 in
theorem rr10 (P : List RT) (a : Option Addr) (c : Nat) (i : Nat) (hi : i < P.length) (n : Int) (s : ByteArray) (w : World) (h : PrgU w (.slice a P.length c) P) (hP : P.length ≤ 20) (hl : P[i].l.length ≤ 200) (hs0 : s.size ≤ 9223372036854775807) :
    Calls Tryd.prog 24 #[.slice a P.length c, .int .i64 i, .agg #[.int .i64 10, .int .i64 n, .string s]] w fun e w' => e = .returned (.bool (rightB ⟨10, n, s⟩ P.length P[i].l.length)) ∧ Below w.heap.size w w' := by
  have HX : Hid ((w.alloc (.cells #[.int .i64 10, .int .i64 n, .string s] 39)).heap[w.heap.size]? = some (.cells #[.int .i64 10, .int .i64 n, .string s] 39 (0, 0))) := heap_alloc_new w _
  have HB : Hid (Below w.heap.size w (w.alloc (.cells #[.int .i64 10, .int .i64 n, .string s] 39))) := (Below.refl _ _).alloc (Nat.le_refl _) _
  have HP := Lib.hid h
  have HW := Lib.hid (word_ne ⟨10, by decide⟩ (by decide))
  clear h
  simp only at HW
  go_enter Tryd.func24, Tryd.ntmps24
  go_upto_region 1 with fail
  generalize w.alloc (.cells #[.int .i64 10, .int .i64 n, .string s] 39) = wd at *
  have x0 := cellAt HX.out 0 rfl
  go_wp2_with fail
  refine (rword_in 10 (by decide) _).mono ?_
  rintro e w2 ⟨rfl, hb2⟩
  have HX2 := Lib.hid ((hb2.block _ (lt_of_heap HX.out)).trans HX.out)
  have HB2 := Lib.hid (HB.out.trans (hb2.mono HB.out.size))
  clear hb2 x0 HX HB
  generalize wordsL.getD 10 ⟨#[]⟩ = wx at *
  have hw := HW.out
  have x0 := cellAt HX2.out 0 rfl
  have x1 := cellAt HX2.out 1 rfl
  have x2 := cellAt HX2.out 2 rfl
  go_wp2_with fail
  refine (rfield_in 10 (by decide) _).mono ?_
  rintro e w3 ⟨rfl, rfl⟩
  simp only [fieldI, Nat.reduceEqDiff, or_false, or_true, false_or, true_or, if_true, if_false]
  by_cases hn : n = 0
  rotate_left
  · have HV : Hid (rightB ⟨10, n, s⟩ P.length P[i].l.length = false) := by rw [Hid]; unfold rightB; simp [hn]
    have hn2 : (n != 0) = true := by rw [bne_iff_ne]; exact hn
    clear hn
    go_wp2
    go_ret
    exact ⟨by rw [HV.out]; rfl, HB2.out⟩
  subst hn
  go_wp2_with fail
  refine (rfield_in 10 (by decide) _).mono ?_
  rintro e w3 ⟨rfl, rfl⟩
  simp only [fieldI, Nat.reduceEqDiff, or_false, or_true, false_or, true_or, if_true, if_false]
  by_cases hz : 1000 < (s.size : Int)
  · have HV : Hid (rightB ⟨10, 0, s⟩ P.length P[i].l.length = false) := by rw [Hid]; unfold rightB; simp; omega
    go_wp2
    go_ret
    exact ⟨by rw [HV.out]; rfl, HB2.out⟩
  have HV : Hid (rightB ⟨10, 0, s⟩ P.length P[i].l.length = true) := by rw [Hid]; unfold rightB; simp; omega
  go_wp2
  go_ret
  exact ⟨by rw [HV.out]; rfl, HB2.out⟩

set_option maxRecDepth 100000 in
set_option maxHeartbeats 2000000 in
theorem rr11 (P : List RT) (a : Option Addr) (c : Nat) (i : Nat) (hi : i < P.length) (n : Int) (s : ByteArray) (w : World) (h : PrgU w (.slice a P.length c) P) (hP : P.length ≤ 20) (hl : P[i].l.length ≤ 200) (hs0 : s.size ≤ 9223372036854775807) :
    Calls Tryd.prog 24 #[.slice a P.length c, .int .i64 i, .agg #[.int .i64 11, .int .i64 n, .string s]] w fun e w' => e = .returned (.bool (rightB ⟨11, n, s⟩ P.length P[i].l.length)) ∧ Below w.heap.size w w' := by
  have HX : Hid ((w.alloc (.cells #[.int .i64 11, .int .i64 n, .string s] 39)).heap[w.heap.size]? = some (.cells #[.int .i64 11, .int .i64 n, .string s] 39 (0, 0))) := heap_alloc_new w _
  have HB : Hid (Below w.heap.size w (w.alloc (.cells #[.int .i64 11, .int .i64 n, .string s] 39))) := (Below.refl _ _).alloc (Nat.le_refl _) _
  have HP := Lib.hid h
  have HW := Lib.hid (word_ne ⟨11, by decide⟩ (by decide))
  clear h
  simp only at HW
  go_enter Tryd.func24, Tryd.ntmps24
  go_upto_region 1 with fail
  generalize w.alloc (.cells #[.int .i64 11, .int .i64 n, .string s] 39) = wd at *
  have x0 := cellAt HX.out 0 rfl
  go_wp2_with fail
  refine (rword_in 11 (by decide) _).mono ?_
  rintro e w2 ⟨rfl, hb2⟩
  have HX2 := Lib.hid ((hb2.block _ (lt_of_heap HX.out)).trans HX.out)
  have HB2 := Lib.hid (HB.out.trans (hb2.mono HB.out.size))
  clear hb2 x0 HX HB
  generalize wordsL.getD 11 ⟨#[]⟩ = wx at *
  have hw := HW.out
  have x0 := cellAt HX2.out 0 rfl
  have x1 := cellAt HX2.out 1 rfl
  have x2 := cellAt HX2.out 2 rfl
  go_wp2_with fail
  refine (rfield_in 11 (by decide) _).mono ?_
  rintro e w3 ⟨rfl, rfl⟩
  simp only [fieldI, Nat.reduceEqDiff, or_false, or_true, false_or, true_or, if_true, if_false]
  by_cases hn : n = 0
  rotate_left
  · have HV : Hid (rightB ⟨11, n, s⟩ P.length P[i].l.length = false) := by rw [Hid]; unfold rightB; simp [hn]
    have hn2 : (n != 0) = true := by rw [bne_iff_ne]; exact hn
    clear hn
    go_wp2
    go_ret
    exact ⟨by rw [HV.out]; rfl, HB2.out⟩
  subst hn
  go_wp2_with fail
  refine (rfield_in 11 (by decide) _).mono ?_
  rintro e w3 ⟨rfl, rfl⟩
  simp only [fieldI, Nat.reduceEqDiff, or_false, or_true, false_or, true_or, if_true, if_false]
  by_cases hs : s = ⟨#[]⟩
  rotate_left
  · have HV : Hid (rightB ⟨11, 0, s⟩ P.length P[i].l.length = false) := by rw [Hid]; unfold rightB; simp [hs]
    have hs1 := str_isEmpty hs
    clear hs
    go_wp2
    go_ret
    exact ⟨by rw [HV.out]; rfl, HB2.out⟩
  subst hs
  have HV : Hid (rightB ⟨11, 0, ⟨#[]⟩⟩ P.length P[i].l.length = true) := by rw [Hid]; unfold rightB; simp
  go_wp2
  go_ret
  exact ⟨by rw [HV.out]; rfl, HB2.out⟩

set_option maxRecDepth 100000 in
set_option maxHeartbeats 2000000 in
theorem rr12 (P : List RT) (a : Option Addr) (c : Nat) (i : Nat) (hi : i < P.length) (n : Int) (s : ByteArray) (w : World) (h : PrgU w (.slice a P.length c) P) (hP : P.length ≤ 20) (hl : P[i].l.length ≤ 200) (hs0 : s.size ≤ 9223372036854775807) :
    Calls Tryd.prog 24 #[.slice a P.length c, .int .i64 i, .agg #[.int .i64 12, .int .i64 n, .string s]] w fun e w' => e = .returned (.bool (rightB ⟨12, n, s⟩ P.length P[i].l.length)) ∧ Below w.heap.size w w' := by
  have HX : Hid ((w.alloc (.cells #[.int .i64 12, .int .i64 n, .string s] 39)).heap[w.heap.size]? = some (.cells #[.int .i64 12, .int .i64 n, .string s] 39 (0, 0))) := heap_alloc_new w _
  have HB : Hid (Below w.heap.size w (w.alloc (.cells #[.int .i64 12, .int .i64 n, .string s] 39))) := (Below.refl _ _).alloc (Nat.le_refl _) _
  have HP := Lib.hid h
  have HW := Lib.hid (word_ne ⟨12, by decide⟩ (by decide))
  clear h
  simp only at HW
  go_enter Tryd.func24, Tryd.ntmps24
  go_upto_region 1 with fail
  generalize w.alloc (.cells #[.int .i64 12, .int .i64 n, .string s] 39) = wd at *
  have x0 := cellAt HX.out 0 rfl
  go_wp2_with fail
  refine (rword_in 12 (by decide) _).mono ?_
  rintro e w2 ⟨rfl, hb2⟩
  have HX2 := Lib.hid ((hb2.block _ (lt_of_heap HX.out)).trans HX.out)
  have HB2 := Lib.hid (HB.out.trans (hb2.mono HB.out.size))
  clear hb2 x0 HX HB
  generalize wordsL.getD 12 ⟨#[]⟩ = wx at *
  have hw := HW.out
  have x0 := cellAt HX2.out 0 rfl
  have x1 := cellAt HX2.out 1 rfl
  have x2 := cellAt HX2.out 2 rfl
  go_wp2_with fail
  refine (rfield_in 12 (by decide) _).mono ?_
  rintro e w3 ⟨rfl, rfl⟩
  simp only [fieldI, Nat.reduceEqDiff, or_false, or_true, false_or, true_or, if_true, if_false]
  by_cases hn : n = 0
  rotate_left
  · have HV : Hid (rightB ⟨12, n, s⟩ P.length P[i].l.length = false) := by rw [Hid]; unfold rightB; simp [hn]
    have hn2 : (n != 0) = true := by rw [bne_iff_ne]; exact hn
    clear hn
    go_wp2
    go_ret
    exact ⟨by rw [HV.out]; rfl, HB2.out⟩
  subst hn
  go_wp2_with fail
  refine (rfield_in 12 (by decide) _).mono ?_
  rintro e w3 ⟨rfl, rfl⟩
  simp only [fieldI, Nat.reduceEqDiff, or_false, or_true, false_or, true_or, if_true, if_false]
  by_cases hz : 1000 < (s.size : Int)
  · have HV : Hid (rightB ⟨12, 0, s⟩ P.length P[i].l.length = false) := by rw [Hid]; unfold rightB; simp; omega
    go_wp2
    go_ret
    exact ⟨by rw [HV.out]; rfl, HB2.out⟩
  have HV : Hid (rightB ⟨12, 0, s⟩ P.length P[i].l.length = true) := by rw [Hid]; unfold rightB; simp; omega
  go_wp2
  go_ret
  exact ⟨by rw [HV.out]; rfl, HB2.out⟩

set_option maxRecDepth 100000 in
set_option maxHeartbeats 2000000 in
theorem rr_out (P : List RT) (a : Option Addr) (c : Nat) (i : Nat) (hi : i < P.length) (k : Int) (hk : k < 1 ∨ 12 < k) (n : Int) (s : ByteArray) (w : World) :
    Calls Tryd.prog 24 #[.slice a P.length c, .int .i64 i, .agg #[.int .i64 k, .int .i64 n, .string s]] w fun e w' => e = .returned (.bool (rightB ⟨k, n, s⟩ P.length P[i].l.length)) ∧ Below w.heap.size w w' := by
  have HX : Hid ((w.alloc (.cells #[.int .i64 k, .int .i64 n, .string s] 39)).heap[w.heap.size]? = some (.cells #[.int .i64 k, .int .i64 n, .string s] 39 (0, 0))) := heap_alloc_new w _
  have HB : Hid (Below w.heap.size w (w.alloc (.cells #[.int .i64 k, .int .i64 n, .string s] 39))) := (Below.refl _ _).alloc (Nat.le_refl _) _
  have HV : Hid (rightB ⟨k, n, s⟩ P.length P[i].l.length = false) := by
    rw [Hid]; unfold rightB
    simp only
    rw [if_neg (by omega), if_neg (by omega), if_neg (by omega), if_neg (by omega), if_neg (by omega), if_neg (by omega), if_neg (by omega)]
  have HK := Lib.hid hk
  clear hk
  go_enter Tryd.func24, Tryd.ntmps24
  go_upto_region 1 with fail
  generalize w.alloc (.cells #[.int .i64 k, .int .i64 n, .string s] 39) = wd at *
  have x0 := cellAt HX.out 0 rfl
  go_wp2_with fail
  refine (rword_out k HK.out _).mono ?_
  rintro e w2 ⟨rfl, hb2⟩
  have HB2 := Lib.hid (HB.out.trans (hb2.mono HB.out.size))
  clear hb2 x0 HX HB
  go_wp2
  go_ret
  exact ⟨by rw [HV.out]; rfl, HB2.out⟩

theorem rr_any (P : List RT) (a : Option Addr) (c : Nat) (i : Nat) (hi : i < P.length) (x : ST) (hx : x.ok) (w : World) (h : PrgU w (.slice a P.length c) P) (hP : P.length ≤ 20) (hl : P[i].l.length ≤ 200) :
    Calls Tryd.prog 24 #[.slice a P.length c, .int .i64 i, x.val] w fun e w' => e = .returned (.bool (rightB x P.length P[i].l.length)) ∧ Below w.heap.size w w' := by
  obtain ⟨k, n, s⟩ := x
  have hs0 : s.size ≤ 9223372036854775807 := by have h := hx.2.2; unfold maxLen at h; exact h
  by_cases hk : k < 1 ∨ 12 < k
  · exact rr_out P a c i hi k hk n s w
  · have hc : k = 1 ∨ k = 2 ∨ k = 3 ∨ k = 4 ∨ k = 5 ∨ k = 6 ∨ k = 7 ∨ k = 8 ∨ k = 9 ∨ k = 10 ∨ k = 11 ∨ k = 12 := by omega
    rcases hc with rfl | rfl | rfl | rfl | rfl | rfl | rfl | rfl | rfl | rfl | rfl | rfl
    · exact rr1 P a c i hi n s w h hP hl hs0
    · exact rr2 P a c i hi n s w h hP hl hs0
    · exact rr3 P a c i hi n s w h hP hl hs0
    · exact rr4 P a c i hi n s w h hP hl hs0
    · exact rr5 P a c i hi n s w h hP hl hs0
    · exact rr6 P a c i hi n s w h hP hl hs0
    · exact rr7 P a c i hi n s w h hP hl hs0
    · exact rr8 P a c i hi n s w h hP hl hs0
    · exact rr9 P a c i hi n s w h hP hl hs0
    · exact rr10 P a c i hi n s w h hP hl hs0
    · exact rr11 P a c i hi n s w h hP hl hs0
    · exact rr12 P a c i hi n s w h hP hl hs0
end Go.Proofs.YtoocagpjcbagoaaDoor
