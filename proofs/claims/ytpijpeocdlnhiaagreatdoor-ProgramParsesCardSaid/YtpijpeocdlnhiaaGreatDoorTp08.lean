/- Texts for programTexts_holds, joined: PRef2, PRCheck. -/
import Derived.Test.YtpijpeocdlnhiaaGreatDoorTp05
import Derived.Test.YtpijpeocdlnhiaaGreatDoorTp07
set_option linter.unusedVariables false
set_option linter.unusedSimpArgs false
namespace Go.Proofs.YtpijpeocdlnhiaaGreatDoor
open Go.RowKit
theorem word_ne : ∀ k : Fin 13, k.val ≠ 0 → (wordsL.getD k.val ⟨#[]⟩).toList.isEmpty = false := by decide +kernel
theorem str_isEmpty {s : ByteArray} (h : ¬ s = ⟨#[]⟩) : s.toList.isEmpty = false := by simpa using str_empty h
set_option maxRecDepth 100000 in
set_option maxHeartbeats 2000000 in
theorem rr1 (P : List RT) (a : Option Addr) (c : Nat) (i : Nat) (hi : i < P.length) (n : Int) (s : ByteArray) (w : World) (h : PrgU w (.slice a P.length c) P) (hP : P.length ≤ 20) (hl : P[i].l.length ≤ 200) (hs0 : s.size ≤ 9223372036854775807) :
    Calls Tryz.prog 54 #[.slice a P.length c, .int .i64 i, .agg #[.int .i64 1, .int .i64 n, .string s]] w fun e w' => e = .returned (.bool (rightB ⟨1, n, s⟩ P.length P[i].l.length)) ∧ Below w.heap.size w w' := by
  have HX : Hid ((w.alloc (.cells #[.int .i64 1, .int .i64 n, .string s] 81)).heap[w.heap.size]? = some (.cells #[.int .i64 1, .int .i64 n, .string s] 81 (0, 0))) := heap_alloc_new w _
  have HB : Hid (Below w.heap.size w (w.alloc (.cells #[.int .i64 1, .int .i64 n, .string s] 81))) := (Below.refl _ _).alloc (Nat.le_refl _) _
  have HP := Lib.hid h
  have HW := Lib.hid (word_ne ⟨1, by decide⟩ (by decide))
  clear h
  simp only at HW
  go_enter Tryz.func54, Tryz.ntmps54
  go_upto_region 1 with fail
  generalize w.alloc (.cells #[.int .i64 1, .int .i64 n, .string s] 81) = wd at *
  have x0 := cellAt HX.out 0 rfl
  go_wp2_with fail
  refine (rword_in 1 (by decide) _).mono ?_
  rintro e w2 ⟨rfl, hb2⟩
  have HX2 := Lib.hid ((hb2.block _ (lt_of_heap HX.out)).trans HX.out)
  have HB2 := Lib.hid (HB.out.trans (hb2.mono HB.out.size))
  clear hb2 x0 HX HB
  generalize wordsL.getD 1 ⟨#[]⟩ = wx at *
  have hw := HW.out
  have x0 := cellAt HX2.out 0 rfl
  have x1 := cellAt HX2.out 1 rfl
  have x2 := cellAt HX2.out 2 rfl
  go_wp2_with fail
  refine (rfield_in 1 (by decide) _).mono ?_
  rintro e w3 ⟨rfl, rfl⟩
  simp only [fieldI, Nat.reduceEqDiff, or_false, or_true, false_or, true_or, if_true, if_false]
  go_wp2_with fail
  refine (rfield_in 1 (by decide) _).mono ?_
  rintro e w3 ⟨rfl, rfl⟩
  simp only [fieldI, Nat.reduceEqDiff, or_false, or_true, false_or, true_or, if_true, if_false]
  by_cases hs : s = ⟨#[]⟩
  rotate_left
  · have HV : Hid (rightB ⟨1, n, s⟩ P.length P[i].l.length = false) := by rw [Hid]; unfold rightB; simp [hs]
    have hs1 := str_isEmpty hs
    clear hs
    go_wp2
    go_ret
    exact ⟨by rw [HV.out]; rfl, HB2.out⟩
  subst hs
  have HV : Hid (rightB ⟨1, n, ⟨#[]⟩⟩ P.length P[i].l.length = true) := by rw [Hid]; unfold rightB; simp
  go_wp2
  go_ret
  exact ⟨by rw [HV.out]; rfl, HB2.out⟩
set_option maxRecDepth 100000 in
set_option maxHeartbeats 2000000 in
theorem rr2 (P : List RT) (a : Option Addr) (c : Nat) (i : Nat) (hi : i < P.length) (n : Int) (s : ByteArray) (w : World) (h : PrgU w (.slice a P.length c) P) (hP : P.length ≤ 20) (hl : P[i].l.length ≤ 200) (hs0 : s.size ≤ 9223372036854775807) :
    Calls Tryz.prog 54 #[.slice a P.length c, .int .i64 i, .agg #[.int .i64 2, .int .i64 n, .string s]] w fun e w' => e = .returned (.bool (rightB ⟨2, n, s⟩ P.length P[i].l.length)) ∧ Below w.heap.size w w' := by
  have HX : Hid ((w.alloc (.cells #[.int .i64 2, .int .i64 n, .string s] 81)).heap[w.heap.size]? = some (.cells #[.int .i64 2, .int .i64 n, .string s] 81 (0, 0))) := heap_alloc_new w _
  have HB : Hid (Below w.heap.size w (w.alloc (.cells #[.int .i64 2, .int .i64 n, .string s] 81))) := (Below.refl _ _).alloc (Nat.le_refl _) _
  have HP := Lib.hid h
  have HW := Lib.hid (word_ne ⟨2, by decide⟩ (by decide))
  clear h
  simp only at HW
  go_enter Tryz.func54, Tryz.ntmps54
  go_upto_region 1 with fail
  generalize w.alloc (.cells #[.int .i64 2, .int .i64 n, .string s] 81) = wd at *
  have x0 := cellAt HX.out 0 rfl
  go_wp2_with fail
  refine (rword_in 2 (by decide) _).mono ?_
  rintro e w2 ⟨rfl, hb2⟩
  have HX2 := Lib.hid ((hb2.block _ (lt_of_heap HX.out)).trans HX.out)
  have HB2 := Lib.hid (HB.out.trans (hb2.mono HB.out.size))
  clear hb2 x0 HX HB
  generalize wordsL.getD 2 ⟨#[]⟩ = wx at *
  have hw := HW.out
  have x0 := cellAt HX2.out 0 rfl
  have x1 := cellAt HX2.out 1 rfl
  have x2 := cellAt HX2.out 2 rfl
  go_wp2_with fail
  refine (rfield_in 2 (by decide) _).mono ?_
  rintro e w3 ⟨rfl, rfl⟩
  simp only [fieldI, Nat.reduceEqDiff, or_false, or_true, false_or, true_or, if_true, if_false]
  go_wp2_with fail
  refine (rfield_in 2 (by decide) _).mono ?_
  rintro e w3 ⟨rfl, rfl⟩
  simp only [fieldI, Nat.reduceEqDiff, or_false, or_true, false_or, true_or, if_true, if_false]
  by_cases hs : s = ⟨#[]⟩
  rotate_left
  · have HV : Hid (rightB ⟨2, n, s⟩ P.length P[i].l.length = false) := by rw [Hid]; unfold rightB; simp [hs]
    have hs1 := str_isEmpty hs
    clear hs
    go_wp2
    go_ret
    exact ⟨by rw [HV.out]; rfl, HB2.out⟩
  subst hs
  have HV : Hid (rightB ⟨2, n, ⟨#[]⟩⟩ P.length P[i].l.length = true) := by rw [Hid]; unfold rightB; simp
  go_wp2
  go_ret
  exact ⟨by rw [HV.out]; rfl, HB2.out⟩
set_option maxRecDepth 100000 in
set_option maxHeartbeats 2000000 in
theorem rr3 (P : List RT) (a : Option Addr) (c : Nat) (i : Nat) (hi : i < P.length) (n : Int) (s : ByteArray) (w : World) (h : PrgU w (.slice a P.length c) P) (hP : P.length ≤ 20) (hl : P[i].l.length ≤ 200) (hs0 : s.size ≤ 9223372036854775807) :
    Calls Tryz.prog 54 #[.slice a P.length c, .int .i64 i, .agg #[.int .i64 3, .int .i64 n, .string s]] w fun e w' => e = .returned (.bool (rightB ⟨3, n, s⟩ P.length P[i].l.length)) ∧ Below w.heap.size w w' := by
  have HX : Hid ((w.alloc (.cells #[.int .i64 3, .int .i64 n, .string s] 81)).heap[w.heap.size]? = some (.cells #[.int .i64 3, .int .i64 n, .string s] 81 (0, 0))) := heap_alloc_new w _
  have HB : Hid (Below w.heap.size w (w.alloc (.cells #[.int .i64 3, .int .i64 n, .string s] 81))) := (Below.refl _ _).alloc (Nat.le_refl _) _
  have HP := Lib.hid h
  have HW := Lib.hid (word_ne ⟨3, by decide⟩ (by decide))
  clear h
  simp only at HW
  go_enter Tryz.func54, Tryz.ntmps54
  go_upto_region 1 with fail
  generalize w.alloc (.cells #[.int .i64 3, .int .i64 n, .string s] 81) = wd at *
  have x0 := cellAt HX.out 0 rfl
  go_wp2_with fail
  refine (rword_in 3 (by decide) _).mono ?_
  rintro e w2 ⟨rfl, hb2⟩
  have HX2 := Lib.hid ((hb2.block _ (lt_of_heap HX.out)).trans HX.out)
  have HB2 := Lib.hid (HB.out.trans (hb2.mono HB.out.size))
  clear hb2 x0 HX HB
  generalize wordsL.getD 3 ⟨#[]⟩ = wx at *
  have hw := HW.out
  have x0 := cellAt HX2.out 0 rfl
  have x1 := cellAt HX2.out 1 rfl
  have x2 := cellAt HX2.out 2 rfl
  go_wp2_with fail
  refine (rfield_in 3 (by decide) _).mono ?_
  rintro e w3 ⟨rfl, rfl⟩
  simp only [fieldI, Nat.reduceEqDiff, or_false, or_true, false_or, true_or, if_true, if_false]
  by_cases hn : n = 0
  rotate_left
  · have HV : Hid (rightB ⟨3, n, s⟩ P.length P[i].l.length = false) := by rw [Hid]; unfold rightB; simp [hn]
    have hn2 : (n != 0) = true := by rw [bne_iff_ne]; exact hn
    clear hn
    go_wp2
    go_ret
    exact ⟨by rw [HV.out]; rfl, HB2.out⟩
  subst hn
  go_wp2_with fail
  refine (rfield_in 3 (by decide) _).mono ?_
  rintro e w3 ⟨rfl, rfl⟩
  simp only [fieldI, Nat.reduceEqDiff, or_false, or_true, false_or, true_or, if_true, if_false]
  by_cases hz : 1000 < (s.size : Int)
  · have HV : Hid (rightB ⟨3, 0, s⟩ P.length P[i].l.length = false) := by rw [Hid]; unfold rightB; simp; omega
    go_wp2
    go_ret
    exact ⟨by rw [HV.out]; rfl, HB2.out⟩
  by_cases hs : s = ⟨#[]⟩
  · subst hs
    have HV : Hid (rightB ⟨3, 0, ⟨#[]⟩⟩ P.length P[i].l.length = false) := by rw [Hid]; unfold rightB; simp
    go_wp2
    go_ret
    exact ⟨by rw [HV.out]; rfl, HB2.out⟩
  · have HV : Hid (rightB ⟨3, 0, s⟩ P.length P[i].l.length = true) := by rw [Hid]; unfold rightB; simp [hs]; omega
    have hs1 := str_isEmpty hs
    clear hs
    go_wp2
    go_ret
    exact ⟨by rw [HV.out]; rfl, HB2.out⟩
set_option maxRecDepth 100000 in
set_option maxHeartbeats 2000000 in
theorem rr4 (P : List RT) (a : Option Addr) (c : Nat) (i : Nat) (hi : i < P.length) (n : Int) (s : ByteArray) (w : World) (h : PrgU w (.slice a P.length c) P) (hP : P.length ≤ 20) (hl : P[i].l.length ≤ 200) (hs0 : s.size ≤ 9223372036854775807) :
    Calls Tryz.prog 54 #[.slice a P.length c, .int .i64 i, .agg #[.int .i64 4, .int .i64 n, .string s]] w fun e w' => e = .returned (.bool (rightB ⟨4, n, s⟩ P.length P[i].l.length)) ∧ Below w.heap.size w w' := by
  have HX : Hid ((w.alloc (.cells #[.int .i64 4, .int .i64 n, .string s] 81)).heap[w.heap.size]? = some (.cells #[.int .i64 4, .int .i64 n, .string s] 81 (0, 0))) := heap_alloc_new w _
  have HB : Hid (Below w.heap.size w (w.alloc (.cells #[.int .i64 4, .int .i64 n, .string s] 81))) := (Below.refl _ _).alloc (Nat.le_refl _) _
  have HP := Lib.hid h
  have HW := Lib.hid (word_ne ⟨4, by decide⟩ (by decide))
  clear h
  simp only at HW
  go_enter Tryz.func54, Tryz.ntmps54
  go_upto_region 1 with fail
  generalize w.alloc (.cells #[.int .i64 4, .int .i64 n, .string s] 81) = wd at *
  have x0 := cellAt HX.out 0 rfl
  go_wp2_with fail
  refine (rword_in 4 (by decide) _).mono ?_
  rintro e w2 ⟨rfl, hb2⟩
  have HX2 := Lib.hid ((hb2.block _ (lt_of_heap HX.out)).trans HX.out)
  have HB2 := Lib.hid (HB.out.trans (hb2.mono HB.out.size))
  clear hb2 x0 HX HB
  generalize wordsL.getD 4 ⟨#[]⟩ = wx at *
  have hw := HW.out
  have x0 := cellAt HX2.out 0 rfl
  have x1 := cellAt HX2.out 1 rfl
  have x2 := cellAt HX2.out 2 rfl
  go_wp2_with fail
  refine (rfield_in 4 (by decide) _).mono ?_
  rintro e w3 ⟨rfl, rfl⟩
  simp only [fieldI, Nat.reduceEqDiff, or_false, or_true, false_or, true_or, if_true, if_false]
  go_wp2_with fail
  refine (rfield_in 4 (by decide) _).mono ?_
  rintro e w3 ⟨rfl, rfl⟩
  simp only [fieldI, Nat.reduceEqDiff, or_false, or_true, false_or, true_or, if_true, if_false]
  by_cases hs : s = ⟨#[]⟩
  rotate_left
  · have HV : Hid (rightB ⟨4, n, s⟩ P.length P[i].l.length = false) := by rw [Hid]; unfold rightB; simp [hs]
    have hs1 := str_isEmpty hs
    clear hs
    go_wp2
    go_ret
    exact ⟨by rw [HV.out]; rfl, HB2.out⟩
  subst hs
  have HV : Hid (rightB ⟨4, n, ⟨#[]⟩⟩ P.length P[i].l.length = decide (0 ≤ n)) := by rw [Hid]; unfold rightB; simp
  go_wp2
  go_ret
  exact ⟨by rw [HV.out]; rfl, HB2.out⟩
set_option maxRecDepth 100000 in
set_option maxHeartbeats 2000000 in
theorem rr5 (P : List RT) (a : Option Addr) (c : Nat) (i : Nat) (hi : i < P.length) (n : Int) (s : ByteArray) (w : World) (h : PrgU w (.slice a P.length c) P) (hP : P.length ≤ 20) (hl : P[i].l.length ≤ 200) (hs0 : s.size ≤ 9223372036854775807) :
    Calls Tryz.prog 54 #[.slice a P.length c, .int .i64 i, .agg #[.int .i64 5, .int .i64 n, .string s]] w fun e w' => e = .returned (.bool (rightB ⟨5, n, s⟩ P.length P[i].l.length)) ∧ Below w.heap.size w w' := by
  have HX : Hid ((w.alloc (.cells #[.int .i64 5, .int .i64 n, .string s] 81)).heap[w.heap.size]? = some (.cells #[.int .i64 5, .int .i64 n, .string s] 81 (0, 0))) := heap_alloc_new w _
  have HB : Hid (Below w.heap.size w (w.alloc (.cells #[.int .i64 5, .int .i64 n, .string s] 81))) := (Below.refl _ _).alloc (Nat.le_refl _) _
  have HP := Lib.hid h
  have HW := Lib.hid (word_ne ⟨5, by decide⟩ (by decide))
  clear h
  simp only at HW
  go_enter Tryz.func54, Tryz.ntmps54
  go_upto_region 1 with fail
  generalize w.alloc (.cells #[.int .i64 5, .int .i64 n, .string s] 81) = wd at *
  have x0 := cellAt HX.out 0 rfl
  go_wp2_with fail
  refine (rword_in 5 (by decide) _).mono ?_
  rintro e w2 ⟨rfl, hb2⟩
  have HX2 := Lib.hid ((hb2.block _ (lt_of_heap HX.out)).trans HX.out)
  have HB2 := Lib.hid (HB.out.trans (hb2.mono HB.out.size))
  clear hb2 x0 HX HB
  generalize wordsL.getD 5 ⟨#[]⟩ = wx at *
  have hw := HW.out
  have x0 := cellAt HX2.out 0 rfl
  have x1 := cellAt HX2.out 1 rfl
  have x2 := cellAt HX2.out 2 rfl
  go_wp2_with fail
  refine (rfield_in 5 (by decide) _).mono ?_
  rintro e w3 ⟨rfl, rfl⟩
  simp only [fieldI, Nat.reduceEqDiff, or_false, or_true, false_or, true_or, if_true, if_false]
  by_cases hn : n = 0
  rotate_left
  · have HV : Hid (rightB ⟨5, n, s⟩ P.length P[i].l.length = false) := by rw [Hid]; unfold rightB; simp [hn]
    have hn2 : (n != 0) = true := by rw [bne_iff_ne]; exact hn
    clear hn
    go_wp2
    go_ret
    exact ⟨by rw [HV.out]; rfl, HB2.out⟩
  subst hn
  go_wp2_with fail
  refine (rfield_in 5 (by decide) _).mono ?_
  rintro e w3 ⟨rfl, rfl⟩
  simp only [fieldI, Nat.reduceEqDiff, or_false, or_true, false_or, true_or, if_true, if_false]
  by_cases hz : 1000 < (s.size : Int)
  · have HV : Hid (rightB ⟨5, 0, s⟩ P.length P[i].l.length = false) := by rw [Hid]; unfold rightB; simp; omega
    go_wp2
    go_ret
    exact ⟨by rw [HV.out]; rfl, HB2.out⟩
  by_cases hs : s = ⟨#[]⟩
  · subst hs
    have HV : Hid (rightB ⟨5, 0, ⟨#[]⟩⟩ P.length P[i].l.length = false) := by rw [Hid]; unfold rightB; simp
    go_wp2
    go_ret
    exact ⟨by rw [HV.out]; rfl, HB2.out⟩
  · have HV : Hid (rightB ⟨5, 0, s⟩ P.length P[i].l.length = true) := by rw [Hid]; unfold rightB; simp [hs]; omega
    have hs1 := str_isEmpty hs
    clear hs
    go_wp2
    go_ret
    exact ⟨by rw [HV.out]; rfl, HB2.out⟩
set_option maxRecDepth 100000 in
set_option maxHeartbeats 2000000 in
theorem rr6 (P : List RT) (a : Option Addr) (c : Nat) (i : Nat) (hi : i < P.length) (n : Int) (s : ByteArray) (w : World) (h : PrgU w (.slice a P.length c) P) (hP : P.length ≤ 20) (hl : P[i].l.length ≤ 200) (hs0 : s.size ≤ 9223372036854775807) :
    Calls Tryz.prog 54 #[.slice a P.length c, .int .i64 i, .agg #[.int .i64 6, .int .i64 n, .string s]] w fun e w' => e = .returned (.bool (rightB ⟨6, n, s⟩ P.length P[i].l.length)) ∧ Below w.heap.size w w' := by
  have HX : Hid ((w.alloc (.cells #[.int .i64 6, .int .i64 n, .string s] 81)).heap[w.heap.size]? = some (.cells #[.int .i64 6, .int .i64 n, .string s] 81 (0, 0))) := heap_alloc_new w _
  have HB : Hid (Below w.heap.size w (w.alloc (.cells #[.int .i64 6, .int .i64 n, .string s] 81))) := (Below.refl _ _).alloc (Nat.le_refl _) _
  have HP := Lib.hid h
  have HW := Lib.hid (word_ne ⟨6, by decide⟩ (by decide))
  clear h
  simp only at HW
  go_enter Tryz.func54, Tryz.ntmps54
  go_upto_region 1 with fail
  generalize w.alloc (.cells #[.int .i64 6, .int .i64 n, .string s] 81) = wd at *
  have x0 := cellAt HX.out 0 rfl
  go_wp2_with fail
  refine (rword_in 6 (by decide) _).mono ?_
  rintro e w2 ⟨rfl, hb2⟩
  have HX2 := Lib.hid ((hb2.block _ (lt_of_heap HX.out)).trans HX.out)
  have HB2 := Lib.hid (HB.out.trans (hb2.mono HB.out.size))
  clear hb2 x0 HX HB
  generalize wordsL.getD 6 ⟨#[]⟩ = wx at *
  have hw := HW.out
  have x0 := cellAt HX2.out 0 rfl
  have x1 := cellAt HX2.out 1 rfl
  have x2 := cellAt HX2.out 2 rfl
  go_wp2_with fail
  refine (rfield_in 6 (by decide) _).mono ?_
  rintro e w3 ⟨rfl, rfl⟩
  simp only [fieldI, Nat.reduceEqDiff, or_false, or_true, false_or, true_or, if_true, if_false]
  go_wp2_with fail
  refine (rfield_in 6 (by decide) _).mono ?_
  rintro e w3 ⟨rfl, rfl⟩
  simp only [fieldI, Nat.reduceEqDiff, or_false, or_true, false_or, true_or, if_true, if_false]
  by_cases hs : s = ⟨#[]⟩
  rotate_left
  · have HV : Hid (rightB ⟨6, n, s⟩ P.length P[i].l.length = false) := by rw [Hid]; unfold rightB; simp [hs]
    have hs1 := str_isEmpty hs
    clear hs
    go_wp2
    go_ret
    exact ⟨by rw [HV.out]; rfl, HB2.out⟩
  subst hs
  by_cases hn : n < 0
  · have HV : Hid (rightB ⟨6, n, ⟨#[]⟩⟩ P.length P[i].l.length = false) := by rw [Hid]; unfold rightB; simp; omega
    go_wp2
    go_ret
    exact ⟨by rw [HV.out]; rfl, HB2.out⟩
  · have HV : Hid (rightB ⟨6, n, ⟨#[]⟩⟩ P.length P[i].l.length = decide (n < (P.length : Int))) := by rw [Hid]; unfold rightB; rw [Bool.eq_iff_iff]; simp; omega
    go_wp2
    go_ret
    exact ⟨by rw [HV.out]; rfl, HB2.out⟩
set_option maxRecDepth 100000 in
set_option maxHeartbeats 2000000 in
theorem rr7 (P : List RT) (a : Option Addr) (c : Nat) (i : Nat) (hi : i < P.length) (n : Int) (s : ByteArray) (w : World) (h : PrgU w (.slice a P.length c) P) (hP : P.length ≤ 20) (hl : P[i].l.length ≤ 200) (hs0 : s.size ≤ 9223372036854775807) :
    Calls Tryz.prog 54 #[.slice a P.length c, .int .i64 i, .agg #[.int .i64 7, .int .i64 n, .string s]] w fun e w' => e = .returned (.bool (rightB ⟨7, n, s⟩ P.length P[i].l.length)) ∧ Below w.heap.size w w' := by
  have HX : Hid ((w.alloc (.cells #[.int .i64 7, .int .i64 n, .string s] 81)).heap[w.heap.size]? = some (.cells #[.int .i64 7, .int .i64 n, .string s] 81 (0, 0))) := heap_alloc_new w _
  have HB : Hid (Below w.heap.size w (w.alloc (.cells #[.int .i64 7, .int .i64 n, .string s] 81))) := (Below.refl _ _).alloc (Nat.le_refl _) _
  have HP := Lib.hid h
  have HW := Lib.hid (word_ne ⟨7, by decide⟩ (by decide))
  clear h
  simp only at HW
  go_enter Tryz.func54, Tryz.ntmps54
  go_upto_region 1 with fail
  generalize w.alloc (.cells #[.int .i64 7, .int .i64 n, .string s] 81) = wd at *
  have x0 := cellAt HX.out 0 rfl
  go_wp2_with fail
  refine (rword_in 7 (by decide) _).mono ?_
  rintro e w2 ⟨rfl, hb2⟩
  have HX2 := Lib.hid ((hb2.block _ (lt_of_heap HX.out)).trans HX.out)
  have HB2 := Lib.hid (HB.out.trans (hb2.mono HB.out.size))
  clear hb2 x0 HX HB
  generalize wordsL.getD 7 ⟨#[]⟩ = wx at *
  have hw := HW.out
  have x0 := cellAt HX2.out 0 rfl
  have x1 := cellAt HX2.out 1 rfl
  have x2 := cellAt HX2.out 2 rfl
  go_wp2_with fail
  refine (rfield_in 7 (by decide) _).mono ?_
  rintro e w3 ⟨rfl, rfl⟩
  simp only [fieldI, Nat.reduceEqDiff, or_false, or_true, false_or, true_or, if_true, if_false]
  by_cases hn : n = 0
  rotate_left
  · have HV : Hid (rightB ⟨7, n, s⟩ P.length P[i].l.length = false) := by rw [Hid]; unfold rightB; simp [hn]
    have hn2 : (n != 0) = true := by rw [bne_iff_ne]; exact hn
    clear hn
    go_wp2
    go_ret
    exact ⟨by rw [HV.out]; rfl, HB2.out⟩
  subst hn
  go_wp2_with fail
  refine (rfield_in 7 (by decide) _).mono ?_
  rintro e w3 ⟨rfl, rfl⟩
  simp only [fieldI, Nat.reduceEqDiff, or_false, or_true, false_or, true_or, if_true, if_false]
  by_cases hs : s = ⟨#[]⟩
  rotate_left
  · have HV : Hid (rightB ⟨7, 0, s⟩ P.length P[i].l.length = false) := by rw [Hid]; unfold rightB; simp [hs]
    have hs1 := str_isEmpty hs
    clear hs
    go_wp2
    go_ret
    exact ⟨by rw [HV.out]; rfl, HB2.out⟩
  subst hs
  have HV : Hid (rightB ⟨7, 0, ⟨#[]⟩⟩ P.length P[i].l.length = true) := by rw [Hid]; unfold rightB; simp
  go_wp2
  go_ret
  exact ⟨by rw [HV.out]; rfl, HB2.out⟩
set_option maxRecDepth 100000 in
set_option maxHeartbeats 2000000 in
theorem rr8 (P : List RT) (a : Option Addr) (c : Nat) (i : Nat) (hi : i < P.length) (n : Int) (s : ByteArray) (w : World) (h : PrgU w (.slice a P.length c) P) (hP : P.length ≤ 20) (hl : P[i].l.length ≤ 200) (hs0 : s.size ≤ 9223372036854775807) :
    Calls Tryz.prog 54 #[.slice a P.length c, .int .i64 i, .agg #[.int .i64 8, .int .i64 n, .string s]] w fun e w' => e = .returned (.bool (rightB ⟨8, n, s⟩ P.length P[i].l.length)) ∧ Below w.heap.size w w' := by
  have HX : Hid ((w.alloc (.cells #[.int .i64 8, .int .i64 n, .string s] 81)).heap[w.heap.size]? = some (.cells #[.int .i64 8, .int .i64 n, .string s] 81 (0, 0))) := heap_alloc_new w _
  have HB : Hid (Below w.heap.size w (w.alloc (.cells #[.int .i64 8, .int .i64 n, .string s] 81))) := (Below.refl _ _).alloc (Nat.le_refl _) _
  have HP := Lib.hid h
  have HW := Lib.hid (word_ne ⟨8, by decide⟩ (by decide))
  clear h
  simp only at HW
  go_enter Tryz.func54, Tryz.ntmps54
  go_upto_region 1 with fail
  generalize w.alloc (.cells #[.int .i64 8, .int .i64 n, .string s] 81) = wd at *
  have x0 := cellAt HX.out 0 rfl
  go_wp2_with fail
  refine (rword_in 8 (by decide) _).mono ?_
  rintro e w2 ⟨rfl, hb2⟩
  have HX2 := Lib.hid ((hb2.block _ (lt_of_heap HX.out)).trans HX.out)
  have HB2 := Lib.hid (HB.out.trans (hb2.mono HB.out.size))
  clear hb2 x0 HX HB
  generalize wordsL.getD 8 ⟨#[]⟩ = wx at *
  have hw := HW.out
  have x0 := cellAt HX2.out 0 rfl
  have x1 := cellAt HX2.out 1 rfl
  have x2 := cellAt HX2.out 2 rfl
  go_wp2_with fail
  refine (rfield_in 8 (by decide) _).mono ?_
  rintro e w3 ⟨rfl, rfl⟩
  simp only [fieldI, Nat.reduceEqDiff, or_false, or_true, false_or, true_or, if_true, if_false]
  go_wp2_with fail
  refine (rfield_in 8 (by decide) _).mono ?_
  rintro e w3 ⟨rfl, rfl⟩
  simp only [fieldI, Nat.reduceEqDiff, or_false, or_true, false_or, true_or, if_true, if_false]
  by_cases hs : s = ⟨#[]⟩
  rotate_left
  · have HV : Hid (rightB ⟨8, n, s⟩ P.length P[i].l.length = false) := by rw [Hid]; unfold rightB; simp [hs]
    have hs1 := str_isEmpty hs
    clear hs
    go_wp2
    go_ret
    exact ⟨by rw [HV.out]; rfl, HB2.out⟩
  subst hs
  by_cases hn : n < 0
  · have HV : Hid (rightB ⟨8, n, ⟨#[]⟩⟩ P.length P[i].l.length = false) := by rw [Hid]; unfold rightB; simp; omega
    have hgd : decide (0 ≤ n) = false := by simp; omega
    go_wp2_with fail
    go_quiet (fail)
    have HBN := Lib.hid (show Below w.heap.size w (w3.drewN nq) from ⟨HB2.out.os, HB2.out.tape, HB2.out.output, HB2.out.size, HB2.out.block⟩)
    go_wp2
    go_ret
    exact ⟨by rw [HV.out]; rfl, HBN.out⟩
  · have HV : Hid (rightB ⟨8, n, ⟨#[]⟩⟩ P.length P[i].l.length = decide (n ≤ (P[i].l.length : Int))) := by rw [Hid]; unfold rightB; simp; omega
    have hn0 : 0 ≤ n := by omega
    have hgd : decide (0 ≤ n) = true := by simp; omega
    obtain ⟨b, o, c', hv, hle, hbl, hcell⟩ := (HP.out.later HB2.out).rd.at (by omega)
    cases hv
    have hc := hcell i (RT.v P[i]) (by rw [List.getElem?_map, List.getElem?_eq_getElem hi]; rfl)
    clear hcell
    unfold RT.v at hc
    go_wp2_with fail
    go_quiet (fail)
    have HBN := Lib.hid (show Below w.heap.size w (w3.drewN nq) from ⟨HB2.out.os, HB2.out.tape, HB2.out.output, HB2.out.size, HB2.out.block⟩)
    go_wp2
    go_ret
    exact ⟨by rw [HV.out]; rfl, HBN.out⟩
set_option maxRecDepth 100000 in
set_option maxHeartbeats 2000000 in
theorem rr9 (P : List RT) (a : Option Addr) (c : Nat) (i : Nat) (hi : i < P.length) (n : Int) (s : ByteArray) (w : World) (h : PrgU w (.slice a P.length c) P) (hP : P.length ≤ 20) (hl : P[i].l.length ≤ 200) (hs0 : s.size ≤ 9223372036854775807) :
    Calls Tryz.prog 54 #[.slice a P.length c, .int .i64 i, .agg #[.int .i64 9, .int .i64 n, .string s]] w fun e w' => e = .returned (.bool (rightB ⟨9, n, s⟩ P.length P[i].l.length)) ∧ Below w.heap.size w w' := by
  have HX : Hid ((w.alloc (.cells #[.int .i64 9, .int .i64 n, .string s] 81)).heap[w.heap.size]? = some (.cells #[.int .i64 9, .int .i64 n, .string s] 81 (0, 0))) := heap_alloc_new w _
  have HB : Hid (Below w.heap.size w (w.alloc (.cells #[.int .i64 9, .int .i64 n, .string s] 81))) := (Below.refl _ _).alloc (Nat.le_refl _) _
  have HP := Lib.hid h
  have HW := Lib.hid (word_ne ⟨9, by decide⟩ (by decide))
  clear h
  simp only at HW
  go_enter Tryz.func54, Tryz.ntmps54
  go_upto_region 1 with fail
  generalize w.alloc (.cells #[.int .i64 9, .int .i64 n, .string s] 81) = wd at *
  have x0 := cellAt HX.out 0 rfl
  go_wp2_with fail
  refine (rword_in 9 (by decide) _).mono ?_
  rintro e w2 ⟨rfl, hb2⟩
  have HX2 := Lib.hid ((hb2.block _ (lt_of_heap HX.out)).trans HX.out)
  have HB2 := Lib.hid (HB.out.trans (hb2.mono HB.out.size))
  clear hb2 x0 HX HB
  generalize wordsL.getD 9 ⟨#[]⟩ = wx at *
  have hw := HW.out
  have x0 := cellAt HX2.out 0 rfl
  have x1 := cellAt HX2.out 1 rfl
  have x2 := cellAt HX2.out 2 rfl
  go_wp2_with fail
  refine (rfield_in 9 (by decide) _).mono ?_
  rintro e w3 ⟨rfl, rfl⟩
  simp only [fieldI, Nat.reduceEqDiff, or_false, or_true, false_or, true_or, if_true, if_false]
  go_wp2_with fail
  refine (rfield_in 9 (by decide) _).mono ?_
  rintro e w3 ⟨rfl, rfl⟩
  simp only [fieldI, Nat.reduceEqDiff, or_false, or_true, false_or, true_or, if_true, if_false]
  by_cases hs : s = ⟨#[]⟩
  rotate_left
  · have HV : Hid (rightB ⟨9, n, s⟩ P.length P[i].l.length = false) := by rw [Hid]; unfold rightB; simp [hs]
    have hs1 := str_isEmpty hs
    clear hs
    go_wp2
    go_ret
    exact ⟨by rw [HV.out]; rfl, HB2.out⟩
  subst hs
  by_cases hn : n < 0
  · have HV : Hid (rightB ⟨9, n, ⟨#[]⟩⟩ P.length P[i].l.length = false) := by rw [Hid]; unfold rightB; simp; omega
    have hgd : decide (0 ≤ n) = false := by simp; omega
    go_wp2_with fail
    go_quiet (fail)
    have HBN := Lib.hid (show Below w.heap.size w (w3.drewN nq) from ⟨HB2.out.os, HB2.out.tape, HB2.out.output, HB2.out.size, HB2.out.block⟩)
    go_wp2
    go_ret
    exact ⟨by rw [HV.out]; rfl, HBN.out⟩
  · have HV : Hid (rightB ⟨9, n, ⟨#[]⟩⟩ P.length P[i].l.length = decide (n ≤ (P[i].l.length : Int))) := by rw [Hid]; unfold rightB; simp; omega
    have hn0 : 0 ≤ n := by omega
    have hgd : decide (0 ≤ n) = true := by simp; omega
    obtain ⟨b, o, c', hv, hle, hbl, hcell⟩ := (HP.out.later HB2.out).rd.at (by omega)
    cases hv
    have hc := hcell i (RT.v P[i]) (by rw [List.getElem?_map, List.getElem?_eq_getElem hi]; rfl)
    clear hcell
    unfold RT.v at hc
    go_wp2_with fail
    go_quiet (fail)
    have HBN := Lib.hid (show Below w.heap.size w (w3.drewN nq) from ⟨HB2.out.os, HB2.out.tape, HB2.out.output, HB2.out.size, HB2.out.block⟩)
    go_wp2
    go_ret
    exact ⟨by rw [HV.out]; rfl, HBN.out⟩
set_option maxRecDepth 100000 in
set_option maxHeartbeats 2000000 in
theorem rr10 (P : List RT) (a : Option Addr) (c : Nat) (i : Nat) (hi : i < P.length) (n : Int) (s : ByteArray) (w : World) (h : PrgU w (.slice a P.length c) P) (hP : P.length ≤ 20) (hl : P[i].l.length ≤ 200) (hs0 : s.size ≤ 9223372036854775807) :
    Calls Tryz.prog 54 #[.slice a P.length c, .int .i64 i, .agg #[.int .i64 10, .int .i64 n, .string s]] w fun e w' => e = .returned (.bool (rightB ⟨10, n, s⟩ P.length P[i].l.length)) ∧ Below w.heap.size w w' := by
  have HX : Hid ((w.alloc (.cells #[.int .i64 10, .int .i64 n, .string s] 81)).heap[w.heap.size]? = some (.cells #[.int .i64 10, .int .i64 n, .string s] 81 (0, 0))) := heap_alloc_new w _
  have HB : Hid (Below w.heap.size w (w.alloc (.cells #[.int .i64 10, .int .i64 n, .string s] 81))) := (Below.refl _ _).alloc (Nat.le_refl _) _
  have HP := Lib.hid h
  have HW := Lib.hid (word_ne ⟨10, by decide⟩ (by decide))
  clear h
  simp only at HW
  go_enter Tryz.func54, Tryz.ntmps54
  go_upto_region 1 with fail
  generalize w.alloc (.cells #[.int .i64 10, .int .i64 n, .string s] 81) = wd at *
  have x0 := cellAt HX.out 0 rfl
  go_wp2_with fail
  refine (rword_in 10 (by decide) _).mono ?_
  rintro e w2 ⟨rfl, hb2⟩
  have HX2 := Lib.hid ((hb2.block _ (lt_of_heap HX.out)).trans HX.out)
  have HB2 := Lib.hid (HB.out.trans (hb2.mono HB.out.size))
  clear hb2 x0 HX HB
  generalize wordsL.getD 10 ⟨#[]⟩ = wx at *
  have hw := HW.out
  have x0 := cellAt HX2.out 0 rfl
  have x1 := cellAt HX2.out 1 rfl
  have x2 := cellAt HX2.out 2 rfl
  go_wp2_with fail
  refine (rfield_in 10 (by decide) _).mono ?_
  rintro e w3 ⟨rfl, rfl⟩
  simp only [fieldI, Nat.reduceEqDiff, or_false, or_true, false_or, true_or, if_true, if_false]
  by_cases hn : n = 0
  rotate_left
  · have HV : Hid (rightB ⟨10, n, s⟩ P.length P[i].l.length = false) := by rw [Hid]; unfold rightB; simp [hn]
    have hn2 : (n != 0) = true := by rw [bne_iff_ne]; exact hn
    clear hn
    go_wp2
    go_ret
    exact ⟨by rw [HV.out]; rfl, HB2.out⟩
  subst hn
  go_wp2_with fail
  refine (rfield_in 10 (by decide) _).mono ?_
  rintro e w3 ⟨rfl, rfl⟩
  simp only [fieldI, Nat.reduceEqDiff, or_false, or_true, false_or, true_or, if_true, if_false]
  by_cases hz : 1000 < (s.size : Int)
  · have HV : Hid (rightB ⟨10, 0, s⟩ P.length P[i].l.length = false) := by rw [Hid]; unfold rightB; simp; omega
    go_wp2
    go_ret
    exact ⟨by rw [HV.out]; rfl, HB2.out⟩
  have HV : Hid (rightB ⟨10, 0, s⟩ P.length P[i].l.length = true) := by rw [Hid]; unfold rightB; simp; omega
  go_wp2
  go_ret
  exact ⟨by rw [HV.out]; rfl, HB2.out⟩
set_option maxRecDepth 100000 in
set_option maxHeartbeats 2000000 in
theorem rr11 (P : List RT) (a : Option Addr) (c : Nat) (i : Nat) (hi : i < P.length) (n : Int) (s : ByteArray) (w : World) (h : PrgU w (.slice a P.length c) P) (hP : P.length ≤ 20) (hl : P[i].l.length ≤ 200) (hs0 : s.size ≤ 9223372036854775807) :
    Calls Tryz.prog 54 #[.slice a P.length c, .int .i64 i, .agg #[.int .i64 11, .int .i64 n, .string s]] w fun e w' => e = .returned (.bool (rightB ⟨11, n, s⟩ P.length P[i].l.length)) ∧ Below w.heap.size w w' := by
  have HX : Hid ((w.alloc (.cells #[.int .i64 11, .int .i64 n, .string s] 81)).heap[w.heap.size]? = some (.cells #[.int .i64 11, .int .i64 n, .string s] 81 (0, 0))) := heap_alloc_new w _
  have HB : Hid (Below w.heap.size w (w.alloc (.cells #[.int .i64 11, .int .i64 n, .string s] 81))) := (Below.refl _ _).alloc (Nat.le_refl _) _
  have HP := Lib.hid h
  have HW := Lib.hid (word_ne ⟨11, by decide⟩ (by decide))
  clear h
  simp only at HW
  go_enter Tryz.func54, Tryz.ntmps54
  go_upto_region 1 with fail
  generalize w.alloc (.cells #[.int .i64 11, .int .i64 n, .string s] 81) = wd at *
  have x0 := cellAt HX.out 0 rfl
  go_wp2_with fail
  refine (rword_in 11 (by decide) _).mono ?_
  rintro e w2 ⟨rfl, hb2⟩
  have HX2 := Lib.hid ((hb2.block _ (lt_of_heap HX.out)).trans HX.out)
  have HB2 := Lib.hid (HB.out.trans (hb2.mono HB.out.size))
  clear hb2 x0 HX HB
  generalize wordsL.getD 11 ⟨#[]⟩ = wx at *
  have hw := HW.out
  have x0 := cellAt HX2.out 0 rfl
  have x1 := cellAt HX2.out 1 rfl
  have x2 := cellAt HX2.out 2 rfl
  go_wp2_with fail
  refine (rfield_in 11 (by decide) _).mono ?_
  rintro e w3 ⟨rfl, rfl⟩
  simp only [fieldI, Nat.reduceEqDiff, or_false, or_true, false_or, true_or, if_true, if_false]
  by_cases hn : n = 0
  rotate_left
  · have HV : Hid (rightB ⟨11, n, s⟩ P.length P[i].l.length = false) := by rw [Hid]; unfold rightB; simp [hn]
    have hn2 : (n != 0) = true := by rw [bne_iff_ne]; exact hn
    clear hn
    go_wp2
    go_ret
    exact ⟨by rw [HV.out]; rfl, HB2.out⟩
  subst hn
  go_wp2_with fail
  refine (rfield_in 11 (by decide) _).mono ?_
  rintro e w3 ⟨rfl, rfl⟩
  simp only [fieldI, Nat.reduceEqDiff, or_false, or_true, false_or, true_or, if_true, if_false]
  by_cases hs : s = ⟨#[]⟩
  rotate_left
  · have HV : Hid (rightB ⟨11, 0, s⟩ P.length P[i].l.length = false) := by rw [Hid]; unfold rightB; simp [hs]
    have hs1 := str_isEmpty hs
    clear hs
    go_wp2
    go_ret
    exact ⟨by rw [HV.out]; rfl, HB2.out⟩
  subst hs
  have HV : Hid (rightB ⟨11, 0, ⟨#[]⟩⟩ P.length P[i].l.length = true) := by rw [Hid]; unfold rightB; simp
  go_wp2
  go_ret
  exact ⟨by rw [HV.out]; rfl, HB2.out⟩
set_option maxRecDepth 100000 in
set_option maxHeartbeats 2000000 in
theorem rr12 (P : List RT) (a : Option Addr) (c : Nat) (i : Nat) (hi : i < P.length) (n : Int) (s : ByteArray) (w : World) (h : PrgU w (.slice a P.length c) P) (hP : P.length ≤ 20) (hl : P[i].l.length ≤ 200) (hs0 : s.size ≤ 9223372036854775807) :
    Calls Tryz.prog 54 #[.slice a P.length c, .int .i64 i, .agg #[.int .i64 12, .int .i64 n, .string s]] w fun e w' => e = .returned (.bool (rightB ⟨12, n, s⟩ P.length P[i].l.length)) ∧ Below w.heap.size w w' := by
  have HX : Hid ((w.alloc (.cells #[.int .i64 12, .int .i64 n, .string s] 81)).heap[w.heap.size]? = some (.cells #[.int .i64 12, .int .i64 n, .string s] 81 (0, 0))) := heap_alloc_new w _
  have HB : Hid (Below w.heap.size w (w.alloc (.cells #[.int .i64 12, .int .i64 n, .string s] 81))) := (Below.refl _ _).alloc (Nat.le_refl _) _
  have HP := Lib.hid h
  have HW := Lib.hid (word_ne ⟨12, by decide⟩ (by decide))
  clear h
  simp only at HW
  go_enter Tryz.func54, Tryz.ntmps54
  go_upto_region 1 with fail
  generalize w.alloc (.cells #[.int .i64 12, .int .i64 n, .string s] 81) = wd at *
  have x0 := cellAt HX.out 0 rfl
  go_wp2_with fail
  refine (rword_in 12 (by decide) _).mono ?_
  rintro e w2 ⟨rfl, hb2⟩
  have HX2 := Lib.hid ((hb2.block _ (lt_of_heap HX.out)).trans HX.out)
  have HB2 := Lib.hid (HB.out.trans (hb2.mono HB.out.size))
  clear hb2 x0 HX HB
  generalize wordsL.getD 12 ⟨#[]⟩ = wx at *
  have hw := HW.out
  have x0 := cellAt HX2.out 0 rfl
  have x1 := cellAt HX2.out 1 rfl
  have x2 := cellAt HX2.out 2 rfl
  go_wp2_with fail
  refine (rfield_in 12 (by decide) _).mono ?_
  rintro e w3 ⟨rfl, rfl⟩
  simp only [fieldI, Nat.reduceEqDiff, or_false, or_true, false_or, true_or, if_true, if_false]
  by_cases hn : n = 0
  rotate_left
  · have HV : Hid (rightB ⟨12, n, s⟩ P.length P[i].l.length = false) := by rw [Hid]; unfold rightB; simp [hn]
    have hn2 : (n != 0) = true := by rw [bne_iff_ne]; exact hn
    clear hn
    go_wp2
    go_ret
    exact ⟨by rw [HV.out]; rfl, HB2.out⟩
  subst hn
  go_wp2_with fail
  refine (rfield_in 12 (by decide) _).mono ?_
  rintro e w3 ⟨rfl, rfl⟩
  simp only [fieldI, Nat.reduceEqDiff, or_false, or_true, false_or, true_or, if_true, if_false]
  by_cases hz : 1000 < (s.size : Int)
  · have HV : Hid (rightB ⟨12, 0, s⟩ P.length P[i].l.length = false) := by rw [Hid]; unfold rightB; simp; omega
    go_wp2
    go_ret
    exact ⟨by rw [HV.out]; rfl, HB2.out⟩
  have HV : Hid (rightB ⟨12, 0, s⟩ P.length P[i].l.length = true) := by rw [Hid]; unfold rightB; simp; omega
  go_wp2
  go_ret
  exact ⟨by rw [HV.out]; rfl, HB2.out⟩
set_option maxRecDepth 100000 in
set_option maxHeartbeats 2000000 in
theorem rr_out (P : List RT) (a : Option Addr) (c : Nat) (i : Nat) (hi : i < P.length) (k : Int) (hk : k < 1 ∨ 12 < k) (n : Int) (s : ByteArray) (w : World) :
    Calls Tryz.prog 54 #[.slice a P.length c, .int .i64 i, .agg #[.int .i64 k, .int .i64 n, .string s]] w fun e w' => e = .returned (.bool (rightB ⟨k, n, s⟩ P.length P[i].l.length)) ∧ Below w.heap.size w w' := by
  have HX : Hid ((w.alloc (.cells #[.int .i64 k, .int .i64 n, .string s] 81)).heap[w.heap.size]? = some (.cells #[.int .i64 k, .int .i64 n, .string s] 81 (0, 0))) := heap_alloc_new w _
  have HB : Hid (Below w.heap.size w (w.alloc (.cells #[.int .i64 k, .int .i64 n, .string s] 81))) := (Below.refl _ _).alloc (Nat.le_refl _) _
  have HV : Hid (rightB ⟨k, n, s⟩ P.length P[i].l.length = false) := by
    rw [Hid]; unfold rightB
    simp only
    rw [if_neg (by omega), if_neg (by omega), if_neg (by omega), if_neg (by omega), if_neg (by omega), if_neg (by omega), if_neg (by omega)]
  have HK := Lib.hid hk
  clear hk
  go_enter Tryz.func54, Tryz.ntmps54
  go_upto_region 1 with fail
  generalize w.alloc (.cells #[.int .i64 k, .int .i64 n, .string s] 81) = wd at *
  have x0 := cellAt HX.out 0 rfl
  go_wp2_with fail
  refine (rword_out k HK.out _).mono ?_
  rintro e w2 ⟨rfl, hb2⟩
  have HB2 := Lib.hid (HB.out.trans (hb2.mono HB.out.size))
  clear hb2 x0 HX HB
  go_wp2
  go_ret
  exact ⟨by rw [HV.out]; rfl, HB2.out⟩
theorem rr_any (P : List RT) (a : Option Addr) (c : Nat) (i : Nat) (hi : i < P.length) (x : ST) (hx : x.ok) (w : World) (h : PrgU w (.slice a P.length c) P) (hP : P.length ≤ 20) (hl : P[i].l.length ≤ 200) :
    Calls Tryz.prog 54 #[.slice a P.length c, .int .i64 i, x.val] w fun e w' => e = .returned (.bool (rightB x P.length P[i].l.length)) ∧ Below w.heap.size w w' := by
  obtain ⟨k, n, s⟩ := x
  have hs0 : s.size ≤ 9223372036854775807 := by have h := hx.2.2; unfold maxLen at h; exact h
  by_cases hk : k < 1 ∨ 12 < k
  · exact rr_out P a c i hi k hk n s w
  · have hc : k = 1 ∨ k = 2 ∨ k = 3 ∨ k = 4 ∨ k = 5 ∨ k = 6 ∨ k = 7 ∨ k = 8 ∨ k = 9 ∨ k = 10 ∨ k = 11 ∨ k = 12 := by omega
    rcases hc with rfl | rfl | rfl | rfl | rfl | rfl | rfl | rfl | rfl | rfl | rfl | rfl
    · exact rr1 P a c i hi n s w h hP hl hs0
    · exact rr2 P a c i hi n s w h hP hl hs0
    · exact rr3 P a c i hi n s w h hP hl hs0
    · exact rr4 P a c i hi n s w h hP hl hs0
    · exact rr5 P a c i hi n s w h hP hl hs0
    · exact rr6 P a c i hi n s w h hP hl hs0
    · exact rr7 P a c i hi n s w h hP hl hs0
    · exact rr8 P a c i hi n s w h hP hl hs0
    · exact rr9 P a c i hi n s w h hP hl hs0
    · exact rr10 P a c i hi n s w h hP hl hs0
    · exact rr11 P a c i hi n s w h hP hl hs0
    · exact rr12 P a c i hi n s w h hP hl hs0
set_option maxRecDepth 100000 in
set_option maxHeartbeats 4000000 in
theorem rcheck_any (a : Option Addr) (c : Nat) (P : List RT) (w : World) (h : PrgU w (.slice a P.length c) P) :
    Calls Tryz.prog 29 #[.slice a P.length c] w (CPost w rightB P) := by
  have HP := Lib.hid h
  have hll := h.ll
  unfold maxLen at hll
  have HC1 : Hid (∀ i k ok w', Checked rightB P i k ok → Below w.heap.size w w' → CPost w rightB P (.returned (.tuple #[.int .i64 i, .int .i64 k, .bool ok])) w') := fun i k ok w' h1 h2 => ⟨i, k, ok, rfl, h1, h2⟩
  obtain ⟨Q, hQ⟩ : ∃ Q, Q = CPost w rightB P := ⟨_, rfl⟩
  rw [← hQ] at HC1 ⊢
  clear h hQ
  by_cases h0 : P.length = 0
  · have HV := Lib.hid (HC1.out 0 0 false w (.inl ⟨.inl h0, rfl, rfl, rfl⟩) (Below.refl _ _))
    rw [h0]
    go_enter Tryz.func29, Tryz.ntmps29
    go_wp2
    refine bodyPost_ret (results_tmp3 rfl _ _ _) rfl ?_
    exact HV.out
  by_cases h20 : 20 < P.length
  · have HV := Lib.hid (HC1.out 0 0 false w (.inl ⟨.inr h20, rfl, rfl, rfl⟩) (Below.refl _ _))
    have h0' : ¬ ((P.length : Int) < 1) := by omega
    have h20' : 20 < (P.length : Int) := by omega
    go_enter Tryz.func29, Tryz.ntmps29
    go_wp2
    refine bodyPost_ret (results_tmp3 rfl _ _ _) rfl ?_
    exact HV.out
  have h0' : ¬ ((P.length : Int) < 1) := by omega
  have h20' : ¬ 20 < (P.length : Int) := by omega
  go_enter Tryz.func29, Tryz.ntmps29
  go_wp2_with fail
  go_loopw [5, 6] (fun i _ w' => ∃ m : Nat, m ≤ P.length ∧ i = .int .i64 m ∧ Hid (∀ j (hj : j < P.length), j < m → fineR rightB P.length P[j]) ∧ Hid (Below w.heap.size w w')) (fun i _ _ => P.length - (RowKit.intOf i).toNat)
  case atStart => exact ⟨0, by omega, rfl, fun j _ h => by omega, Below.refl _ _⟩
  case round =>
    obtain ⟨m, hm, rfl, HF, HB⟩ := hrel
    by_cases hlt : m < P.length
    · obtain ⟨b, o, ha, hle, hbl, hc⟩ := (HP.out.later HB.out).head hlt
      have HPA : Hid (PrgU w (.slice (some ⟨b, o, none⟩) P.length c) P) := by rw [← ha]; exact HP.out
      subst ha
      have HRM : Hid (∀ (x : ST), x ∈ P[m].l → P[m].l.length ≤ 200 → ∀ W, Below w.heap.size w W → Calls Tryz.prog 54 #[.slice (some ⟨b, o, none⟩) P.length c, .int .i64 m, x.val] W fun e w' => e = .returned (.bool (rightB x P.length P[m].l.length)) ∧ Below W.heap.size W w') := fun x hx hl W hW =>
        rr_any P _ c m hlt x ((HP.out.each _ (List.getElem_mem hlt)).ok x hx) W (HP.out.later hW) (by omega) hl
      have HE := Lib.hid ((HP.out.later HB.out).each P[m] (List.getElem_mem hlt))
      have hl6 := HE.out.ll
      unfold maxLen at hl6
      have HBAD : Hid (∀ k : Int, (200 < P[m].l.length ∧ k = 200) ∨ (P[m].l.length ≤ 200 ∧ ∃ (q : Nat) (hq : q < P[m].l.length), k = q ∧ rightB P[m].l[q] P.length P[m].l.length = false ∧ ∀ x ∈ P[m].l.take q, rightB x P.length P[m].l.length = true) → Checked rightB P m k false) := fun k hk =>
        .inr ⟨by omega, by omega, .inr ⟨m, hlt, rfl, rfl, fun j hj => HF.out j (by omega) hj, hk⟩⟩
      have HNX : Hid (fineR rightB P.length P[m] → ∀ j (hj : j < P.length), j < m + 1 → fineR rightB P.length P[j]) := fun h j hj hjm => by
        rcases Nat.lt_or_ge j m with h1 | h1
        · exact HF.out j hj h1
        · have : j = m := by omega
          subst this; exact h
      clear HF
      have HC := Lib.hid hc
      generalize hrr : P[m] = r at *
      clear hrr
      obtain ⟨rl, ra, rc⟩ := r
      simp only [RT.v] at *
      by_cases h200 : 200 < (rl.length : Int)
      · have HV := Lib.hid (HC1.out m 200 false wr (HBAD.out 200 (.inl ⟨by omega, rfl⟩)) HB.out)
        go_wp2
        refine bodyPost_ret (results_tmp3 rfl _ _ _) rfl ?_
        exact HV.out
      · go_wp2_with fail
        clear hc
        have hbs : b < wr.heap.size := hbl
        go_loopw [6] (fun i w' => ∃ q : Nat, q ≤ rl.length ∧ i = .int .i64 q ∧ Hid (∀ j (hj : j < rl.length), j < q → rightB rl[j] P.length rl.length = true) ∧ Hid (Below w.heap.size w w') ∧ Hid (Below wr.heap.size wr w')) (fun i _ => rl.length - (RowKit.intOf i).toNat)
        case atStart => exact ⟨0, by omega, rfl, fun j _ h => by omega, HB, Below.refl _ _⟩
        case round =>
          obtain ⟨q, hq, rfl, HG, HB2, HB3⟩ := hrel
          have hc := (HB3.out.cell (p := ⟨b, o + m, none⟩) hbs).trans HC.out
          by_cases hlt2 : q < rl.length
          · obtain ⟨b2, o2, rfl, hle2, hb2, d0, d1, d2⟩ := RT.inw.cells (HE.out.later HB3.out) hlt2
            have HRX := Lib.hid (HRM.out rl[q] (List.getElem_mem hlt2) (by omega))
            have HBX : Hid (rightB rl[q] P.length rl.length = false → Checked rightB P m q false) := fun h => HBAD.out q (.inr ⟨by omega, q, hlt2, rfl, h, fun x hx => by obtain ⟨j, hj, rfl⟩ := List.mem_iff_getElem.1 hx; rw [List.getElem_take]; rw [List.length_take] at hj; exact HG.out j (by omega) (by omega)⟩)
            have HGX : Hid (rightB rl[q] P.length rl.length = true → ∀ j (hj : j < rl.length), j < q + 1 → rightB rl[j] P.length rl.length = true) := fun h j hj hjq => by
              rcases Nat.lt_or_ge j q with h1 | h1
              · exact HG.out j hj h1
              · have : j = q := by omega
                subst this; exact h
            clear HG
            generalize rl[q] = x at *
            have HRW := Lib.hid (HRX.out _ HB2.out)
            clear HRX
            obtain ⟨xk, xn, xs⟩ := x
            simp only [ST.val] at *
            go_wp2_with fail
            refine HRW.out.mono ?_
            rintro e w4 ⟨rfl, hb4⟩
            have HB4 := Lib.hid (HB2.out.trans (hb4.mono HB2.out.size))
            have HB5 := Lib.hid (HB3.out.trans (hb4.mono HB3.out.size))
            clear hb4 hc d0 d1 d2 HRW
            cases hbx : rightB ⟨xk, xn, xs⟩ P.length rl.length with
            | false =>
              have HV := Lib.hid (HC1.out m q false w4 (HBX.out hbx) HB4.out)
              clear hbx
              go_wp2
              refine bodyPost_ret (results_tmp3 rfl _ _ _) rfl ?_
              exact HV.out
            | true =>
              have HGN := Lib.hid (HGX.out hbx)
              clear hbx
              go_wp2
              go_roundw
              case rel => exact ⟨q + 1, by omega, by go_num, HGN, HB4, HB5⟩
              case measure => simp [RowKit.intOf]; omega
          · obtain rfl : q = rl.length := by omega
            have HFN := Lib.hid (HNX.out ⟨by show rl.length ≤ 200; omega, fun x hx => by obtain ⟨j, hj, rfl⟩ := List.mem_iff_getElem.1 hx; exact HG.out j hj hj⟩)
            go_wp2
            go_roundw
            case rel => exact ⟨m + 1, by omega, by go_num, HFN, HB2⟩
            case measure => simp [RowKit.intOf]; omega
    · obtain rfl : m = P.length := by omega
      have HV := Lib.hid (HC1.out 0 0 true wr (.inr ⟨by omega, by omega, .inl ⟨fun r hr => by obtain ⟨j, hj, rfl⟩ := List.mem_iff_getElem.1 hr; exact HF.out j hj hj, rfl, rfl, rfl⟩⟩) HB.out)
      go_wp2
      refine bodyPost_ret (results_tmp3 rfl _ _ _) rfl ?_
      exact HV.out
def RightP (P : List RT) : Prop := 1 ≤ P.length ∧ P.length ≤ 20 ∧ ∀ r ∈ P, fineR rightB P.length r
theorem checked_iff {P : List RT} {i k : Int} {ok : Bool} (h : Checked rightB P i k ok) : ok = true ↔ RightP P := by
  rcases h with ⟨h1, _, _, rfl⟩ | ⟨h1, h2, ⟨h3, _, _, rfl⟩ | ⟨m, hm, _, rfl, _, h3⟩⟩
  · exact ⟨fun h => (by cases h), fun h => (by have := h.1; have := h.2.1; omega)⟩
  · exact ⟨fun _ => ⟨h1, h2, h3⟩, fun _ => rfl⟩
  · refine ⟨fun h => (by cases h), fun h => ?_⟩
    have hf := h.2.2 _ (List.getElem_mem hm)
    rcases h3 with ⟨h4, _⟩ | ⟨_, q, hq, _, h4, _⟩
    · have := hf.1; omega
    · have := hf.2 _ (List.getElem_mem hq)
      rw [this] at h4; cases h4
set_option maxRecDepth 100000 in
theorem prright_any (a : Option Addr) (c : Nat) (P : List RT) (w : World) (h : PrgU w (.slice a P.length c) P) :
    Calls Tryz.prog 59 #[.slice a P.length c] w (SPost w (RightP P)) := by
  have HE := Lib.hid (rcheck_any a c P w h)
  clear h
  go_enter Tryz.func59, Tryz.ntmps59
  go_wp2_with fail
  refine HE.out.mono ?_
  rintro e w4 ⟨i, k, ok, rfl, hc, hb4⟩
  have HR : Hid (SPost w (RightP P) (.returned (.bool ok)) w4) := ⟨ok, rfl, checked_iff hc, hb4⟩
  clear hc hb4
  generalize SPost w (RightP P) = Q at *
  go_wp2
  exact HR.out
end Go.Proofs.YtpijpeocdlnhiaaGreatDoor
