/- value.parse: the payload at the beginning of a text, and what follows. -/
import Derived.Test.YtpijpeocdlnhiaaGreatDoorTWord
import Derived.Test.YtpijpeocdlnhiaaGreatDoorTIdx
import Derived.Test.YtpijpeocdlnhiaaGreatDoorOwn
import Derived.Test.YtpijpeocdlnhiaaGreatDoorArms
namespace Go.Proofs.YtpijpeocdlnhiaaGreatDoor
set_option linter.unusedVariables false
set_option linter.unusedSimpArgs false
open Go.RowKit

/-- What a reader of a payload hands over: the payload in new memory, and the rest of the text. -/
def ParsePost (w : World) (r : VT × List UInt8) (e : Ending) (w' : World) : Prop :=
  (∃ v : VV, e = .returned (.tuple #[v.val, .string ⟨r.2.toArray⟩]) ∧ TOwn w' r.1 v (fun b => w.heap.size ≤ b ∧ b < w'.heap.size)) ∧ Below w.heap.size w w'

theorem wordP_nil (s : List UInt8) : (wordP s).l = [] := by
  unfold wordP
  split
  · rfl
  · split
    · rfl
    · split
      · rfl
      · rfl
set_option maxRecDepth 100000 in
set_option maxHeartbeats 4000000 in
theorem parse_word (s : ByteArray) (hs : s.size ≤ 1000000) (k : Nat) (hk : k ≤ 8) (w : World) (hB : Base w) (h : k = 0 ∨ s.data.toList.head? ≠ some 91) :
    Calls Tryz.prog 36 #[.string s, .int .i64 k] w (ParsePost w (wordP (s.data.toList.take (wN s.data.toList)), s.data.toList.drop (wN s.data.toList))) := by
  have HP0 : ∀ W, Calls Tryz.prog 67 #[.string s, .string ⟨#[91]⟩] W fun e w' => e = .returned (.bool (decide (s.data.toList.head? = some 91))) ∧ w' = W := fun W => by
    have h := Tryz.strings_HasPrefix s ⟨#[91]⟩ W
    rw [show (⟨#[91]⟩ : ByteArray).data.toList = [91] from rfl, head_pre] at h
    exact h
  have HP := Lib.hid HP0
  have HIX := fun W => idx_any s hs W
  have hN : ∃ n : Nat, n = wN s.data.toList ∧ n ≤ s.size := ⟨_, rfl, by rw [Lib.size_eq]; exact wN_le _⟩
  obtain ⟨n, hn, hns⟩ := hN
  have hixv : ixW s.data.toList = if n < s.size then (n : Int) else -1 := by unfold ixW; rw [← hn, ← Lib.size_eq]
  rw [hixv] at HIX
  have HIX2 := Lib.hid HIX
  have hx1 : (s.extract 0 n).data.toList = s.data.toList.take n := by rw [ex_list]; simp
  have hx1s : (s.extract 0 n).size ≤ 1000000 := by rw [Lib.size_eq, hx1, List.length_take, ← Lib.size_eq]; omega
  have hx2 : (s.extract n s.size) = ⟨(s.data.toList.drop n).toArray⟩ := by
    refine bs_of ?_
    rw [ex_list, List.take_of_length_le]
    rw [List.length_drop, ← Lib.size_eq]; exact Nat.le_refl _
  rw [← hn]
  have HWA : Hid (∀ W, Below w.heap.size w W → Calls Tryz.prog 69 #[.string (s.extract 0 n)] W fun e w' => e = .returned (atomV (wordP (s.data.toList.take n))) ∧ Below W.heap.size W w') := fun W hW => by
    have h := word_any (s.extract 0 n) hx1s W (hB.later hW)
    rw [hx1] at h
    exact h
  have HX2 := Lib.hid hx2
  have HX : Hid ((v5 w 0).heap[w.heap.size]? = some (.cells #[.int .i64 0, .int .i64 0, .float .f64 0, .string ⟨#[]⟩, .slice none 0 0] 26 (0, 0))) := heap_alloc_new _ _
  have HB1 : Hid (Below w.heap.size w (v5 w 0)) := (Below.refl _ _).alloc (Nat.le_refl _) _
  have HTN := Lib.hid (wordP_nil (s.data.toList.take n))
  obtain ⟨T, hT⟩ : ∃ T, T = wordP (s.data.toList.take n) := ⟨_, rfl⟩
  rw [← hT] at HWA HTN ⊢
  obtain ⟨rl, hrl⟩ : ∃ rl, rl = s.data.toList.drop n := ⟨_, rfl⟩
  rw [← hrl] at HX2 ⊢
  clear HP0 HIX hixv hx1 hx1s hx2 hB hT hrl hn
  obtain ⟨tk, tn, tf, ts, tl⟩ := T
  have htl : tl = [] := HTN.out
  subst htl
  have HWC : Hid (∀ W, Below w.heap.size w W → Calls Tryz.prog 69 #[.string (s.extract 0 n)] W fun e w' => e = .returned (.agg #[.int .i64 tk, .int .i64 tn, .float .f64 tf, .string ts, .slice none 0 0]) ∧ Below W.heap.size W w') := HWA.out
  clear HWA HTN
  have hh : k = 0 ∨ (0 < k ∧ decide (s.data.toList.head? = some 91) = false) := by
    rcases h with h | h
    · exact .inl h
    · rcases Nat.eq_zero_or_pos k with h0 | h0
      · exact .inl h0
      · exact .inr ⟨h0, decide_eq_false h⟩
  clear h
  generalize decide (s.data.toList.head? = some 91) = pb at *
  have hi : ∃ iv : Int, (∀ W, Calls Tryz.prog 68 #[.string s, .string cutB] W fun e w' => e = .returned (.int .i64 iv) ∧ Below W.heap.size W w') ∧ ((0 ≤ iv ∧ iv = (n : Int)) ∨ (iv < 0 ∧ Hid (s.size = n))) := by
    by_cases hlt : n < s.size
    · exact ⟨n, fun W => by have h := HIX2.out W; rw [if_pos hlt] at h; exact h, .inl ⟨by omega, rfl⟩⟩
    · exact ⟨-1, fun W => by have h := HIX2.out W; rw [if_neg hlt] at h; exact h, .inr ⟨by decide, show s.size = n by omega⟩⟩
  obtain ⟨iv, hIV, hi⟩ := hi
  have HIX3 := Lib.hid hIV
  have hk0 : pb = false ∨ (pb = true ∧ k = 0) := by
    rcases hh with h | h
    · cases pb
      · exact .inl rfl
      · exact .inr ⟨rfl, h⟩
    · exact .inl h.2
  clear hh HIX2 hIV
  have hcut : (⟨#[32, 93]⟩ : ByteArray) = cutB := rfl
  rcases hi with ⟨hi0, rfl⟩ | ⟨hi0, HNE⟩
  · rcases hk0 with rfl | ⟨rfl, rfl⟩
    · go_enter Tryz.func36, Tryz.ntmps36
      go_wp2_with fail
      refine (HP.out _).mono ?_
      rintro e w1 ⟨rfl, rfl⟩
      go_wp2_with fail
      refine (HIX3.out _).mono ?_
      rintro e w2 ⟨rfl, hb2⟩
      have HB2 := Lib.hid (HB1.out.trans (hb2.mono HB1.out.size))
      have HN2 := Lib.hid ((hb2.block _ (lt_of_heap HX.out)).trans HX.out)
      have HWB := Lib.hid (HWC.out _ HB2.out.drew)
      clear hb2 HIX3 HWC HP
      go_upto_region 6 with fail
      have hr2 := lt_of_heap HN2.out
      go_region_law (
        go_simp
        go_at_call 69
        refine HWB.out.mono ?_
        rintro e w3 ⟨rfl, hb3⟩
        have HB3 := Lib.hid (HB2.out.drew.trans (hb3.mono HB2.out.drew.size))
        have HN3 := Lib.hid ((hb3.block _ hr2).trans HN2.out)
        have hr3 := lt_of_heap HN3.out
        have hc0 := cellAt HN3.out 0 (v := .int .i64 0) rfl
        have hc1 := cellAt HN3.out 1 (v := .int .i64 0) rfl
        have hc2 := cellAt HN3.out 2 (v := .float .f64 0) rfl
        have hc3 := cellAt HN3.out 3 (v := .string ⟨#[]⟩) rfl
        have hc4 := cellAt HN3.out 4 (v := .slice none 0 0) rfl
        have hf0 := freeAt HN3.out 0
        have hf1 := freeAt HN3.out 1
        have hf2 := freeAt HN3.out 2
        have hf3 := freeAt HN3.out 3
        have hf4 := freeAt HN3.out 4
        clear hb3
        try dsimp only)
      all_goals go_wp2_with fail
      simp only [Act.put, List.getElem_cons_zero, List.getElem_cons_succ, List.getElem_toArray, Array.set!_eq_setIfInBounds, List.setIfInBounds_toArray, List.set_cons_zero, List.set_cons_succ]
      refine bodyPost_ret (results_row_tmp (P := Tryz.prog) rfl _ _ w.heap.size 26 _ (0, 0) _ rfl (set5 HN3.out rfl _ _ _ _ _) Tryz.underlying26 rfl rfl) rfl ?_
      refine ⟨⟨⟨tk, tn, tf, ts, none, 0, 0⟩, ?_, ?_⟩, ?_⟩
      · show Ending.returned (.tuple #[.agg #[.int .i64 tk, .int .i64 tn, .float .f64 tf, .string ts, .slice none 0 0], .string (s.extract n s.size)]) = _
        rw [HX2.out]
      · rw [TOwn]
        exact ⟨rfl, rfl, rfl, rfl, rfl, Nat.zero_le _, .inl ⟨rfl, Reads.nil _ _⟩⟩
      · exact bel5 HB3.out (Nat.le_refl _) _ _ _ _ _
    · go_enter Tryz.func36, Tryz.ntmps36
      go_wp2_with fail
      refine (HP.out _).mono ?_
      rintro e w1 ⟨rfl, rfl⟩
      go_wp2_with fail
      refine (HIX3.out _).mono ?_
      rintro e w2 ⟨rfl, hb2⟩
      have HB2 := Lib.hid (HB1.out.trans (hb2.mono HB1.out.size))
      have HN2 := Lib.hid ((hb2.block _ (lt_of_heap HX.out)).trans HX.out)
      have HWB := Lib.hid (HWC.out _ HB2.out.drew)
      clear hb2 HIX3 HWC HP
      go_upto_region 6 with fail
      have hr2 := lt_of_heap HN2.out
      go_region_law (
        go_simp
        go_at_call 69
        refine HWB.out.mono ?_
        rintro e w3 ⟨rfl, hb3⟩
        have HB3 := Lib.hid (HB2.out.drew.trans (hb3.mono HB2.out.drew.size))
        have HN3 := Lib.hid ((hb3.block _ hr2).trans HN2.out)
        have hr3 := lt_of_heap HN3.out
        have hc0 := cellAt HN3.out 0 (v := .int .i64 0) rfl
        have hc1 := cellAt HN3.out 1 (v := .int .i64 0) rfl
        have hc2 := cellAt HN3.out 2 (v := .float .f64 0) rfl
        have hc3 := cellAt HN3.out 3 (v := .string ⟨#[]⟩) rfl
        have hc4 := cellAt HN3.out 4 (v := .slice none 0 0) rfl
        have hf0 := freeAt HN3.out 0
        have hf1 := freeAt HN3.out 1
        have hf2 := freeAt HN3.out 2
        have hf3 := freeAt HN3.out 3
        have hf4 := freeAt HN3.out 4
        clear hb3
        try dsimp only)
      all_goals go_wp2_with fail
      simp only [Act.put, List.getElem_cons_zero, List.getElem_cons_succ, List.getElem_toArray, Array.set!_eq_setIfInBounds, List.setIfInBounds_toArray, List.set_cons_zero, List.set_cons_succ]
      refine bodyPost_ret (results_row_tmp (P := Tryz.prog) rfl _ _ w.heap.size 26 _ (0, 0) _ rfl (set5 HN3.out rfl _ _ _ _ _) Tryz.underlying26 rfl rfl) rfl ?_
      refine ⟨⟨⟨tk, tn, tf, ts, none, 0, 0⟩, ?_, ?_⟩, ?_⟩
      · show Ending.returned (.tuple #[.agg #[.int .i64 tk, .int .i64 tn, .float .f64 tf, .string ts, .slice none 0 0], .string (s.extract n s.size)]) = _
        rw [HX2.out]
      · rw [TOwn]
        exact ⟨rfl, rfl, rfl, rfl, rfl, Nat.zero_le _, .inl ⟨rfl, Reads.nil _ _⟩⟩
      · exact bel5 HB3.out (Nat.le_refl _) _ _ _ _ _
  · rcases hk0 with rfl | ⟨rfl, rfl⟩
    · go_enter Tryz.func36, Tryz.ntmps36
      go_wp2_with fail
      refine (HP.out _).mono ?_
      rintro e w1 ⟨rfl, rfl⟩
      go_wp2_with fail
      refine (HIX3.out _).mono ?_
      rintro e w2 ⟨rfl, hb2⟩
      have HB2 := Lib.hid (HB1.out.trans (hb2.mono HB1.out.size))
      have HN2 := Lib.hid ((hb2.block _ (lt_of_heap HX.out)).trans HX.out)
      have HWB := Lib.hid (HWC.out _ HB2.out.drew)
      clear hb2 HIX3 HWC HP
      go_upto_region 6 with fail
      rw [HNE.out]
      have hr2 := lt_of_heap HN2.out
      go_region_law (
        go_simp
        go_at_call 69
        refine HWB.out.mono ?_
        rintro e w3 ⟨rfl, hb3⟩
        have HB3 := Lib.hid (HB2.out.drew.trans (hb3.mono HB2.out.drew.size))
        have HN3 := Lib.hid ((hb3.block _ hr2).trans HN2.out)
        have hr3 := lt_of_heap HN3.out
        have hc0 := cellAt HN3.out 0 (v := .int .i64 0) rfl
        have hc1 := cellAt HN3.out 1 (v := .int .i64 0) rfl
        have hc2 := cellAt HN3.out 2 (v := .float .f64 0) rfl
        have hc3 := cellAt HN3.out 3 (v := .string ⟨#[]⟩) rfl
        have hc4 := cellAt HN3.out 4 (v := .slice none 0 0) rfl
        have hf0 := freeAt HN3.out 0
        have hf1 := freeAt HN3.out 1
        have hf2 := freeAt HN3.out 2
        have hf3 := freeAt HN3.out 3
        have hf4 := freeAt HN3.out 4
        clear hb3
        try dsimp only)
      all_goals go_wp2_with fail
      simp only [Act.put, List.getElem_cons_zero, List.getElem_cons_succ, List.getElem_toArray, Array.set!_eq_setIfInBounds, List.setIfInBounds_toArray, List.set_cons_zero, List.set_cons_succ]
      refine bodyPost_ret (results_row_tmp (P := Tryz.prog) rfl _ _ w.heap.size 26 _ (0, 0) _ rfl (set5 HN3.out rfl _ _ _ _ _) Tryz.underlying26 rfl rfl) rfl ?_
      refine ⟨⟨⟨tk, tn, tf, ts, none, 0, 0⟩, ?_, ?_⟩, ?_⟩
      · show Ending.returned (.tuple #[.agg #[.int .i64 tk, .int .i64 tn, .float .f64 tf, .string ts, .slice none 0 0], .string (s.extract n s.size)]) = _
        rw [HX2.out]
      · rw [TOwn]
        exact ⟨rfl, rfl, rfl, rfl, rfl, Nat.zero_le _, .inl ⟨rfl, Reads.nil _ _⟩⟩
      · exact bel5 HB3.out (Nat.le_refl _) _ _ _ _ _
    · go_enter Tryz.func36, Tryz.ntmps36
      go_wp2_with fail
      refine (HP.out _).mono ?_
      rintro e w1 ⟨rfl, rfl⟩
      go_wp2_with fail
      refine (HIX3.out _).mono ?_
      rintro e w2 ⟨rfl, hb2⟩
      have HB2 := Lib.hid (HB1.out.trans (hb2.mono HB1.out.size))
      have HN2 := Lib.hid ((hb2.block _ (lt_of_heap HX.out)).trans HX.out)
      have HWB := Lib.hid (HWC.out _ HB2.out.drew)
      clear hb2 HIX3 HWC HP
      go_upto_region 6 with fail
      rw [HNE.out]
      have hr2 := lt_of_heap HN2.out
      go_region_law (
        go_simp
        go_at_call 69
        refine HWB.out.mono ?_
        rintro e w3 ⟨rfl, hb3⟩
        have HB3 := Lib.hid (HB2.out.drew.trans (hb3.mono HB2.out.drew.size))
        have HN3 := Lib.hid ((hb3.block _ hr2).trans HN2.out)
        have hr3 := lt_of_heap HN3.out
        have hc0 := cellAt HN3.out 0 (v := .int .i64 0) rfl
        have hc1 := cellAt HN3.out 1 (v := .int .i64 0) rfl
        have hc2 := cellAt HN3.out 2 (v := .float .f64 0) rfl
        have hc3 := cellAt HN3.out 3 (v := .string ⟨#[]⟩) rfl
        have hc4 := cellAt HN3.out 4 (v := .slice none 0 0) rfl
        have hf0 := freeAt HN3.out 0
        have hf1 := freeAt HN3.out 1
        have hf2 := freeAt HN3.out 2
        have hf3 := freeAt HN3.out 3
        have hf4 := freeAt HN3.out 4
        clear hb3
        try dsimp only)
      all_goals go_wp2_with fail
      simp only [Act.put, List.getElem_cons_zero, List.getElem_cons_succ, List.getElem_toArray, Array.set!_eq_setIfInBounds, List.setIfInBounds_toArray, List.set_cons_zero, List.set_cons_succ]
      refine bodyPost_ret (results_row_tmp (P := Tryz.prog) rfl _ _ w.heap.size 26 _ (0, 0) _ rfl (set5 HN3.out rfl _ _ _ _ _) Tryz.underlying26 rfl rfl) rfl ?_
      refine ⟨⟨⟨tk, tn, tf, ts, none, 0, 0⟩, ?_, ?_⟩, ?_⟩
      · show Ending.returned (.tuple #[.agg #[.int .i64 tk, .int .i64 tn, .float .f64 tf, .string ts, .slice none 0 0], .string (s.extract n s.size)]) = _
        rw [HX2.out]
      · rw [TOwn]
        exact ⟨rfl, rfl, rfl, rfl, rfl, Nat.zero_le _, .inl ⟨rfl, Reads.nil _ _⟩⟩
      · exact bel5 HB3.out (Nat.le_refl _) _ _ _ _ _
end Go.Proofs.YtpijpeocdlnhiaaGreatDoor
