/- Texts for programTexts_holds, joined: TParse, TList, TRefT, TRefV. -/
import Derived.Test.YtpijpeocdlnhiaaGreatDoorTp13
import Derived.Test.YtpijpeocdlnhiaaGreatDoorTp02
import Derived.Test.YtpijpeocdlnhiaaGreatDoorTp09
import Derived.Test.YtpijpeocdlnhiaaGreatDoorTp12
set_option linter.unusedVariables false
set_option linter.unusedSimpArgs false
namespace Go.Proofs.YtpijpeocdlnhiaaGreatDoor
open Go.RowKit
def ParsePost (w : World) (r : VT × List UInt8) (e : Ending) (w' : World) : Prop :=
  (∃ v : VV, e = .returned (.tuple #[v.val, .string ⟨r.2.toArray⟩]) ∧ TOwn w' r.1 v (fun b => w.heap.size ≤ b ∧ b < w'.heap.size)) ∧ Below w.heap.size w w'
theorem wordP_nil (s : List UInt8) : (wordP s).l = [] := by
  unfold wordP
  split
  · rfl
  · split
    · rfl
    · split
      · rfl
      · rfl
set_option maxRecDepth 100000 in
set_option maxHeartbeats 4000000 in
theorem parse_word (s : ByteArray) (hs : s.size ≤ 1000000) (k : Nat) (hk : k ≤ 8) (w : World) (hB : Base w) (h : k = 0 ∨ s.data.toList.head? ≠ some 91) :
    Calls Tryz.prog 36 #[.string s, .int .i64 k] w (ParsePost w (wordP (s.data.toList.take (wN s.data.toList)), s.data.toList.drop (wN s.data.toList))) := by
  have HP0 : ∀ W, Calls Tryz.prog 67 #[.string s, .string ⟨#[91]⟩] W fun e w' => e = .returned (.bool (decide (s.data.toList.head? = some 91))) ∧ w' = W := fun W => by
    have h := Tryz.strings_HasPrefix s ⟨#[91]⟩ W
    rw [show (⟨#[91]⟩ : ByteArray).data.toList = [91] from rfl, head_pre] at h
    exact h
  have HP := Lib.hid HP0
  have HIX := fun W => idx_any s hs W
  have hN : ∃ n : Nat, n = wN s.data.toList ∧ n ≤ s.size := ⟨_, rfl, by rw [Lib.size_eq]; exact wN_le _⟩
  obtain ⟨n, hn, hns⟩ := hN
  have hixv : ixW s.data.toList = if n < s.size then (n : Int) else -1 := by unfold ixW; rw [← hn, ← Lib.size_eq]
  rw [hixv] at HIX
  have HIX2 := Lib.hid HIX
  have hx1 : (s.extract 0 n).data.toList = s.data.toList.take n := by rw [ex_list]; simp
  have hx1s : (s.extract 0 n).size ≤ 1000000 := by rw [Lib.size_eq, hx1, List.length_take, ← Lib.size_eq]; omega
  have hx2 : (s.extract n s.size) = ⟨(s.data.toList.drop n).toArray⟩ := by
    refine bs_of ?_
    rw [ex_list, List.take_of_length_le]
    rw [List.length_drop, ← Lib.size_eq]; exact Nat.le_refl _
  rw [← hn]
  have HWA : Hid (∀ W, Below w.heap.size w W → Calls Tryz.prog 69 #[.string (s.extract 0 n)] W fun e w' => e = .returned (atomV (wordP (s.data.toList.take n))) ∧ Below W.heap.size W w') := fun W hW => by
    have h := word_any (s.extract 0 n) hx1s W (hB.later hW)
    rw [hx1] at h
    exact h
  have HX2 := Lib.hid hx2
  have HX : Hid ((v5 w 0).heap[w.heap.size]? = some (.cells #[.int .i64 0, .int .i64 0, .float .f64 0, .string ⟨#[]⟩, .slice none 0 0] 26 (0, 0))) := heap_alloc_new _ _
  have HB1 : Hid (Below w.heap.size w (v5 w 0)) := (Below.refl _ _).alloc (Nat.le_refl _) _
  have HTN := Lib.hid (wordP_nil (s.data.toList.take n))
  obtain ⟨T, hT⟩ : ∃ T, T = wordP (s.data.toList.take n) := ⟨_, rfl⟩
  rw [← hT] at HWA HTN ⊢
  obtain ⟨rl, hrl⟩ : ∃ rl, rl = s.data.toList.drop n := ⟨_, rfl⟩
  rw [← hrl] at HX2 ⊢
  clear HP0 HIX hixv hx1 hx1s hx2 hB hT hrl hn
  obtain ⟨tk, tn, tf, ts, tl⟩ := T
  have htl : tl = [] := HTN.out
  subst htl
  have HWC : Hid (∀ W, Below w.heap.size w W → Calls Tryz.prog 69 #[.string (s.extract 0 n)] W fun e w' => e = .returned (.agg #[.int .i64 tk, .int .i64 tn, .float .f64 tf, .string ts, .slice none 0 0]) ∧ Below W.heap.size W w') := HWA.out
  clear HWA HTN
  have hh : k = 0 ∨ (0 < k ∧ decide (s.data.toList.head? = some 91) = false) := by
    rcases h with h | h
    · exact .inl h
    · rcases Nat.eq_zero_or_pos k with h0 | h0
      · exact .inl h0
      · exact .inr ⟨h0, decide_eq_false h⟩
  clear h
  generalize decide (s.data.toList.head? = some 91) = pb at *
  have hi : ∃ iv : Int, (∀ W, Calls Tryz.prog 68 #[.string s, .string cutB] W fun e w' => e = .returned (.int .i64 iv) ∧ Below W.heap.size W w') ∧ ((0 ≤ iv ∧ iv = (n : Int)) ∨ (iv < 0 ∧ Hid (s.size = n))) := by
    by_cases hlt : n < s.size
    · exact ⟨n, fun W => by have h := HIX2.out W; rw [if_pos hlt] at h; exact h, .inl ⟨by omega, rfl⟩⟩
    · exact ⟨-1, fun W => by have h := HIX2.out W; rw [if_neg hlt] at h; exact h, .inr ⟨by decide, show s.size = n by omega⟩⟩
  obtain ⟨iv, hIV, hi⟩ := hi
  have HIX3 := Lib.hid hIV
  have hk0 : pb = false ∨ (pb = true ∧ k = 0) := by
    rcases hh with h | h
    · cases pb
      · exact .inl rfl
      · exact .inr ⟨rfl, h⟩
    · exact .inl h.2
  clear hh HIX2 hIV
  have hcut : (⟨#[32, 93]⟩ : ByteArray) = cutB := rfl
  rcases hi with ⟨hi0, rfl⟩ | ⟨hi0, HNE⟩
  · rcases hk0 with rfl | ⟨rfl, rfl⟩
    · go_enter Tryz.func36, Tryz.ntmps36
      go_wp2_with fail
      refine (HP.out _).mono ?_
      rintro e w1 ⟨rfl, rfl⟩
      go_wp2_with fail
      refine (HIX3.out _).mono ?_
      rintro e w2 ⟨rfl, hb2⟩
      have HB2 := Lib.hid (HB1.out.trans (hb2.mono HB1.out.size))
      have HN2 := Lib.hid ((hb2.block _ (lt_of_heap HX.out)).trans HX.out)
      have HWB := Lib.hid (HWC.out _ HB2.out.drew)
      clear hb2 HIX3 HWC HP
      go_upto_region 6 with fail
      have hr2 := lt_of_heap HN2.out
      go_region_law (
        go_simp
        go_at_call 69
        refine HWB.out.mono ?_
        rintro e w3 ⟨rfl, hb3⟩
        have HB3 := Lib.hid (HB2.out.drew.trans (hb3.mono HB2.out.drew.size))
        have HN3 := Lib.hid ((hb3.block _ hr2).trans HN2.out)
        have hr3 := lt_of_heap HN3.out
        have hc0 := cellAt HN3.out 0 (v := .int .i64 0) rfl
        have hc1 := cellAt HN3.out 1 (v := .int .i64 0) rfl
        have hc2 := cellAt HN3.out 2 (v := .float .f64 0) rfl
        have hc3 := cellAt HN3.out 3 (v := .string ⟨#[]⟩) rfl
        have hc4 := cellAt HN3.out 4 (v := .slice none 0 0) rfl
        have hf0 := freeAt HN3.out 0
        have hf1 := freeAt HN3.out 1
        have hf2 := freeAt HN3.out 2
        have hf3 := freeAt HN3.out 3
        have hf4 := freeAt HN3.out 4
        clear hb3
        try dsimp only)
      all_goals go_wp2_with fail
      simp only [Act.put, List.getElem_cons_zero, List.getElem_cons_succ, List.getElem_toArray, Array.set!_eq_setIfInBounds, List.setIfInBounds_toArray, List.set_cons_zero, List.set_cons_succ]
      refine bodyPost_ret (results_row_tmp (P := Tryz.prog) rfl _ _ w.heap.size 26 _ (0, 0) _ rfl (set5 HN3.out rfl _ _ _ _ _) Tryz.underlying26 rfl rfl) rfl ?_
      refine ⟨⟨⟨tk, tn, tf, ts, none, 0, 0⟩, ?_, ?_⟩, ?_⟩
      · show Ending.returned (.tuple #[.agg #[.int .i64 tk, .int .i64 tn, .float .f64 tf, .string ts, .slice none 0 0], .string (s.extract n s.size)]) = _
        rw [HX2.out]
      · rw [TOwn]
        exact ⟨rfl, rfl, rfl, rfl, rfl, Nat.zero_le _, .inl ⟨rfl, Reads.nil _ _⟩⟩
      · exact bel5 HB3.out (Nat.le_refl _) _ _ _ _ _
    · go_enter Tryz.func36, Tryz.ntmps36
      go_wp2_with fail
      refine (HP.out _).mono ?_
      rintro e w1 ⟨rfl, rfl⟩
      go_wp2_with fail
      refine (HIX3.out _).mono ?_
      rintro e w2 ⟨rfl, hb2⟩
      have HB2 := Lib.hid (HB1.out.trans (hb2.mono HB1.out.size))
      have HN2 := Lib.hid ((hb2.block _ (lt_of_heap HX.out)).trans HX.out)
      have HWB := Lib.hid (HWC.out _ HB2.out.drew)
      clear hb2 HIX3 HWC HP
      go_upto_region 6 with fail
      have hr2 := lt_of_heap HN2.out
      go_region_law (
        go_simp
        go_at_call 69
        refine HWB.out.mono ?_
        rintro e w3 ⟨rfl, hb3⟩
        have HB3 := Lib.hid (HB2.out.drew.trans (hb3.mono HB2.out.drew.size))
        have HN3 := Lib.hid ((hb3.block _ hr2).trans HN2.out)
        have hr3 := lt_of_heap HN3.out
        have hc0 := cellAt HN3.out 0 (v := .int .i64 0) rfl
        have hc1 := cellAt HN3.out 1 (v := .int .i64 0) rfl
        have hc2 := cellAt HN3.out 2 (v := .float .f64 0) rfl
        have hc3 := cellAt HN3.out 3 (v := .string ⟨#[]⟩) rfl
        have hc4 := cellAt HN3.out 4 (v := .slice none 0 0) rfl
        have hf0 := freeAt HN3.out 0
        have hf1 := freeAt HN3.out 1
        have hf2 := freeAt HN3.out 2
        have hf3 := freeAt HN3.out 3
        have hf4 := freeAt HN3.out 4
        clear hb3
        try dsimp only)
      all_goals go_wp2_with fail
      simp only [Act.put, List.getElem_cons_zero, List.getElem_cons_succ, List.getElem_toArray, Array.set!_eq_setIfInBounds, List.setIfInBounds_toArray, List.set_cons_zero, List.set_cons_succ]
      refine bodyPost_ret (results_row_tmp (P := Tryz.prog) rfl _ _ w.heap.size 26 _ (0, 0) _ rfl (set5 HN3.out rfl _ _ _ _ _) Tryz.underlying26 rfl rfl) rfl ?_
      refine ⟨⟨⟨tk, tn, tf, ts, none, 0, 0⟩, ?_, ?_⟩, ?_⟩
      · show Ending.returned (.tuple #[.agg #[.int .i64 tk, .int .i64 tn, .float .f64 tf, .string ts, .slice none 0 0], .string (s.extract n s.size)]) = _
        rw [HX2.out]
      · rw [TOwn]
        exact ⟨rfl, rfl, rfl, rfl, rfl, Nat.zero_le _, .inl ⟨rfl, Reads.nil _ _⟩⟩
      · exact bel5 HB3.out (Nat.le_refl _) _ _ _ _ _
  · rcases hk0 with rfl | ⟨rfl, rfl⟩
    · go_enter Tryz.func36, Tryz.ntmps36
      go_wp2_with fail
      refine (HP.out _).mono ?_
      rintro e w1 ⟨rfl, rfl⟩
      go_wp2_with fail
      refine (HIX3.out _).mono ?_
      rintro e w2 ⟨rfl, hb2⟩
      have HB2 := Lib.hid (HB1.out.trans (hb2.mono HB1.out.size))
      have HN2 := Lib.hid ((hb2.block _ (lt_of_heap HX.out)).trans HX.out)
      have HWB := Lib.hid (HWC.out _ HB2.out.drew)
      clear hb2 HIX3 HWC HP
      go_upto_region 6 with fail
      rw [HNE.out]
      have hr2 := lt_of_heap HN2.out
      go_region_law (
        go_simp
        go_at_call 69
        refine HWB.out.mono ?_
        rintro e w3 ⟨rfl, hb3⟩
        have HB3 := Lib.hid (HB2.out.drew.trans (hb3.mono HB2.out.drew.size))
        have HN3 := Lib.hid ((hb3.block _ hr2).trans HN2.out)
        have hr3 := lt_of_heap HN3.out
        have hc0 := cellAt HN3.out 0 (v := .int .i64 0) rfl
        have hc1 := cellAt HN3.out 1 (v := .int .i64 0) rfl
        have hc2 := cellAt HN3.out 2 (v := .float .f64 0) rfl
        have hc3 := cellAt HN3.out 3 (v := .string ⟨#[]⟩) rfl
        have hc4 := cellAt HN3.out 4 (v := .slice none 0 0) rfl
        have hf0 := freeAt HN3.out 0
        have hf1 := freeAt HN3.out 1
        have hf2 := freeAt HN3.out 2
        have hf3 := freeAt HN3.out 3
        have hf4 := freeAt HN3.out 4
        clear hb3
        try dsimp only)
      all_goals go_wp2_with fail
      simp only [Act.put, List.getElem_cons_zero, List.getElem_cons_succ, List.getElem_toArray, Array.set!_eq_setIfInBounds, List.setIfInBounds_toArray, List.set_cons_zero, List.set_cons_succ]
      refine bodyPost_ret (results_row_tmp (P := Tryz.prog) rfl _ _ w.heap.size 26 _ (0, 0) _ rfl (set5 HN3.out rfl _ _ _ _ _) Tryz.underlying26 rfl rfl) rfl ?_
      refine ⟨⟨⟨tk, tn, tf, ts, none, 0, 0⟩, ?_, ?_⟩, ?_⟩
      · show Ending.returned (.tuple #[.agg #[.int .i64 tk, .int .i64 tn, .float .f64 tf, .string ts, .slice none 0 0], .string (s.extract n s.size)]) = _
        rw [HX2.out]
      · rw [TOwn]
        exact ⟨rfl, rfl, rfl, rfl, rfl, Nat.zero_le _, .inl ⟨rfl, Reads.nil _ _⟩⟩
      · exact bel5 HB3.out (Nat.le_refl _) _ _ _ _ _
    · go_enter Tryz.func36, Tryz.ntmps36
      go_wp2_with fail
      refine (HP.out _).mono ?_
      rintro e w1 ⟨rfl, rfl⟩
      go_wp2_with fail
      refine (HIX3.out _).mono ?_
      rintro e w2 ⟨rfl, hb2⟩
      have HB2 := Lib.hid (HB1.out.trans (hb2.mono HB1.out.size))
      have HN2 := Lib.hid ((hb2.block _ (lt_of_heap HX.out)).trans HX.out)
      have HWB := Lib.hid (HWC.out _ HB2.out.drew)
      clear hb2 HIX3 HWC HP
      go_upto_region 6 with fail
      rw [HNE.out]
      have hr2 := lt_of_heap HN2.out
      go_region_law (
        go_simp
        go_at_call 69
        refine HWB.out.mono ?_
        rintro e w3 ⟨rfl, hb3⟩
        have HB3 := Lib.hid (HB2.out.drew.trans (hb3.mono HB2.out.drew.size))
        have HN3 := Lib.hid ((hb3.block _ hr2).trans HN2.out)
        have hr3 := lt_of_heap HN3.out
        have hc0 := cellAt HN3.out 0 (v := .int .i64 0) rfl
        have hc1 := cellAt HN3.out 1 (v := .int .i64 0) rfl
        have hc2 := cellAt HN3.out 2 (v := .float .f64 0) rfl
        have hc3 := cellAt HN3.out 3 (v := .string ⟨#[]⟩) rfl
        have hc4 := cellAt HN3.out 4 (v := .slice none 0 0) rfl
        have hf0 := freeAt HN3.out 0
        have hf1 := freeAt HN3.out 1
        have hf2 := freeAt HN3.out 2
        have hf3 := freeAt HN3.out 3
        have hf4 := freeAt HN3.out 4
        clear hb3
        try dsimp only)
      all_goals go_wp2_with fail
      simp only [Act.put, List.getElem_cons_zero, List.getElem_cons_succ, List.getElem_toArray, Array.set!_eq_setIfInBounds, List.setIfInBounds_toArray, List.set_cons_zero, List.set_cons_succ]
      refine bodyPost_ret (results_row_tmp (P := Tryz.prog) rfl _ _ w.heap.size 26 _ (0, 0) _ rfl (set5 HN3.out rfl _ _ _ _ _) Tryz.underlying26 rfl rfl) rfl ?_
      refine ⟨⟨⟨tk, tn, tf, ts, none, 0, 0⟩, ?_, ?_⟩, ?_⟩
      · show Ending.returned (.tuple #[.agg #[.int .i64 tk, .int .i64 tn, .float .f64 tf, .string ts, .slice none 0 0], .string (s.extract n s.size)]) = _
        rw [HX2.out]
      · rw [TOwn]
        exact ⟨rfl, rfl, rfl, rfl, rfl, Nat.zero_le _, .inl ⟨rfl, Reads.nil _ _⟩⟩
      · exact bel5 HB3.out (Nat.le_refl _) _ _ _ _ _
theorem Cl.stored {w : World} {B : Nat} {sl : Value} {ts : List VT} {vs : List VV} {col : Nat → Nat} (h : Cl w B sl ts vs col) {p : Addr} (hp : p.block < B) {u : Value} : Cl (w.setCell p u) B sl ts vs col := by
  have hs : (w.setCell p u).heap.size = w.heap.size := by simp [World.setCell]
  have hb : ∀ k, B ≤ k → (w.setCell p u).heap[k]? = w.heap[k]? := fun k hk => Below.heap_setCell _ _ _ _ (by omega)
  refine ⟨(h.1.frame (fun k hk _ => hb k hk.1.1)).mono (fun b hb1 => by rw [hs]; exact hb1), TOwns.mk h.2.length (fun j hj => ?_)⟩
  obtain ⟨v, h1, h2⟩ := h.2.get j hj
  exact ⟨v, h1, (h2.frame _ (fun k hk _ => hb k hk.1.1)).mono _ (fun b hb1 => by rw [hs]; exact hb1)⟩
theorem loopP_nil (p : List UInt8 → VT × List UInt8) (n : Nat) (acc : List VT) : loopP p n [] acc = (acc, []) := by cases n <;> rfl
theorem loopP_end (p : List UInt8 → VT × List UInt8) (n : Nat) (r : List UInt8) (acc : List VT) : loopP p (n + 1) (93 :: r) acc = (acc, r) := by rw [loopP]; rfl
theorem loopP_32 {p : List UInt8 → VT × List UInt8} {n : Nat} {c : UInt8} {r q : List UInt8} {acc : List VT} {t : VT} (hc : c ≠ 93) (h : p (c :: r) = (t, 32 :: q)) : loopP p (n + 1) (c :: r) acc = loopP p n q (acc ++ [t]) := by
  rw [loopP.eq_def]; simp [hc, h]
theorem loopP_93 {p : List UInt8 → VT × List UInt8} {n : Nat} {c : UInt8} {r q : List UInt8} {acc : List VT} {t : VT} (hc : c ≠ 93) (h : p (c :: r) = (t, 93 :: q)) : loopP p (n + 1) (c :: r) acc = (acc ++ [t], q) := by
  rw [loopP.eq_def]; simp [hc, h]
theorem loopP_out {p : List UInt8 → VT × List UInt8} {n : Nat} {c : UInt8} {r q : List UInt8} {acc : List VT} {t : VT} (hc : c ≠ 93) (h : p (c :: r) = (t, q)) (h1 : q.head? ≠ some 32) (h2 : q.head? ≠ some 93) : loopP p (n + 1) (c :: r) acc = (acc ++ [t], q) := by
  rw [loopP.eq_def]
  simp only [hc, h, if_false]
  cases q with
  | nil => rfl
  | cons d q => simp at h1 h2; simp [h1, h2]
set_option maxRecDepth 100000 in
theorem list_post {w wr : World} {acc : List VT} {vs : List VV} {col : Nat → Nat} {a : Option Addr} {c : Nat} {ac : Act} {F : List VT × List UInt8} (hN : wr.heap[w.heap.size]? = some (.cells #[.int .i64 4, .int .i64 0, .float .f64 0, .string ⟨#[]⟩, .slice a acc.length c] 26 (0, 0)))
    (hC : Cl wr (w.heap.size + 1) (.slice a acc.length c) acc vs col) (hB : Below w.heap.size w wr) (hm : acc.length ≤ maxLen) {x : ByteArray} (hF : F = (acc, x.data.toList)) (h4 : ac.tmps.getD 4 undef = .pointer (some ⟨w.heap.size, 0, none⟩)) (h5 : ac.tmps.getD 5 undef = .string x) (hd : ac.defers = []) :
    bodyPost Tryz.prog Tryz.f36 (ParsePost w (.node 4 0 0 ⟨#[]⟩ F.1, F.2)) .ret ac (((((wr.setCell ⟨w.heap.size, 0, none⟩ (.int .i64 4)).setCell ⟨w.heap.size, 1, none⟩ (.int .i64 0)).setCell ⟨w.heap.size, 2, none⟩ (.float .f64 0)).setCell ⟨w.heap.size, 3, none⟩ (.string ⟨#[]⟩)).setCell ⟨w.heap.size, 4, none⟩ (.slice a acc.length c)) := by
  have hr := results_row_tmp (P := Tryz.prog) (fn := Tryz.f36) rfl ac.tmps _ w.heap.size 26 _ (0, 0) _ h4 (set5 hN rfl (.int .i64 4) (.int .i64 0) (.float .f64 0) (.string ⟨#[]⟩) (.slice a acc.length c)) Tryz.underlying26 rfl rfl
  rw [h5] at hr
  refine bodyPost_ret hr hd ?_
  subst hF
  have hl : w.heap.size < w.heap.size + 1 := Nat.lt_succ_self _
  have hCF := ((((hC.stored (p := ⟨w.heap.size, 0, none⟩) (u := .int .i64 4) hl).stored (p := ⟨w.heap.size, 1, none⟩) (u := .int .i64 0) hl).stored (p := ⟨w.heap.size, 2, none⟩) (u := .float .f64 0) hl).stored (p := ⟨w.heap.size, 3, none⟩) (u := .string ⟨#[]⟩) hl).stored (p := ⟨w.heap.size, 4, none⟩) (u := .slice a acc.length c) hl
  exact ⟨⟨⟨4, 0, 0, ⟨#[]⟩, a, acc.length, c⟩, rfl, (hCF.own hm).mono _ (fun b hb => ⟨by omega, hb.2⟩)⟩, bel5 hB (Nat.le_refl _) _ _ _ _ _⟩
theorem ba_get0 {s : ByteArray} {b : UInt8} {r : List UInt8} (h : 0 < s.size) (hs : s.data.toList = b :: r) : s[0]'h = b := by
  have h1 : s.data.toList[0]? = some b := by rw [hs]; rfl
  rw [Array.getElem?_toList] at h1
  have h2 : 0 < s.data.size := h
  rw [Array.getElem?_eq_getElem h2] at h1
  exact Option.some.inj h1
theorem bne93 {b : UInt8} (h : b ≠ 93) : ((b.toNat : Int) != 93) = true := by
  rw [bne_iff_ne]
  intro e
  exact h (UInt8.toNat.inj (by show b.toNat = 93; omega))
theorem tail1 (s : ByteArray) : (s.extract 1 s.size).data.toList = s.data.toList.tail := by
  rw [ex_list, List.drop_one, List.take_of_length_le]
  rw [List.length_tail, ← Lib.size_eq]; exact Nat.le_refl _
def left93 (s : ByteArray) : Nat := if s.data.toList.head? = some 93 then 0 else 1
def leftV : Value → Nat
  | .string sr => 2 * sr.size + left93 sr
  | _ => 0
theorem left93_le (s : ByteArray) : left93 s ≤ 1 := by unfold left93; split <;> omega
set_option maxRecDepth 100000 in
set_option maxHeartbeats 4000000 in
theorem parse_list (k : Nat) (hk : k < 8) (IH : ∀ (s : ByteArray), s.size ≤ 1000000 → ∀ W, Base W → Calls Tryz.prog 36 #[.string s, .int .i64 k] W (ParsePost W (parseP k s.data.toList)))
    (s : ByteArray) (hs : s.size ≤ 1000000) (w : World) (hB : Base w) (h : s.data.toList.head? = some 91) :
    Calls Tryz.prog 36 #[.string s, .int .i64 (k + 1 : Nat)] w (ParsePost w (listP (parseP k) s.data.toList.tail)) := by
  have HP0 : ∀ (x : ByteArray) (c : UInt8) W, Calls Tryz.prog 67 #[.string x, .string ⟨#[c]⟩] W fun e w' => e = .returned (.bool (decide (x.data.toList.head? = some c))) ∧ w' = W := fun x c W => by
    have h := Tryz.strings_HasPrefix x ⟨#[c]⟩ W
    rw [show (⟨#[c]⟩ : ByteArray).data.toList = [c] from rfl, head_pre] at h
    exact h
  have HP := Lib.hid HP0
  have HP1 : Hid (∀ W, Calls Tryz.prog 67 #[.string s, .string ⟨#[91]⟩] W fun e w' => e = .returned (.bool true) ∧ w' = W) := fun W => by
    have h2 := HP0 s 91 W
    rw [decide_eq_true h] at h2
    exact h2
  obtain ⟨F, hF⟩ : ∃ F, F = loopP (parseP k) s.data.toList.tail.length s.data.toList.tail [] := ⟨_, rfl⟩
  have hlp : listP (parseP k) s.data.toList.tail = (.node 4 0 0 ⟨#[]⟩ F.1, F.2) := by rw [hF]; rfl
  rw [hlp]
  have hsz0 : 0 < s.size := by
    rw [Lib.size_eq]
    cases hd : s.data.toList with
    | nil => rw [hd] at h; cases h
    | cons a b => simp
  have hx : (s.extract 1 s.size).data.toList = s.data.toList.tail := by
    rw [ex_list, List.drop_one, List.take_of_length_le]
    rw [List.length_tail, ← Lib.size_eq]; exact Nat.le_refl _
  have hxs : (s.extract 1 s.size).size + 1 = s.size := by rw [Lib.size_eq, hx, List.length_tail, ← Lib.size_eq]; omega
  have HS : Hid (∃ n, loopP (parseP k) n (s.extract 1 s.size).data.toList [] = F ∧ (s.extract 1 s.size).size ≤ n) := ⟨_, by rw [hx]; exact hF.symm, by rw [Lib.size_eq, hx]; exact Nat.le_refl _⟩
  have HIH := Lib.hid IH
  have HB0 := Lib.hid hB
  have HOK := Lib.hid (parseP_ok k)
  clear IH hB hlp hF h hx HP0
  obtain ⟨L, hL1, hL2, hL4⟩ : ∃ L : Int, L = (k + 1 : Nat) ∧ IntKind.i64.wrap (L - 1) = (k : Int) ∧ (L == 0) = false := ⟨_, rfl, by rw [IntKind.wrap_i64]; omega, by rw [beq_eq_false_iff_ne]; omega⟩
  rw [← hL1]
  clear hL1
  have HX : Hid ((w.alloc (.cells #[.int .i64 4, .int .i64 0, .float .f64 0, .string ⟨#[]⟩, .slice none 0 0] 26)).heap[w.heap.size]? = some (.cells #[.int .i64 4, .int .i64 0, .float .f64 0, .string ⟨#[]⟩, .slice none 0 0] 26 (0, 0))) := heap_alloc_new _ _
  have HB1 : Hid (Below w.heap.size w (w.alloc (.cells #[.int .i64 4, .int .i64 0, .float .f64 0, .string ⟨#[]⟩, .slice none 0 0] 26))) := (Below.refl _ _).alloc (Nat.le_refl _) _
  go_enter Tryz.func36, Tryz.ntmps36
  go_wp2_with fail
  refine (HP1.out _).mono ?_
  rintro e w1 ⟨rfl, rfl⟩
  go_wp2_with fail
  obtain ⟨s1, hs1⟩ : ∃ s1, s1 = s.extract 1 s.size := ⟨_, rfl⟩
  rw [← hs1] at HS hxs ⊢
  clear hs1 HP1
  go_loopw [5] (fun i w' => ∃ (sr : ByteArray) (acc : List VT) (vs : List VV) (col : Nat → Nat) (a : Option Addr) (c : Nat), i = .string sr ∧ sr.size ≤ 1000000 ∧
      acc.length + sr.size + left93 sr ≤ 1000001 ∧ Hid (∃ n, loopP (parseP k) n sr.data.toList acc = F ∧ sr.size ≤ n) ∧
      Hid (w'.heap[w.heap.size]? = some (.cells #[.int .i64 4, .int .i64 0, .float .f64 0, .string ⟨#[]⟩, .slice a acc.length c] 26 (0, 0))) ∧
      Hid (Cl w' (w.heap.size + 1) (.slice a acc.length c) acc vs col) ∧ Hid (Below w.heap.size w w') ∧ Hid (w.heap.size + 1 ≤ w'.heap.size)) (fun i _ => leftV i)
  case atStart =>
    exact ⟨s1, [], [], fun _ => 0, none, 0, rfl, by omega, by have : left93 s1 ≤ 1 := (by unfold left93; split <;> omega); show 0 + _ + _ ≤ _; omega, HS.out, HX.out, Cl.nil _ _, HB1.out, by show _ ≤ _; simp⟩
  case round =>
    obtain ⟨sr, acc, vs, col, a, c, rfl, hsz, hacc, HL, HN, HCL, HBE, HSZ⟩ := hrel
    rcases hsr : sr.data.toList with - | ⟨b, r⟩
    · have hsr2 : sr = ⟨#[]⟩ := by rw [← ba_data' sr, hsr]
      have HF : Hid (F = (acc, [])) := by
        obtain ⟨n, h1, -⟩ := HL.out
        rw [hsr, loopP_nil] at h1
        exact h1.symm
      subst hsr2
      clear hsr HL
      have hr2 := lt_of_heap HN.out
      have hc0 := cellAt HN.out 0 (v := .int .i64 4) rfl
      have hc1 := cellAt HN.out 1 (v := .int .i64 0) rfl
      have hc2 := cellAt HN.out 2 (v := .float .f64 0) rfl
      have hc3 := cellAt HN.out 3 (v := .string ⟨#[]⟩) rfl
      have hc4 := cellAt HN.out 4 (v := .slice a acc.length c) rfl
      have hf0 := freeAt HN.out 0
      have hf1 := freeAt HN.out 1
      have hf2 := freeAt HN.out 2
      have hf3 := freeAt HN.out 3
      have hf4 := freeAt HN.out 4
      go_wp2_with fail
      exact list_post HN.out HCL.out HBE.out (by unfold maxLen; omega) HF.out rfl rfl rfl
    · by_cases hb : b = 93
      · subst hb
        have hpos : 0 < sr.size := by rw [Lib.size_eq, hsr]; simp
        have hie : sr.toList.isEmpty = false := by rw [ByteArray.toList_eq, hsr]; rfl
        have h0 : ((((sr[0]'hpos).toNat : Nat) : Int) != 93) = false := by
          rw [ba_get0 hpos hsr]; rfl
        have HF : Hid (F = (acc, (sr.extract 1 sr.size).data.toList)) := by
          obtain ⟨n, h1, h2⟩ := HL.out
          obtain ⟨m, rfl⟩ : ∃ m, n = m + 1 := ⟨n - 1, by omega⟩
          rw [hsr, loopP_end] at h1
          rw [Hid, ← h1, tail1, hsr]
          rfl
        have hr2 := lt_of_heap HN.out
        have hc0 := cellAt HN.out 0 (v := .int .i64 4) rfl
        have hc1 := cellAt HN.out 1 (v := .int .i64 0) rfl
        have hc2 := cellAt HN.out 2 (v := .float .f64 0) rfl
        have hc3 := cellAt HN.out 3 (v := .string ⟨#[]⟩) rfl
        have hc4 := cellAt HN.out 4 (v := .slice a acc.length c) rfl
        have hf0 := freeAt HN.out 0
        have hf1 := freeAt HN.out 1
        have hf2 := freeAt HN.out 2
        have hf3 := freeAt HN.out 3
        have hf4 := freeAt HN.out 4
        clear hsr HL
        go_wp2_with fail
        exact list_post HN.out HCL.out HBE.out (by unfold maxLen; omega) HF.out rfl rfl rfl
      · have hpos : 0 < sr.size := by rw [Lib.size_eq, hsr]; simp
        have hie : sr.toList.isEmpty = false := by rw [ByteArray.toList_eq, hsr]; rfl
        have h0 : ((((sr[0]'hpos).toNat : Nat) : Int) != 93) = true := by
          rw [ba_get0 hpos hsr]
          exact bne93 hb
        have hlf : left93 sr = 1 := by unfold left93; rw [hsr, if_neg (by simpa using hb)]
        obtain ⟨⟨t, rl⟩, hp⟩ : ∃ p, p = parseP k sr.data.toList := ⟨_, rfl⟩
        have hrl : rl.length ≤ sr.size := by
          have h := (HOK.out sr.data.toList (by rw [← Lib.size_eq]; unfold maxLen; omega)).2
          rw [← hp, ← Lib.size_eq] at h
          exact h
        have HC : Hid (∀ W, Below wr.heap.size wr W → Calls Tryz.prog 36 #[.string sr, .int .i64 k] W (ParsePost W (t, rl))) := fun W hW => by
          have h := HIH.out sr hsz W (HB0.out.later (HBE.out.trans (hW.mono HBE.out.size)))
          rw [← hp] at h
          exact h
        have HLP : Hid (∃ m, loopP (parseP k) (m + 1) (b :: r) acc = F ∧ sr.size ≤ m + 1) := by
          obtain ⟨n, h1, h2⟩ := HL.out
          obtain ⟨m, rfl⟩ : ∃ m, n = m + 1 := ⟨n - 1, by omega⟩
          rw [hsr] at h1
          exact ⟨m, h1, h2⟩
        have HPB : Hid (parseP k (b :: r) = (t, rl)) := by rw [Hid, ← hsr, ← hp]
        have HNE := Lib.hid hb
        clear hsr hp HL hb HIH
        obtain ⟨rs, hrs⟩ : ∃ rs : ByteArray, rs = ⟨rl.toArray⟩ := ⟨_, rfl⟩
        have hrs2 : rs.data.toList = rl := by rw [hrs]
        have hrs3 : rs.size ≤ sr.size := by rw [Lib.size_eq, hrs2]; exact hrl
        have HRS := Lib.hid hrs
        have HRL := Lib.hid hrs2
        clear hrs hrs2 hrl
        have hr2 := lt_of_heap HN.out
        go_wp2_with fail
        refine (HC.out _ ((Below.refl _ _).alloc (Nat.le_refl _) _)).mono ?_
        rintro e w1 ⟨⟨v, rfl, hv⟩, hb⟩
        dsimp only at hv ⊢
        rw [← HRS.out]
        have HBa : Below wr.heap.size wr (wr.alloc (.cells #[.int .i64 0, .int .i64 0, .float .f64 0, .string ⟨#[]⟩, .slice none 0 0] 26)) := (Below.refl _ _).alloc (Nat.le_refl _) _
        have HB01 := HBa.trans (hb.mono HBa.size)
        have HX1 := (hb.block wr.heap.size (by simp)).trans (heap_alloc_new wr (.cells #[.int .i64 0, .int .i64 0, .float .f64 0, .string ⟨#[]⟩, .slice none 0 0] 26))
        have HN1 := (HB01.block _ hr2).trans HN.out
        have hc0 := cellAt HX1 0 (v := .int .i64 0) rfl
        have hc1 := cellAt HX1 1 (v := .int .i64 0) rfl
        have hc2 := cellAt HX1 2 (v := .float .f64 0) rfl
        have hc3 := cellAt HX1 3 (v := .string ⟨#[]⟩) rfl
        have hc4 := cellAt HX1 4 (v := .slice none 0 0) rfl
        have hf0 := freeAt HX1 0
        have hf1 := freeAt HX1 1
        have hf2 := freeAt HX1 2
        have hf3 := freeAt HX1 3
        have hf4 := freeAt HX1 4
        have HX2 := Lib.hid (set5 HX1 rfl (.int .i64 v.k) (.int .i64 v.n) (.float .f64 v.f) (.string v.s) (.slice v.a v.l v.c))
        have hoth : ∀ k, k ≠ wr.heap.size → (((((w1.setCell ⟨wr.heap.size, 0, none⟩ (.int .i64 v.k)).setCell ⟨wr.heap.size, 1, none⟩ (.int .i64 v.n)).setCell ⟨wr.heap.size, 2, none⟩ (.float .f64 v.f)).setCell ⟨wr.heap.size, 3, none⟩ (.string v.s)).setCell ⟨wr.heap.size, 4, none⟩ (.slice v.a v.l v.c)).heap[k]? = w1.heap[k]? := fun k hk => setCells_other wr.heap.size v.cells 0 w1 k hk
        have hszs : (((((w1.setCell ⟨wr.heap.size, 0, none⟩ (.int .i64 v.k)).setCell ⟨wr.heap.size, 1, none⟩ (.int .i64 v.n)).setCell ⟨wr.heap.size, 2, none⟩ (.float .f64 v.f)).setCell ⟨wr.heap.size, 3, none⟩ (.string v.s)).setCell ⟨wr.heap.size, 4, none⟩ (.slice v.a v.l v.c)).heap.size = w1.heap.size := setCells_size wr.heap.size v.cells 0 w1
        have HN2 := Lib.hid ((hoth w.heap.size (by omega)).trans HN1)
        have HU2 : Hid (TOwn (((((w1.setCell ⟨wr.heap.size, 0, none⟩ (.int .i64 v.k)).setCell ⟨wr.heap.size, 1, none⟩ (.int .i64 v.n)).setCell ⟨wr.heap.size, 2, none⟩ (.float .f64 v.f)).setCell ⟨wr.heap.size, 3, none⟩ (.string v.s)).setCell ⟨wr.heap.size, 4, none⟩ (.slice v.a v.l v.c)) t v (fun b => wr.heap.size ≤ b ∧ b < (((((w1.setCell ⟨wr.heap.size, 0, none⟩ (.int .i64 v.k)).setCell ⟨wr.heap.size, 1, none⟩ (.int .i64 v.n)).setCell ⟨wr.heap.size, 2, none⟩ (.float .f64 v.f)).setCell ⟨wr.heap.size, 3, none⟩ (.string v.s)).setCell ⟨wr.heap.size, 4, none⟩ (.slice v.a v.l v.c)).heap.size)) :=
          (hv.frame _ (fun k hk _ => hoth k (by have := hk.1; simp only [World.size_alloc] at this; omega))).mono _ (fun b hb => ⟨by have := hb.1; simp only [World.size_alloc] at this; omega, by rw [hszs]; exact hb.2⟩)
        have HB02 := Lib.hid (bel5 HB01 (Nat.le_refl _) (.int .i64 v.k) (.int .i64 v.n) (.float .f64 v.f) (.string v.s) (.slice v.a v.l v.c))
        clear hoth hszs hv hb HBa HB01 HX1 HN1
        go_upto_region 12 with fail
        clear hc0 hc1 hc2 hc3 hc4 hf0 hf1 hf2 hf3 hf4
        generalize (((((w1.setCell ⟨wr.heap.size, 0, none⟩ (.int .i64 v.k)).setCell ⟨wr.heap.size, 1, none⟩ (.int .i64 v.n)).setCell ⟨wr.heap.size, 2, none⟩ (.float .f64 v.f)).setCell ⟨wr.heap.size, 3, none⟩ (.string v.s)).setCell ⟨wr.heap.size, 4, none⟩ (.slice v.a v.l v.c)) = w2 at *
        have hx := cells5 HX2.out
        obtain ⟨hx0, hx1, hx2, hx3, hx4⟩ := hx
        have hn4 := cellAt HN2.out 4 (v := .slice a acc.length c) rfl
        have HR2 := Lib.hid (HCL.out.1.frame (fun k hk hl => HB02.out.block k hl))
        go_wp2_with (refine wpList_row elemVal rfl rfl (S := fun b => (w.heap.size + 1 ≤ b ∧ b < wr.heap.size) ∧ col b = 0) (v := .slice a acc.length c) (n := acc.length) (xs := flat vs) rfl (HR2.out.frame (fun k _ hk => Below.heap_alloc _ _ _ hk)) (y := .slice (some ⟨w2.heap.size, 0, none⟩) 1 1) (m := 1) (news := v.cells) rfl (Reads.block (heap_alloc_new w2 _) 1 5 rfl) (VV.one v) (by unfold maxLen; omega) (by omega) ?_
                     intro v5 w5 hr5 hch5
                     obtain ⟨a5, c5, rfl⟩ : ∃ a5 c5, v5 = .slice a5 (acc.length + 1) c5 := (by obtain ⟨-, a5, c5, h, -⟩ := hr5.reads; exact ⟨a5, c5, h⟩)
                     have HR5 := Lib.hid hr5
                     have HCH5 := Lib.hid hch5
                     have HN5 := Lib.hid (hch5.heap ((Below.heap_alloc _ _ _ (lt_of_heap HN2.out)).trans HN2.out) (by omega))
                     have hf5 := freeAt HN5.out 4
                     have hn5 := cellAt HN5.out 4 (v := .slice a acc.length c) rfl
                     clear hr5 hch5)
        refine (HP.out _ 32 _).mono ?_
        rintro e w6 ⟨rfl, rfl⟩
        have HCL6 : Hid (Cl w5 (w.heap.size + 1) (.slice a5 (acc.length + 1) c5) (acc ++ [t]) (vs ++ [v]) (fun b => if b < wr.heap.size then col b else if b < w2.heap.size then acc.length + 1 else 0)) :=
          HCL.out.step (w1 := w2) HSZ.out HU2.out HB02.out ((Below.refl _ _).alloc (Nat.le_refl _) _) (HR5.out.mono (fun b hb => hb.imp_right (fun h => Nat.le_of_succ_le (by simpa only [World.size_alloc] using h)))) HCH5.out
        have HB5 : Hid (Below w.heap.size w w5) := by
          have h00 := HSZ.out
          have h01 := HB02.out.size
          exact ((HBE.out.trans (HB02.out.mono HBE.out.size)).alloc (by have := HBE.out.size; omega) _).trans (HCH5.out.toBelow (B := w.heap.size) (by simp only [World.size_alloc]; omega) (fun n hn h => by omega))
        have hlen : (acc ++ [t]).length = acc.length + 1 := by simp
        have HN6 : Hid ((w5.setCell ⟨w.heap.size, 4, none⟩ (.slice a5 (acc.length + 1) c5)).heap[w.heap.size]? = some (.cells #[.int .i64 4, .int .i64 0, .float .f64 0, .string ⟨#[]⟩, .slice a5 (acc.length + 1) c5] 26 (0, 0))) := heap_store HN5.out 4 _
        have HC6 := Lib.hid (HCL6.out.stored (p := ⟨w.heap.size, 4, none⟩) (u := .slice a5 (acc.length + 1) c5) (Nat.lt_succ_self _))
        have HB6 : Hid (Below w.heap.size w (w5.setCell ⟨w.heap.size, 4, none⟩ (.slice a5 (acc.length + 1) c5))) := HB5.out.setCell (Nat.le_refl _) _
        have HS6 : Hid (w.heap.size + 1 ≤ (w5.setCell ⟨w.heap.size, 4, none⟩ (.slice a5 (acc.length + 1) c5)).heap.size) := lt_of_heap HN6.out
        clear HN5 hf5 hn5 HCL6 HB5 HCH5 HR5 HR2 hn4 hx0 hx1 hx2 hx3 hx4 HB02 HU2 HN2 HX2
        generalize (w5.setCell ⟨w.heap.size, 4, none⟩ (.slice a5 (acc.length + 1) c5)) = w6 at *
        obtain ⟨ac2, hac2⟩ : ∃ ac2, ac2 = acc ++ [t] := ⟨_, rfl⟩
        have hlen2 : ac2.length = acc.length + 1 := by rw [hac2]; exact hlen
        rw [← hlen2] at HN6 HC6 ⊢
        rw [← hac2] at HC6
        have HAC := Lib.hid hac2
        obtain ⟨col2, hcol2⟩ : ∃ col2 : Nat → Nat, col2 = (fun b => if b < wr.heap.size then col b else if b < w2.heap.size then ac2.length else 0) := ⟨_, rfl⟩
        rw [← hcol2] at HC6
        have HL2 := Lib.hid hlen2
        clear hac2 hlen hcol2 hlen2
        have hr6 := lt_of_heap HN6.out
        by_cases h32 : rl.head? = some 32
        · have hd : decide (rs.data.toList.head? = some 32) = true := decide_eq_true (by rw [HRL.out]; exact h32)
          rw [hd]
          have hrp : 0 < rs.size := by
            rw [Lib.size_eq, HRL.out]
            cases rl with
            | nil => cases h32
            | cons a b => simp
          have hx1 : (rs.extract 1 rs.size).data.toList = rl.tail := by rw [tail1, HRL.out]
          have hx2 : (rs.extract 1 rs.size).size + 1 = rs.size := by rw [Lib.size_eq, hx1, List.length_tail, ← HRL.out, ← Lib.size_eq]; omega
          have HLN : Hid (∃ n, loopP (parseP k) n (rs.extract 1 rs.size).data.toList ac2 = F ∧ (rs.extract 1 rs.size).size ≤ n) := by
            obtain ⟨m, h1, h2⟩ := HLP.out
            refine ⟨m, ?_, by omega⟩
            rw [hx1, HAC.out, ← h1]
            cases rl with
            | nil => cases h32
            | cons d q =>
              cases h32
              exact (loopP_32 HNE.out HPB.out).symm
          have h9 := left93_le (rs.extract 1 rs.size)
          clear hx1 hd h32 HLP HPB HAC HNE HC
          go_wp2_with fail
          go_roundw
          case rel => exact ⟨rs.extract 1 rs.size, ac2, vs ++ [v], col2, a5, c5, rfl, by omega, by have := HL2.out; omega, HLN.out, HN6.out, HC6.out, HB6.out, HS6.out⟩
          case measure =>
            show leftV (.string _) < leftV (.string _)
            unfold leftV
            dsimp only
            omega
        · have hd : decide (rs.data.toList.head? = some 32) = false := decide_eq_false (by rw [HRL.out]; exact h32)
          rw [hd]
          go_wp2_with fail
          refine (HP.out _ 93 _).mono ?_
          rintro e w7 ⟨rfl, rfl⟩
          by_cases h93 : rl.head? = some 93
          · have hd2 : decide (rs.data.toList.head? = some 93) = true := decide_eq_true (by rw [HRL.out]; exact h93)
            rw [hd2]
            have HLN : Hid (∃ n, loopP (parseP k) n rs.data.toList ac2 = F ∧ rs.size ≤ n) := by
              obtain ⟨m, h1, h2⟩ := HLP.out
              refine ⟨m + 1, ?_, by omega⟩
              rw [HRL.out, HAC.out, ← h1]
              cases rl with
              | nil => cases h93
              | cons d q =>
                cases h93
                rw [loopP_end]
                exact (loopP_93 HNE.out HPB.out).symm
            have h9 : left93 rs = 0 := by unfold left93; rw [HRL.out, if_pos h93]
            clear hd hd2 h32 h93 HLP HPB HAC HNE HC
            go_wp2_with fail
            go_roundw
            case rel => exact ⟨rs, ac2, vs ++ [v], col2, a5, c5, rfl, by omega, by have := HL2.out; omega, HLN.out, HN6.out, HC6.out, HB6.out, HS6.out⟩
            case measure =>
              show leftV (.string _) < leftV (.string _)
              unfold leftV
              dsimp only
              omega
          · have hd2 : decide (rs.data.toList.head? = some 93) = false := decide_eq_false (by rw [HRL.out]; exact h93)
            rw [hd2]
            have HF : Hid (F = (ac2, rs.data.toList)) := by
              obtain ⟨m, h1, h2⟩ := HLP.out
              rw [Hid, HRL.out, HAC.out, ← h1]
              exact loopP_out HNE.out HPB.out h32 h93
            have hc0 := cellAt HN6.out 0 (v := .int .i64 4) rfl
            have hc1 := cellAt HN6.out 1 (v := .int .i64 0) rfl
            have hc2 := cellAt HN6.out 2 (v := .float .f64 0) rfl
            have hc3 := cellAt HN6.out 3 (v := .string ⟨#[]⟩) rfl
            have hc4 := cellAt HN6.out 4 (v := .slice a5 ac2.length c5) rfl
            have hf0 := freeAt HN6.out 0
            have hf1 := freeAt HN6.out 1
            have hf2 := freeAt HN6.out 2
            have hf3 := freeAt HN6.out 3
            have hf4 := freeAt HN6.out 4
            clear hd hd2 h32 h93 HLP HPB HAC HNE HC
            go_wp2_with fail
            exact list_post HN6.out HC6.out HB6.out (by have := HL2.out; unfold maxLen; omega) HF.out rfl rfl rfl
theorem parse_any : ∀ (k : Nat), k ≤ 8 → ∀ (s : ByteArray), s.size ≤ 1000000 → ∀ w, Base w → Calls Tryz.prog 36 #[.string s, .int .i64 k] w (ParsePost w (parseP k s.data.toList))
  | 0, hk, s, hs, w, hB => by
    rw [parseP]
    exact parse_word s hs 0 hk w hB (.inl rfl)
  | k + 1, hk, s, hs, w, hB => by
    rw [parseP]
    split
    · rename_i h
      exact parse_list k (by omega) (fun s hs W hW => parse_any k (by omega) s hs W hW) s hs w hB h
    · rename_i h
      exact parse_word s hs (k + 1) hk w hB (.inr h)
theorem own_atom (w : World) (S : Nat → Prop) (t : VT) (h : t.l = []) : TOwn w t ⟨t.k, t.n, t.f, t.s, none, 0, 0⟩ S := by
  obtain ⟨k, n, f, s, l⟩ := t
  simp only [VT.l] at h
  subst h
  rw [TOwn]
  exact ⟨rfl, rfl, rfl, rfl, rfl, Nat.zero_le _, .inl ⟨rfl, Reads.nil _ _⟩⟩
theorem head_ba {s : ByteArray} {d : UInt8} {q : List UInt8} (h : s.data.toList = d :: q) : 0 < s.size ∧ s.toList.isEmpty = false := ⟨by rw [Lib.size_eq, h]; simp, by rw [ByteArray.toList_eq, h]; rfl⟩
end Go.Proofs.YtpijpeocdlnhiaaGreatDoor
