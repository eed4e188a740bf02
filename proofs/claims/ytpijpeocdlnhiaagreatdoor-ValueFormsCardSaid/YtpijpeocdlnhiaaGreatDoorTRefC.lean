/- The reference's text of every payload. -/
import Derived.Test.YtpijpeocdlnhiaaGreatDoorTRefB
import Derived.Test.YtpijpeocdlnhiaaGreatDoorTTextC
namespace Go.Proofs.YtpijpeocdlnhiaaGreatDoor
set_option linter.unusedVariables false
set_option linter.unusedSimpArgs false
open Go.RowKit

theorem tail_snoc (t : VT) : ∀ r : List VT, tailT (r ++ [t]) = tailT r ++ 32 :: textT t
  | [] => by simp [tailT]
  | x :: r => by simp [tailT, tail_snoc t r]
theorem texts_snoc (a : List VT) (t : VT) : textsT (a ++ [t]) = if a = [] then textT t else textsT a ++ 32 :: textT t := by
  cases a with
  | nil => simp [textsT, tailT]
  | cons x r => simp [textsT, tail_snoc]
theorem tail_app (b : List VT) : ∀ a : List VT, tailT (a ++ b) = tailT a ++ tailT b
  | [] => by simp [tailT]
  | x :: r => by simp [tailT, tail_app b r]
theorem texts_pre (l : List VT) (m : Nat) : (textsT (l.take m)).length ≤ (textsT l).length := by
  cases l with
  | nil => simp
  | cons x r =>
    cases m with
    | zero => simp [textsT]
    | succ m =>
      have h := tail_app (r.drop m) (r.take m)
      rw [List.take_append_drop] at h
      rw [List.take_succ_cons]
      simp only [textsT, List.length_append, h]
      omega
def RTextC (t : VT) : Prop := ∀ (v : VV) (S : Nat → Prop) (w : World), TRead w S t v → Calls Tryz.prog 48 #[v.val] w fun e w' => e = .returned (.string ⟨(textT t).toArray⟩) ∧ Below w.heap.size w w'
set_option maxRecDepth 100000 in
set_option maxHeartbeats 4000000 in
theorem rtext_list (n : Int) (f : Nat) (s : ByteArray) (l : List VT) (htl : (textsT l).length ≤ 1000000) (IH : ∀ t ∈ l, RTextC t) (v : VV) (S : Nat → Prop) (w : World) (hv : TRead w S (.node 4 n f s l) v) :
    Calls Tryz.prog 48 #[v.val] w fun e w' => e = .returned (.string ⟨(91 :: (textsT l ++ [93])).toArray⟩) ∧ Below w.heap.size w w' := by
  have HV := Lib.hid hv
  have hval : v.val = .agg #[.int .i64 4, .int .i64 n, .float .f64 f, .string s, .slice v.a l.length v.c] := hv.val
  have hmax : l.length ≤ maxLen := hv.small
  unfold maxLen at hmax
  have hlen : l.length ≤ v.c := by obtain ⟨vs, hr, _⟩ := hv.elems; obtain ⟨_, _, _, he, hle, _⟩ := hr; cases he; exact hle
  rw [hval]
  have HI := Lib.hid IH
  clear hv hval IH
  obtain ⟨va, hva⟩ : ∃ va, va = v.a := ⟨_, rfl⟩
  have HVA := Lib.hid hva
  rw [← hva]
  clear hva
  have HX : Hid ((w.alloc (.cells #[.int .i64 4, .int .i64 n, .float .f64 f, .string s, .slice va l.length v.c] 26)).heap[w.heap.size]? = some (.cells #[.int .i64 4, .int .i64 n, .float .f64 f, .string s, .slice va l.length v.c] 26 (0, 0))) := heap_alloc_new w _
  have HB1 : Hid (Below w.heap.size w (w.alloc (.cells #[.int .i64 4, .int .i64 n, .float .f64 f, .string s, .slice va l.length v.c] 26))) := (Below.refl _ _).alloc (Nat.le_refl _) _
  go_enter Tryz.func48, Tryz.ntmps48
  go_upto_region 1 with fail
  generalize (w.alloc (.cells #[.int .i64 4, .int .i64 n, .float .f64 f, .string s, .slice va l.length v.c] 26)) = wd at *
  have hx0 := (cells5 HX.out).1
  go_wp2_with fail
  clear hx0
  go_loopw [3, 4] (fun o i w' => ∃ (m : Nat) (sm : ByteArray), i = .int .i64 m ∧ o = .string sm ∧ m ≤ l.length ∧ Hid (sm.data.toList = 91 :: textsT (l.take m)) ∧ Hid (Below w.heap.size w w') ∧ Hid (w'.heap[w.heap.size]? = some (.cells #[.int .i64 4, .int .i64 n, .float .f64 f, .string s, .slice va l.length v.c] 26 (0, 0)))) (fun _ i _ => l.length - (RowKit.intOf i).toNat)
  case atStart => exact ⟨0, _, rfl, rfl, Nat.zero_le _, rfl, HB1.out, HX.out⟩
  case round =>
    obtain ⟨m, sm, rfl, rfl, hm, HS, HBE, HXR⟩ := hrel
    have hsm : sm.size ≤ 1000001 := by
      rw [Lib.size_eq, HS.out, List.length_cons]
      have := texts_pre l m
      omega
    have hx4 := (cells5 HXR.out).2.2.2.2
    by_cases hlt : m < l.length
    · obtain ⟨b, o, hb0, hcap, hblt, -, p, hp, hc0, hc1, hc2, hc3, hc4⟩ := (HV.out.later HBE.out).child m hlt
      obtain rfl : va = some ⟨b, o, none⟩ := HVA.out.trans hb0
      clear hb0
      have hin := List.getElem_mem hlt
      have HC : Hid (Calls Tryz.prog 48 #[p.val] wr fun e w' => e = .returned (.string ⟨(textT l[m]).toArray⟩) ∧ Below wr.heap.size wr w') := HI.out l[m] hin p S wr hp
      obtain ⟨tx, htx⟩ : ∃ tx : ByteArray, tx = ⟨(textT l[m]).toArray⟩ := ⟨_, rfl⟩
      have htxl : tx.data.toList = textT l[m] := by rw [htx]
      have htxs : tx.size ≤ 1000000 := by rw [Lib.size_eq, htxl]; have := (texts_len l).2 l[m] hin; omega
      rw [← htx] at HC
      have HTK : Hid (textsT (l.take (m + 1)) = if m = 0 then tx.data.toList else textsT (l.take m) ++ 32 :: tx.data.toList) := by
        rw [Hid, List.take_succ_eq_append_getElem hlt, texts_snoc, htxl]
        have : l.take m = [] ↔ m = 0 := by
          rw [List.take_eq_nil_iff]
          constructor
          · rintro (h | h)
            · exact h
            · rw [h] at hlt; simp at hlt
          · intro h; exact .inl h
        simp only [this]
      clear htx htxl hp hin
      rcases Nat.eq_zero_or_pos m with h0 | h0
      · subst h0
        simp only [Nat.zero_mul, Nat.add_zero] at hc0 hc1 hc2 hc3 hc4
        go_wp2_with fail
        refine HC.out.mono ?_
        rintro e w2 ⟨rfl, hb2⟩
        have HB2 := Lib.hid (HBE.out.trans (hb2.mono HBE.out.size))
        have HX2 := Lib.hid ((hb2.block _ (lt_of_heap HXR.out)).trans HXR.out)
        clear hb2 HC hc0 hc1 hc2 hc3 hc4 hx4
        go_wp2_with fail
        refine ⟨⟨0 + 1, _, by go_num, rfl, by omega, ?_, HB2.out, HX2.out⟩, ?_⟩
        · rw [Hid, HTK.out]
          simp [ByteArray.data_append, HS.out, textsT]
        · simp [RowKit.intOf]; omega
      · go_wp2_with fail
        refine HC.out.mono ?_
        rintro e w2 ⟨rfl, hb2⟩
        have HB2 := Lib.hid (HBE.out.trans (hb2.mono HBE.out.size))
        have HX2 := Lib.hid ((hb2.block _ (lt_of_heap HXR.out)).trans HXR.out)
        clear hb2 HC hc0 hc1 hc2 hc3 hc4 hx4
        go_wp2_with fail
        refine ⟨⟨m + 1, _, by go_num, rfl, by omega, ?_, HB2.out, HX2.out⟩, ?_⟩
        · rw [Hid, HTK.out, if_neg (by omega)]
          simp [ByteArray.data_append, HS.out]
        · simp [RowKit.intOf]; omega
    · obtain rfl : m = l.length := by omega
      have HF : Hid ((⟨(91 :: (textsT l ++ [93])).toArray⟩ : ByteArray) = sm ++ ⟨#[93]⟩) := by
        have h := HS.out
        rw [List.take_length] at h
        rw [Hid, ← ba_data' (sm ++ ⟨#[93]⟩), ByteArray.data_append, Array.toList_append, h]
        rfl
      go_wp2_with fail
      go_ret
      exact ⟨by rw [HF.out]; rfl, HBE.out⟩
theorem hexL_size (s : ByteArray) : (hexL s.data.toList).length = 2 * s.size := by rw [hexL_length, bsize]
set_option maxRecDepth 100000 in
set_option maxHeartbeats 4000000 in
theorem rtext_atom (k n : Int) (f : Nat) (s : ByteArray) (l : List VT) (hk : k ≠ 4) (hn : -9223372036854775808 ≤ n ∧ n ≤ 9223372036854775807) (hf : f < 18446744073709551616) (hs0 : k = 3 → s.size ≤ 1000000) : RTextC (.node k n f s l) := by
  intro v S w hv
  have ht : textT (.node k n f s l) = atomT k n f s := by rw [textT, if_neg hk]
  have hval : v.val = .agg #[.int .i64 k, .int .i64 n, .float .f64 f, .string s, .slice v.a l.length v.c] := hv.val
  rw [ht, hval]
  generalize v.a = va at *
  generalize v.c = vc at *
  generalize l.length = ln at *
  clear hv hval ht
  have HX : Hid ((w.alloc (.cells #[.int .i64 k, .int .i64 n, .float .f64 f, .string s, .slice va ln vc] 26)).heap[w.heap.size]? = some (.cells #[.int .i64 k, .int .i64 n, .float .f64 f, .string s, .slice va ln vc] 26 (0, 0))) := heap_alloc_new w _
  have HB1 : Hid (Below w.heap.size w (w.alloc (.cells #[.int .i64 k, .int .i64 n, .float .f64 f, .string s, .slice va ln vc] 26))) := (Below.refl _ _).alloc (Nat.le_refl _) _
  by_cases h1 : k = 1
  · subst h1
    have HC := Lib.hid (rdecimal_any n hn.1 hn.2)
    have ha : atomT 1 n f s = Lib.itoa n := rfl
    rw [ha]
    go_enter Tryz.func48, Tryz.ntmps48
    go_upto_region 1 with fail
    generalize (w.alloc (.cells #[.int .i64 1, .int .i64 n, .float .f64 f, .string s, .slice va ln vc] 26)) = wd at *
    obtain ⟨hx0, hx1, hx2, hx3, hx4⟩ := cells5 HX.out
    go_wp2_with fail
    refine (HC.out _).mono ?_
    rintro e w2 ⟨rfl, rfl⟩
    go_wp2_with fail
    go_ret
    exact ⟨rfl, HB1.out⟩
  by_cases h2 : k = 2
  · subst h2
    have HC := Lib.hid (rtext_num f hf)
    obtain ⟨nt, hnt⟩ : ∃ nt : ByteArray, nt = ⟨(numTextL f).toArray⟩ := ⟨_, rfl⟩
    have hns : nt.size ≤ 100 := by rw [hnt]; show (numTextL f).toArray.size ≤ 100; rw [List.size_toArray]; exact numTextL_small f
    have hcc : (⟨(atomT 2 n f s).toArray⟩ : ByteArray) = ⟨#[35]⟩ ++ nt := by rw [hnt]; exact (ba_app [35] _).symm
    rw [hcc]
    rw [← hnt] at HC
    clear hcc hnt
    go_enter Tryz.func48, Tryz.ntmps48
    go_upto_region 1 with fail
    generalize (w.alloc (.cells #[.int .i64 2, .int .i64 n, .float .f64 f, .string s, .slice va ln vc] 26)) = wd at *
    obtain ⟨hx0, hx1, hx2, hx3, hx4⟩ := cells5 HX.out
    go_wp2_with fail
    refine (HC.out _).mono ?_
    rintro e w2 ⟨rfl, rfl⟩
    go_wp2_with fail
    go_ret
    exact ⟨rfl, HB1.out⟩
  by_cases h3 : k = 3
  · subst h3
    have hs := hs0 rfl
    have HC := Lib.hid (rhex_any s hs)
    obtain ⟨nt, hnt⟩ : ∃ nt : ByteArray, nt = ⟨(hexL s.data.toList).toArray⟩ := ⟨_, rfl⟩
    have hns : nt.size ≤ 2000000 := by rw [hnt]; show (hexL s.data.toList).toArray.size ≤ _; rw [List.size_toArray, hexL_size]; omega
    have hcc : (⟨(atomT 3 n f s).toArray⟩ : ByteArray) = ⟨#[34]⟩ ++ nt ++ ⟨#[34]⟩ := by
      rw [hnt]
      show _ = (⟨([34] : List UInt8).toArray⟩ : ByteArray) ++ ⟨(hexL s.data.toList).toArray⟩ ++ ⟨([34] : List UInt8).toArray⟩
      rw [ba_app, ba_app]; rfl
    rw [hcc]
    rw [← hnt] at HC
    clear hcc hnt
    go_enter Tryz.func48, Tryz.ntmps48
    go_upto_region 1 with fail
    generalize (w.alloc (.cells #[.int .i64 3, .int .i64 n, .float .f64 f, .string s, .slice va ln vc] 26)) = wd at *
    obtain ⟨hx0, hx1, hx2, hx3, hx4⟩ := cells5 HX.out
    go_wp2_with fail
    refine (HC.out _).mono ?_
    rintro e w2 ⟨rfl, hb2⟩
    have HB2 := Lib.hid (HB1.out.trans (hb2.mono HB1.out.size))
    clear hb2
    go_wp2_with fail
    go_ret
    exact ⟨rfl, HB2.out⟩
  have ha : atomT k n f s = nilS := by unfold atomT; rw [if_neg h1, if_neg h2, if_neg h3]
  rw [ha]
  have g1 : (k == 1) = false := by rw [beq_eq_false_iff_ne]; exact h1
  have g2 : (k == 2) = false := by rw [beq_eq_false_iff_ne]; exact h2
  have g3 : (k == 3) = false := by rw [beq_eq_false_iff_ne]; exact h3
  have g4 : (k == 4) = false := by rw [beq_eq_false_iff_ne]; exact hk
  clear h1 h2 h3 hk
  go_enter Tryz.func48, Tryz.ntmps48
  go_upto_region 1 with fail
  generalize (w.alloc (.cells #[.int .i64 k, .int .i64 n, .float .f64 f, .string s, .slice va ln vc] 26)) = wd at *
  obtain ⟨hx0, hx1, hx2, hx3, hx4⟩ := cells5 HX.out
  go_wp2_with fail
  go_ret
  exact ⟨rfl, HB1.out⟩
theorem rtext_all (t : VT) : wfT t → (textT t).length ≤ 1000000 → RTextC t := by
  induction t using VT.ind with
  | _ k n f s l ih =>
    intro hw hl
    rw [wfT] at hw
    obtain ⟨-, hn, hf, hs, hwl⟩ := hw
    by_cases hk : k = 4
    · subst hk
      have ht : textT (.node 4 n f s l) = 91 :: (textsT l ++ [93]) := by rw [textT, if_pos rfl]
      intro v S w hv
      rw [ht] at hl ⊢
      rw [List.length_cons, List.length_append] at hl
      exact rtext_list n f s l (by omega) (fun t ht => ih t ht ((wfL_iff l).1 hwl t ht) (by have := (texts_len l).2 t ht; omega)) v S w hv
    · refine rtext_atom k n f s l hk hn hf (fun h3 => ?_)
      subst h3
      have ht : textT (.node 3 n f s l) = 34 :: hexL s.data.toList ++ [34] := by rw [textT, if_neg (by decide)]; rfl
      rw [ht, List.length_append, List.length_cons, hexL_size] at hl
      omega
end Go.Proofs.YtpijpeocdlnhiaaGreatDoor
