/- The reference's texts of bytes and of numbers. -/
import Derived.Test.YtpijpeocdlnhiaaGreatDoorTRefA
import Derived.Test.YtpijpeocdlnhiaaGreatDoorFloat
import Derived.BigQuiet
namespace Go.Proofs.YtpijpeocdlnhiaaGreatDoor
set_option linter.unusedVariables false
set_option linter.unusedSimpArgs false
open Go.RowKit

theorem below_drewN {B : Nat} {a b : World} (h : Below B a b) (k : Nat) : Below B a (b.drewN k) := ⟨h.os, h.tape, h.output, h.size, h.block⟩
theorem digX_all : ∀ n : Fin 16, (digB.extract n.val (n.val + 1)) = ⟨#[dig n.val]⟩ := by decide +kernel
theorem digX_at (n : Nat) (h : n < 16) : digB.extract n (n + 1) = ⟨#[dig n]⟩ := digX_all ⟨n, h⟩
set_option maxRecDepth 100000 in
set_option maxHeartbeats 4000000 in
theorem rhex_any (s : ByteArray) (hs : s.size ≤ 1000000) (w : World) :
    Calls Tryz.prog 80 #[.string s] w fun e w' => e = .returned (.string ⟨(hexL s.data.toList).toArray⟩) ∧ Below w.heap.size w w' := by
  go_enter Tryz.func80, Tryz.ntmps80
  go_wp2_with fail
  go_loopw [3, 4] (fun o i w' => ∃ (m : Nat) (sm : ByteArray), i = .int .i64 m ∧ o = .string sm ∧ m ≤ s.size ∧ sm.size = 2 * m ∧ Hid (sm.data.toList = hexL (s.data.toList.take m)) ∧ Hid (Below w.heap.size w w')) (fun _ i _ => s.size - (RowKit.intOf i).toNat)
  case atStart => exact ⟨0, _, rfl, rfl, Nat.zero_le _, rfl, rfl, Below.refl _ _⟩
  case round =>
    obtain ⟨m, sm, rfl, rfl, hm, hsm, HO, HB⟩ := hrel
    by_cases hlt : m < s.size
    · have hlt' : m < s.data.toList.length := by rw [bsize]; exact hlt
      obtain ⟨x, hx⟩ : ∃ x, x = s[m]'hlt := ⟨_, rfl⟩
      have hx2 : s.data.toList[m] = x := by rw [hx]; exact Array.getElem_toList _
      have hxe : s[m]'hlt = x := hx.symm
      have hx256 : x.toNat < 256 := x.toNat_lt
      have ha := digX_at (x.toNat / 16) (by omega)
      have hb := digX_at (x.toNat % 16) (by omega)
      have hw1 : IntKind.u8.wrap ((x.toNat : Int) / 16 + 1) = ((x.toNat / 16 + 1 : Nat) : Int) := by rw [IntKind.wrap_u8]; omega
      have hw2 : IntKind.u8.wrap ((x.toNat : Int) % 16 + 1) = ((x.toNat % 16 + 1 : Nat) : Int) := by rw [IntKind.wrap_u8]; omega
      have HT : Hid ((sm ++ digB.extract (x.toNat / 16) (x.toNat / 16 + 1) ++ digB.extract (x.toNat % 16) (x.toNat % 16 + 1)).data.toList = hexL (s.data.toList.take (m + 1))) := by
        rw [Hid, List.take_succ_eq_append_getElem hlt', hexL_append, hx2, ha, hb, ByteArray.data_append, ByteArray.data_append, Array.toList_append, Array.toList_append, HO.out]
        simp [hexL]
      have hsz1 : (digB.extract (x.toNat / 16) (x.toNat / 16 + 1)).size = 1 := by rw [ha]; rfl
      have hsz2 : (digB.extract (x.toNat % 16) (x.toNat % 16 + 1)).size = 1 := by rw [hb]; rfl
      have HZ1 := Lib.hid hsz1
      have HZ2 := Lib.hid hsz2
      clear ha hb hx hx2 hlt'
      go_upto_region 5 with fail
      go_quiet (fail)
      go_wp2_with fail
      refine ⟨⟨m + 1, _, by go_num, rfl, by omega, ?_, HT.out, below_drewN HB.out _⟩, ?_⟩
      · rw [ByteArray.size_append, ByteArray.size_append]
        show sm.size + (digB.extract (x.toNat / 16) (x.toNat / 16 + 1)).size + (digB.extract (x.toNat % 16) (x.toNat % 16 + 1)).size = _
        rw [HZ1.out, HZ2.out]; omega
      · simp [RowKit.intOf]; omega
    · obtain rfl : m = s.size := by omega
      have HF : Hid (sm.data.toList = hexL s.data.toList) := by
        have h := HO.out
        rwa [← bsize s, List.take_length] at h
      go_wp2_with fail
      go_ret
      exact ⟨by rw [← HF.out, ba_data']; rfl, HB.out⟩
set_option maxRecDepth 100000 in
set_option maxHeartbeats 4000000 in
theorem rtext_num (f : Nat) (hf : f < 18446744073709551616) (w : World) :
    Calls Tryz.prog 79 #[.float .f64 f] w fun e w' => e = .returned (.string ⟨(numTextL f).toArray⟩) ∧ w = w' := by
  have HBT := Lib.hid (rbits_any f w)
  have hc : canonB f < 18446744073709551616 := by unfold canonB; split <;> omega
  unfold numTextL
  generalize canonB f = c at *
  obtain ⟨L, hL⟩ : ∃ L, L = numC c := ⟨_, rfl⟩
  rw [← hL]
  have HL := Lib.hid hL
  clear hL
  go_enter Tryz.func79, Tryz.ntmps79
  go_wp2_with fail
  refine HBT.out.mono ?_
  rintro e w1 ⟨rfl, rfl⟩
  by_cases h1 : c = 9221120237041090561
  · subst h1
    go_wp2_with fail
    go_ret
    exact ⟨by rw [HL.out]; rfl, rfl⟩
  by_cases h2 : c = 9218868437227405312
  · subst h2
    go_wp2_with fail
    go_ret
    exact ⟨by rw [HL.out]; rfl, rfl⟩
  by_cases h3 : c = 18442240474082181120
  · subst h3
    go_wp2_with fail
    go_ret
    exact ⟨by rw [HL.out]; rfl, rfl⟩
  by_cases h4 : c = 0
  · subst h4
    go_wp2_with fail
    go_ret
    exact ⟨by rw [HL.out]; rfl, rfl⟩
  by_cases h5 : c = 9223372036854775808
  · subst h5
    go_wp2_with fail
    go_ret
    exact ⟨by rw [HL.out]; rfl, rfl⟩
  have hn : numC c = 120 :: hex16 c := by unfold numC; rw [if_neg h1, if_neg h2, if_neg h3, if_neg h4, if_neg h5]
  have HF : Hid (L = 120 :: hex16 c) := HL.out.trans hn
  clear HL
  have g1 : ((c : Int) == 9221120237041090561) = false := by rw [beq_eq_false_iff_ne]; omega
  have g2 : ((c : Int) == 9218868437227405312) = false := by rw [beq_eq_false_iff_ne]; omega
  have g3 : ((c : Int) == 18442240474082181120) = false := by rw [beq_eq_false_iff_ne]; omega
  have g4 : ((c : Int) == 0) = false := by rw [beq_eq_false_iff_ne]; omega
  have g5 : ((c : Int) == 9223372036854775808) = false := by rw [beq_eq_false_iff_ne]; omega
  clear hn h1 h2 h3 h4 h5
  go_wp2_with fail
  go_loopw [4, 5] (fun o i w' => ∃ (sm : ByteArray), o = .string sm ∧ w' = w ∧ ((∃ k : Nat, k < 16 ∧ i = .int .i64 k ∧ sm.size = 16 - k ∧ Hid (sm.data.toList = 120 :: (hex16 c).take (15 - k))) ∨ (i = .int .i64 (-1) ∧ Hid (sm.data.toList = L)))) (fun _ i _ => (RowKit.intOf i + 1).toNat)
  case atStart => exact ⟨_, rfl, rfl, .inl ⟨15, by decide, rfl, rfl, rfl⟩⟩
  case round =>
    obtain ⟨sm, rfl, rfl, ⟨k, hk, rfl, hsz, HS⟩ | ⟨rfl, HS⟩⟩ := hrel
    · obtain ⟨d, hd⟩ : ∃ d, d = c / 16 ^ k % 16 := ⟨_, rfl⟩
      have hd16 : d < 16 := by rw [hd]; exact Nat.mod_lt _ (by decide)
      have hx := digX_at d hd16
      have hw1 : IntKind.i64.wrap (4 * (k : Int)) = ((4 * k : Nat) : Int) := by rw [IntKind.wrap_i64]; omega
      have hw2 : IntKind.u64.wrap ((4 * k : Nat) : Int) = ((4 * k : Nat) : Int) := by rw [IntKind.wrap_u64]; omega
      have hb : bits BinOp.and IntKind.u64 ((c : Int) / 2 ^ (4 * k)) 15 = (d : Int) := by
        have h := and15 (c / 2 ^ (4 * k)) (Nat.lt_of_le_of_lt (Nat.div_le_self _ _) hc)
        rw [hd, show (16 : Nat) ^ k = 2 ^ (4 * k) from by rw [Nat.pow_mul]]
        rw [← h]; push_cast; rfl
      have hxs : (digB.extract d (d + 1)).size = 1 := by rw [hx]; rfl
      have HT : Hid ((sm ++ digB.extract d (d + 1)).data.toList = 120 :: (hex16 c).take (16 - k)) := by
        have hlen : 15 - k < (hex16 c).length := by rw [hex16, List.length_map, List.length_range]; omega
        rw [Hid, ByteArray.data_append, Array.toList_append, HS.out, hx, show 16 - k = (15 - k) + 1 by omega, List.take_succ_eq_append_getElem hlen, List.cons_append]
        have he : (hex16 c)[15 - k] = dig d := by
          simp only [hex16, List.getElem_map, List.getElem_range]
          rw [hd, show 15 - (15 - k) = k by omega]
        rw [he]
      have hdw : IntKind.u64.wrap ((d : Int) + 1) = ((d + 1 : Nat) : Int) := by rw [IntKind.wrap_u64]; omega
      have HZ := Lib.hid hxs
      clear hx hd
      go_wp2_with fail
      rcases Nat.eq_zero_or_pos k with h0 | h0
      · subst h0
        refine ⟨⟨_, rfl, trivial, .inr ⟨by rfl, ?_⟩⟩, ?_⟩
        · rw [HF.out]
          have h := HT.out
          rwa [List.take_of_length_le (by rw [hex16, List.length_map, List.length_range]; decide)] at h
        · simp [RowKit.intOf]
      · refine ⟨⟨_, rfl, trivial, .inl ⟨k - 1, by omega, by go_num, ?_, ?_⟩⟩, ?_⟩
        · rw [ByteArray.size_append]
          show sm.size + (digB.extract d (d + 1)).size = _
          rw [HZ.out]; omega
        · rw [Hid, show 15 - (k - 1) = 16 - k by omega]
          exact HT.out
        · simp [RowKit.intOf]
    · go_wp2_with fail
      go_ret
      exact ⟨by rw [← HS.out, ba_data']; rfl, rfl⟩
end Go.Proofs.YtpijpeocdlnhiaaGreatDoor
