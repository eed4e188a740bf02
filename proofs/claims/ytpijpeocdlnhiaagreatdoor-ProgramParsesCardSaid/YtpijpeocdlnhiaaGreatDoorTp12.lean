/- Texts for programTexts_holds, joined: TRefB, TRefN, TRefP, TRefU. -/
import Derived.Test.YtpijpeocdlnhiaaGreatDoorTp11
import Derived.Test.YtpijpeocdlnhiaaGreatDoorTp01
import Derived.BigQuiet
set_option linter.unusedVariables false
set_option linter.unusedSimpArgs false
namespace Go.Proofs.YtpijpeocdlnhiaaGreatDoor
open Go.RowKit
theorem below_drewN {B : Nat} {a b : World} (h : Below B a b) (k : Nat) : Below B a (b.drewN k) := ⟨h.os, h.tape, h.output, h.size, h.block⟩
theorem digX_all : ∀ n : Fin 16, (digB.extract n.val (n.val + 1)) = ⟨#[dig n.val]⟩ := by decide +kernel
theorem digX_at (n : Nat) (h : n < 16) : digB.extract n (n + 1) = ⟨#[dig n]⟩ := digX_all ⟨n, h⟩
set_option maxRecDepth 100000 in
set_option maxHeartbeats 4000000 in
theorem rhex_any (s : ByteArray) (hs : s.size ≤ 1000000) (w : World) :
    Calls Tryz.prog 80 #[.string s] w fun e w' => e = .returned (.string ⟨(hexL s.data.toList).toArray⟩) ∧ Below w.heap.size w w' := by
  go_enter Tryz.func80, Tryz.ntmps80
  go_wp2_with fail
  go_loopw [3, 4] (fun o i w' => ∃ (m : Nat) (sm : ByteArray), i = .int .i64 m ∧ o = .string sm ∧ m ≤ s.size ∧ sm.size = 2 * m ∧ Hid (sm.data.toList = hexL (s.data.toList.take m)) ∧ Hid (Below w.heap.size w w')) (fun _ i _ => s.size - (RowKit.intOf i).toNat)
  case atStart => exact ⟨0, _, rfl, rfl, Nat.zero_le _, rfl, rfl, Below.refl _ _⟩
  case round =>
    obtain ⟨m, sm, rfl, rfl, hm, hsm, HO, HB⟩ := hrel
    by_cases hlt : m < s.size
    · have hlt' : m < s.data.toList.length := by rw [bsize]; exact hlt
      obtain ⟨x, hx⟩ : ∃ x, x = s[m]'hlt := ⟨_, rfl⟩
      have hx2 : s.data.toList[m] = x := by rw [hx]; exact Array.getElem_toList _
      have hxe : s[m]'hlt = x := hx.symm
      have hx256 : x.toNat < 256 := x.toNat_lt
      have ha := digX_at (x.toNat / 16) (by omega)
      have hb := digX_at (x.toNat % 16) (by omega)
      have hw1 : IntKind.u8.wrap ((x.toNat : Int) / 16 + 1) = ((x.toNat / 16 + 1 : Nat) : Int) := by rw [IntKind.wrap_u8]; omega
      have hw2 : IntKind.u8.wrap ((x.toNat : Int) % 16 + 1) = ((x.toNat % 16 + 1 : Nat) : Int) := by rw [IntKind.wrap_u8]; omega
      have HT : Hid ((sm ++ digB.extract (x.toNat / 16) (x.toNat / 16 + 1) ++ digB.extract (x.toNat % 16) (x.toNat % 16 + 1)).data.toList = hexL (s.data.toList.take (m + 1))) := by
        rw [Hid, List.take_succ_eq_append_getElem hlt', hexL_append, hx2, ha, hb, ByteArray.data_append, ByteArray.data_append, Array.toList_append, Array.toList_append, HO.out]
        simp [hexL]
      have hsz1 : (digB.extract (x.toNat / 16) (x.toNat / 16 + 1)).size = 1 := by rw [ha]; rfl
      have hsz2 : (digB.extract (x.toNat % 16) (x.toNat % 16 + 1)).size = 1 := by rw [hb]; rfl
      have HZ1 := Lib.hid hsz1
      have HZ2 := Lib.hid hsz2
      clear ha hb hx hx2 hlt'
      go_upto_region 5 with fail
      go_quiet (fail)
      go_wp2_with fail
      refine ⟨⟨m + 1, _, by go_num, rfl, by omega, ?_, HT.out, below_drewN HB.out _⟩, ?_⟩
      · rw [ByteArray.size_append, ByteArray.size_append]
        show sm.size + (digB.extract (x.toNat / 16) (x.toNat / 16 + 1)).size + (digB.extract (x.toNat % 16) (x.toNat % 16 + 1)).size = _
        rw [HZ1.out, HZ2.out]; omega
      · simp [RowKit.intOf]; omega
    · obtain rfl : m = s.size := by omega
      have HF : Hid (sm.data.toList = hexL s.data.toList) := by
        have h := HO.out
        rwa [← bsize s, List.take_length] at h
      go_wp2_with fail
      go_ret
      exact ⟨by rw [← HF.out, ba_data']; rfl, HB.out⟩
set_option maxRecDepth 100000 in
set_option maxHeartbeats 4000000 in
theorem rtext_num (f : Nat) (hf : f < 18446744073709551616) (w : World) :
    Calls Tryz.prog 79 #[.float .f64 f] w fun e w' => e = .returned (.string ⟨(numTextL f).toArray⟩) ∧ w = w' := by
  have HBT := Lib.hid (rbits_any f w)
  have hc : canonB f < 18446744073709551616 := by unfold canonB; split <;> omega
  unfold numTextL
  generalize canonB f = c at *
  obtain ⟨L, hL⟩ : ∃ L, L = numC c := ⟨_, rfl⟩
  rw [← hL]
  have HL := Lib.hid hL
  clear hL
  go_enter Tryz.func79, Tryz.ntmps79
  go_wp2_with fail
  refine HBT.out.mono ?_
  rintro e w1 ⟨rfl, rfl⟩
  by_cases h1 : c = 9221120237041090561
  · subst h1
    go_wp2_with fail
    go_ret
    exact ⟨by rw [HL.out]; rfl, rfl⟩
  by_cases h2 : c = 9218868437227405312
  · subst h2
    go_wp2_with fail
    go_ret
    exact ⟨by rw [HL.out]; rfl, rfl⟩
  by_cases h3 : c = 18442240474082181120
  · subst h3
    go_wp2_with fail
    go_ret
    exact ⟨by rw [HL.out]; rfl, rfl⟩
  by_cases h4 : c = 0
  · subst h4
    go_wp2_with fail
    go_ret
    exact ⟨by rw [HL.out]; rfl, rfl⟩
  by_cases h5 : c = 9223372036854775808
  · subst h5
    go_wp2_with fail
    go_ret
    exact ⟨by rw [HL.out]; rfl, rfl⟩
  have hn : numC c = 120 :: hex16 c := by unfold numC; rw [if_neg h1, if_neg h2, if_neg h3, if_neg h4, if_neg h5]
  have HF : Hid (L = 120 :: hex16 c) := HL.out.trans hn
  clear HL
  have g1 : ((c : Int) == 9221120237041090561) = false := by rw [beq_eq_false_iff_ne]; omega
  have g2 : ((c : Int) == 9218868437227405312) = false := by rw [beq_eq_false_iff_ne]; omega
  have g3 : ((c : Int) == 18442240474082181120) = false := by rw [beq_eq_false_iff_ne]; omega
  have g4 : ((c : Int) == 0) = false := by rw [beq_eq_false_iff_ne]; omega
  have g5 : ((c : Int) == 9223372036854775808) = false := by rw [beq_eq_false_iff_ne]; omega
  clear hn h1 h2 h3 h4 h5
  go_wp2_with fail
  go_loopw [4, 5] (fun o i w' => ∃ (sm : ByteArray), o = .string sm ∧ w' = w ∧ ((∃ k : Nat, k < 16 ∧ i = .int .i64 k ∧ sm.size = 16 - k ∧ Hid (sm.data.toList = 120 :: (hex16 c).take (15 - k))) ∨ (i = .int .i64 (-1) ∧ Hid (sm.data.toList = L)))) (fun _ i _ => (RowKit.intOf i + 1).toNat)
  case atStart => exact ⟨_, rfl, rfl, .inl ⟨15, by decide, rfl, rfl, rfl⟩⟩
  case round =>
    obtain ⟨sm, rfl, rfl, ⟨k, hk, rfl, hsz, HS⟩ | ⟨rfl, HS⟩⟩ := hrel
    · obtain ⟨d, hd⟩ : ∃ d, d = c / 16 ^ k % 16 := ⟨_, rfl⟩
      have hd16 : d < 16 := by rw [hd]; exact Nat.mod_lt _ (by decide)
      have hx := digX_at d hd16
      have hw1 : IntKind.i64.wrap (4 * (k : Int)) = ((4 * k : Nat) : Int) := by rw [IntKind.wrap_i64]; omega
      have hw2 : IntKind.u64.wrap ((4 * k : Nat) : Int) = ((4 * k : Nat) : Int) := by rw [IntKind.wrap_u64]; omega
      have hb : bits BinOp.and IntKind.u64 ((c : Int) / 2 ^ (4 * k)) 15 = (d : Int) := by
        have h := and15 (c / 2 ^ (4 * k)) (Nat.lt_of_le_of_lt (Nat.div_le_self _ _) hc)
        rw [hd, show (16 : Nat) ^ k = 2 ^ (4 * k) from by rw [Nat.pow_mul]]
        rw [← h]; push_cast; rfl
      have hxs : (digB.extract d (d + 1)).size = 1 := by rw [hx]; rfl
      have HT : Hid ((sm ++ digB.extract d (d + 1)).data.toList = 120 :: (hex16 c).take (16 - k)) := by
        have hlen : 15 - k < (hex16 c).length := by rw [hex16, List.length_map, List.length_range]; omega
        rw [Hid, ByteArray.data_append, Array.toList_append, HS.out, hx, show 16 - k = (15 - k) + 1 by omega, List.take_succ_eq_append_getElem hlen, List.cons_append]
        have he : (hex16 c)[15 - k] = dig d := by
          simp only [hex16, List.getElem_map, List.getElem_range]
          rw [hd, show 15 - (15 - k) = k by omega]
        rw [he]
      have hdw : IntKind.u64.wrap ((d : Int) + 1) = ((d + 1 : Nat) : Int) := by rw [IntKind.wrap_u64]; omega
      have HZ := Lib.hid hxs
      clear hx hd
      go_wp2_with fail
      rcases Nat.eq_zero_or_pos k with h0 | h0
      · subst h0
        refine ⟨⟨_, rfl, trivial, .inr ⟨by rfl, ?_⟩⟩, ?_⟩
        · rw [HF.out]
          have h := HT.out
          rwa [List.take_of_length_le (by rw [hex16, List.length_map, List.length_range]; decide)] at h
        · simp [RowKit.intOf]
      · refine ⟨⟨_, rfl, trivial, .inl ⟨k - 1, by omega, by go_num, ?_, ?_⟩⟩, ?_⟩
        · rw [ByteArray.size_append]
          show sm.size + (digB.extract d (d + 1)).size = _
          rw [HZ.out]; omega
        · rw [Hid, show 15 - (k - 1) = 16 - k by omega]
          exact HT.out
        · simp [RowKit.intOf]
    · go_wp2_with fail
      go_ret
      exact ⟨by rw [← HS.out, ba_data']; rfl, rfl⟩
theorem natR_snoc (l : List UInt8) (x : UInt8) : natR (l ++ [x]) = stepN (natR l) x := by simp [natR]
theorem i64_wrap (n : Int) : IntKind.i64.wrap n = i64 n := by rw [IntKind.wrap_i64]; unfold i64; omega
theorem str_eqL (a s : ByteArray) (l : List UInt8) (ha : a = ⟨l.toArray⟩) : (a.toList == s.toList) = decide (l = s.data.toList) := by
  rw [ByteArray.toList_eq, ByteArray.toList_eq, ha]
  by_cases h : l = s.data.toList
  · simp [h]
  · simp [h]
set_option maxRecDepth 100000 in
set_option maxHeartbeats 4000000 in
theorem rnumber_any (s : ByteArray) (hs : s.size ≤ 1000000) (w : World) :
    Calls Tryz.prog 97 #[.string s] w fun e w' => e = .returned (.tuple #[.int .i64 (numberR s.data.toList).1, .bool (numberR s.data.toList).2]) ∧ w = w' := by
  go_enter Tryz.func97, Tryz.ntmps97
  go_wp2_with fail
  go_loopw [4, 5] (fun a i w' => ∃ (m : Nat) (q : Nat), i = .int .i64 m ∧ a = .int .u64 q ∧ m ≤ s.size ∧ q < 18446744073709551616 ∧ Hid (q = natR (s.data.toList.take m)) ∧ w' = w) (fun _ i _ => s.size - (RowKit.intOf i).toNat)
  case atStart => exact ⟨0, 0, rfl, rfl, Nat.zero_le _, by decide, rfl, rfl⟩
  case round =>
    obtain ⟨m, q, rfl, rfl, hm, hq, HQ, rfl⟩ := hrel
    by_cases hlt : m < s.size
    · have hlt' : m < s.data.toList.length := by rw [bsize]; exact hlt
      obtain ⟨x, hx⟩ : ∃ x, x = s[m]'hlt := ⟨_, rfl⟩
      have hx2 : s.data.toList[m] = x := by rw [hx]; exact Array.getElem_toList _
      have hxe : s[m]'hlt = x := hx.symm
      have hx256 : x.toNat < 256 := x.toNat_lt
      have HN : Hid (natR (s.data.toList.take (m + 1)) = stepN q x) := by
        rw [Hid, List.take_succ_eq_append_getElem hlt', natR_snoc, hx2, ← HQ.out]
      clear hx hx2 hlt'
      by_cases hd : 48 ≤ x.toNat ∧ x.toNat ≤ 57
      · have h1 : (48 : Int) ≤ (x.toNat : Int) := by omega
        have h2 : (x.toNat : Int) ≤ 57 := by omega
        have hst : stepN q x = (q * 10 + (x.toNat - 48)) % 18446744073709551616 := by unfold stepN; rw [if_pos hd]
        have hw1 : IntKind.u64.wrap ((q : Int) * 10) = ((q * 10 % 18446744073709551616 : Nat) : Int) := by rw [IntKind.wrap_u64]; omega
        have hw2 : IntKind.u8.wrap ((x.toNat : Int) - 48) = ((x.toNat - 48 : Nat) : Int) := by rw [IntKind.wrap_u8]; omega
        have hw4 : IntKind.u64.wrap ((x.toNat - 48 : Nat) : Int) = ((x.toNat - 48 : Nat) : Int) := by rw [IntKind.wrap_u64]; omega
        have hw3 : IntKind.u64.wrap (((q * 10 % 18446744073709551616 : Nat) : Int) + ((x.toNat - 48 : Nat) : Int)) = (stepN q x : Int) := by rw [IntKind.wrap_u64, hst]; omega
        have hlt2 : stepN q x < 18446744073709551616 := by rw [hst]; exact Nat.mod_lt _ (by decide)
        generalize stepN q x = q2 at *
        generalize q * 10 % 18446744073709551616 = q10 at *
        generalize x.toNat - 48 = x48 at *
        clear hst hd
        go_wp2_with fail
        refine ⟨⟨m + 1, q2, by go_num, rfl, by omega, hlt2, HN.out.symm, trivial⟩, ?_⟩
        simp [RowKit.intOf]; omega
      · have hst : stepN q x = q := by unfold stepN; rw [if_neg hd]
        rw [hst] at HN
        clear hst
        rcases Nat.lt_or_ge x.toNat 48 with h1 | h1
        · have h2 : ¬ (48 : Int) ≤ (x.toNat : Int) := by omega
          clear hd h1
          go_wp2_with fail
          refine ⟨⟨m + 1, q, by go_num, rfl, by omega, hq, HN.out.symm, trivial⟩, ?_⟩
          simp [RowKit.intOf]; omega
        · have h2 : (48 : Int) ≤ (x.toNat : Int) := by omega
          have h3 : ¬ (x.toNat : Int) ≤ 57 := by omega
          clear hd h1
          go_wp2_with fail
          refine ⟨⟨m + 1, q, by go_num, rfl, by omega, hq, HN.out.symm, trivial⟩, ?_⟩
          simp [RowKit.intOf]; omega
    · obtain rfl : m = s.size := by omega
      have hqn : q = natR s.data.toList := by
        have h := HQ.out
        rwa [← bsize s, List.take_length] at h
      obtain ⟨v, hv⟩ : ∃ v, v = i64 (q : Int) := ⟨_, rfl⟩
      obtain ⟨v2, hv2⟩ : ∃ v2, v2 = i64 (-v) := ⟨_, rfl⟩
      have hnr : numberR s.data.toList = if Lib.itoa v = s.data.toList then (v, true) else (v2, decide (Lib.itoa v2 = s.data.toList)) := by
        unfold numberR; rw [← hqn, ← hv, ← hv2]
      have hvr : -9223372036854775808 ≤ v ∧ v ≤ 9223372036854775807 := by rw [hv]; unfold i64; omega
      have hv2r : -9223372036854775808 ≤ v2 ∧ v2 ≤ 9223372036854775807 := by rw [hv2]; unfold i64; omega
      have hw1 : IntKind.i64.wrap (q : Int) = v := by rw [i64_wrap, hv]
      have hw2 : IntKind.i64.wrap (-v) = v2 := by rw [i64_wrap, hv2]
      have HD1 := Lib.hid (rdecimal_any v hvr.1 hvr.2)
      have HD2 := Lib.hid (rdecimal_any v2 hv2r.1 hv2r.2)
      obtain ⟨d1, hd1⟩ : ∃ d : ByteArray, d = ⟨(Lib.itoa v).toArray⟩ := ⟨_, rfl⟩
      obtain ⟨d2, hd2⟩ : ∃ d : ByteArray, d = ⟨(Lib.itoa v2).toArray⟩ := ⟨_, rfl⟩
      have he1 := str_eqL d1 s _ hd1
      have he2 := str_eqL d2 s _ hd2
      simp only [← hd1] at HD1
      simp only [← hd2] at HD2
      have HNR := Lib.hid hnr
      obtain ⟨c1, hc1⟩ : ∃ c, c = decide (Lib.itoa v = s.data.toList) := ⟨_, rfl⟩
      obtain ⟨c2, hc2⟩ : ∃ c, c = decide (Lib.itoa v2 = s.data.toList) := ⟨_, rfl⟩
      rw [← hc1] at he1
      rw [← hc2] at he2
      have HC1 := Lib.hid hc1
      have HC2 := Lib.hid hc2
      clear hnr hv hv2 hd1 hd2 hqn hc1 hc2 hvr hv2r
      go_wp2_with fail
      refine (HD1.out _).mono ?_
      rintro e w2 ⟨rfl, rfl⟩
      cases c1 with
      | true =>
        have hp : numberR s.data.toList = (v, true) := by rw [HNR.out, if_pos (of_decide_eq_true HC1.out.symm)]
        have HP := Lib.hid hp
        clear hp
        go_wp2_with fail
        go_ret2
        exact ⟨by rw [HP.out]; rfl, rfl⟩
      | false =>
        have hp : numberR s.data.toList = (v2, c2) := by rw [HNR.out, if_neg (of_decide_eq_false HC1.out.symm), ← HC2.out]
        have HP := Lib.hid hp
        clear hp
        go_wp2_with fail
        refine (HD2.out _).mono ?_
        rintro e w3 ⟨rfl, rfl⟩
        go_wp2_with fail
        go_ret2
        exact ⟨by rw [HP.out]; rfl, rfl⟩
theorem unhexRL_step : ∀ (m : Nat) (l : List UInt8) (a b : UInt8), l[2 * m]? = some a → l[2 * m + 1]? = some b → unhexRL (l.take (2 * (m + 1))) = unhexRL (l.take (2 * m)) ++ [UInt8.ofNat (hexR (hexR 0 a) b)]
  | 0, l, a, b, ha, hb => by
    match l, ha, hb with
    | x :: y :: r, ha, hb => cases ha; cases hb; rfl
  | m + 1, l, a, b, ha, hb => by
    match l, ha, hb with
    | x :: y :: r, ha, hb =>
      have h := unhexRL_step m r a b (by rw [show 2 * (m + 1) = 2 * m + 1 + 1 by omega] at ha; simpa using ha) (by rw [show 2 * (m + 1) + 1 = 2 * m + 1 + 1 + 1 by omega] at hb; simpa using hb)
      rw [show 2 * (m + 1 + 1) = 2 * (m + 1) + 1 + 1 by omega, show 2 * (m + 1) = 2 * m + 1 + 1 by omega]
      simp only [List.take_succ_cons, unhexRL]
      rw [show 2 * m + 1 + 1 = 2 * (m + 1) by omega, h, List.cons_append]
theorem unhexRL_end : ∀ (m : Nat) (l : List UInt8), l.length ≤ 2 * m + 1 → unhexRL (l.take (2 * m)) = unhexRL l
  | 0, l, h => by
    match l, h with
    | [], h => rfl
    | [x], h => rfl
  | m + 1, l, h => by
    match l, h with
    | [], h => rfl
    | [x], h => rfl
    | x :: y :: r, h =>
      have h2 := unhexRL_end m r (by simp at h; omega)
      rw [show 2 * (m + 1) = 2 * m + 1 + 1 by omega]
      simp only [List.take_succ_cons, unhexRL]
      rw [h2]
theorem unhexRL_len : ∀ (m : Nat) (l : List UInt8), 2 * m ≤ l.length → (unhexRL (l.take (2 * m))).length = m
  | 0, l, h => rfl
  | m + 1, l, h => by
    match l, h with
    | [], h => simp at h
    | [x], h => simp at h; omega
    | x :: y :: r, h =>
      have h2 := unhexRL_len m r (by simp at h; omega)
      rw [show 2 * (m + 1) = 2 * m + 1 + 1 by omega]
      simp only [List.take_succ_cons, unhexRL, List.length_cons]
      rw [h2]
theorem conv_any {P : Program} {w : World} {src dst e : TypeId} {a : Option Addr} {c : Nat} {l : List UInt8} (hs : P.underlying src = some (.slice e)) (he : P.underlying e = some (.int .u8)) (hd : P.underlying dst = some .string)
    (h : Reads w (.slice a l.length c) l.length 1 (u8s l)) : (convert src dst (.slice a l.length c)).run P w = .ok (.string ⟨l.toArray⟩) w := by
  cases a with
  | none =>
    obtain ⟨-, ao, c', hv, -, hnn, -⟩ := h
    cases hv
    have h0 := (hnn rfl).1
    have : l = [] := List.eq_nil_of_length_eq_zero h0
    subst this
    exact run_convert_bytes_nil w src e hs he _ _ dst hd
  | some ad =>
    obtain ⟨-, ao, c', hv, -, hnn, hc⟩ := h
    cases hv
    refine run_convert_bytes_back w src dst e ad c l hs he hd (fun j hj => ?_)
    exact hc ad rfl j _ (by rw [u8s, List.getElem?_map, List.getElem?_eq_getElem hj]; rfl)
theorem bel_stepU {w0 a b : World} (h : Hid (Below w0.heap.size w0 a)) (hb : Below a.heap.size a b) : Hid (Below w0.heap.size w0 b) := h.out.trans (hb.mono h.out.size)
theorem hexR_le (n : Nat) (c : UInt8) (h : n ≤ 15) : hexR n c ≤ 255 ∧ (n = 0 → hexR n c ≤ 15) := by
  unfold hexR
  repeat' split
  all_goals omega
set_option maxRecDepth 100000 in
set_option maxHeartbeats 4000000 in
theorem runhex_any (s : ByteArray) (hs : s.size ≤ 1000000) (w : World) :
    Calls Tryz.prog 98 #[.string s] w fun e w' => e = .returned (.tuple #[.string ⟨(unhexR s.data.toList).1.toArray⟩, .bool (unhexR s.data.toList).2]) ∧ Below w.heap.size w w' := by
  go_enter Tryz.func98, Tryz.ntmps98
  go_wp2_with fail
  go_loopw [4, 5] (fun o i w' => ∃ (m : Nat) (a : Option Addr) (c : Nat), i = .int .i64 (2 * m : Nat) ∧ o = .slice a m c ∧ 2 * m ≤ s.size ∧ Hid (Row w' 5 1 (.slice a m c) m (u8s (unhexRL (s.data.toList.take (2 * m)))) (fun k => w.heap.size ≤ k)) ∧ Hid (Below w.heap.size w w')) (fun _ i _ => s.size - (RowKit.intOf i).toNat)
  case atStart => exact ⟨0, none, 0, rfl, rfl, Nat.zero_le _, Row.nil _ _ _ _, Below.refl _ _⟩
  case round =>
    obtain ⟨m, a, c, rfl, rfl, hm, HR, HB⟩ := hrel
    obtain ⟨i, hi⟩ : ∃ i, i = 2 * m := ⟨_, rfl⟩
    rw [← hi]
    have HI := Lib.hid hi
    by_cases hlt : i + 1 < s.size
    · have hlt0 : i < s.size := by omega
      obtain ⟨x, hx⟩ : ∃ x, x = s[i]'hlt0 := ⟨_, rfl⟩
      obtain ⟨y, hy⟩ : ∃ y, y = s[i + 1]'hlt := ⟨_, rfl⟩
      have hxe : s[i]'hlt0 = x := hx.symm
      have hye : s[i + 1]'hlt = y := hy.symm
      have hla : s.data.toList[2 * m]? = some x := by
        rw [← hi, Array.getElem?_toList, ← hxe]
        exact Array.getElem?_eq_getElem hlt0
      have hlb : s.data.toList[2 * m + 1]? = some y := by
        rw [← hi, Array.getElem?_toList, ← hye]
        exact Array.getElem?_eq_getElem hlt
      have HST := Lib.hid (unhexRL_step m s.data.toList x y hla hlb)
      clear hla hlb hx hy
      obtain ⟨hx, hhx⟩ : ∃ f : Nat → Nat, f = fun t => if t = 0 then 0 else if t = 1 then hexR 0 x else hexR (hexR 0 x) y := ⟨_, rfl⟩
      have HH0 : Hid (hx 0 = 0) := by rw [hhx]; rfl
      have HH1 : Hid (hx 1 = hexR 0 x) := by rw [hhx]; rfl
      have HH2 : Hid (hx 2 = hexR (hexR 0 x) y) := by rw [hhx]; rfl
      have hb1 := (hexR_le 0 x (by decide)).2 rfl
      have HBD : Hid (∀ t, t ≤ 1 → hx t ≤ 15) := by
        intro t ht
        obtain rfl | rfl : t = 0 ∨ t = 1 := by omega
        · rw [HH0.out]; decide
        · rw [HH1.out]; exact hb1
      have HZ : Hid (∀ t, t ≤ 1 → ∃ (hlt : i + t < s.size) (z : UInt8), s[i + t]'hlt = z ∧ hx (t + 1) = hexR (hx t) z) := by
        intro t ht
        obtain rfl | rfl : t = 0 ∨ t = 1 := by omega
        · exact ⟨hlt0, x, hxe, by rw [HH0.out, HH1.out]⟩
        · exact ⟨hlt, y, hye, by rw [HH1.out, HH2.out]⟩
      have hb2 := (hexR_le _ y hb1).1
      have HB2 := Lib.hid hb2
      clear hi hhx hb1 hb2 hxe hye
      go_wp2_with fail
      go_loopw [6, 7] (fun n k w' => ∃ (t v : Nat), k = .int .i64 (i + t : Nat) ∧ n = .int .i64 v ∧ t ≤ 2 ∧ Hid (v = hx t) ∧ w' = wr) (fun _ k _ => i + 2 - (RowKit.intOf k).toNat)
      case atStart => exact ⟨0, 0, rfl, rfl, by decide, HH0.out.symm, rfl⟩
      case round =>
        obtain ⟨t, v, rfl, rfl, ht, HV, rfl⟩ := hrel
        obtain ⟨kk, hkk⟩ : ∃ kk, kk = i + t := ⟨_, rfl⟩
        rw [← hkk]
        by_cases ht2 : t < 2
        · obtain ⟨hlz, z, hz, hnx⟩ := HZ.out t (by omega)
          have hv15 : v ≤ 15 := by rw [HV.out]; exact HBD.out t (by omega)
          rw [← HV.out] at hnx
          have HNX := Lib.hid hnx
          have hkl : kk < s.size := hkk ▸ hlz
          have hz2 : s[kk]'hkl = z := by subst hkk; exact hz
          have hki : kk < i + 2 := by omega
          have hz256 : z.toNat < 256 := z.toNat_lt
          have HKK := Lib.hid hkk
          clear hz hlz hnx hkk
          have hw1 : IntKind.i64.wrap ((v : Int) * 16) = ((v * 16 : Nat) : Int) := by rw [IntKind.wrap_i64]; omega
          by_cases hd : 48 ≤ z.toNat ∧ z.toNat ≤ 57
          · have h1 : (48 : Int) ≤ (z.toNat : Int) := by omega
            have h2 : (z.toNat : Int) ≤ 57 := by omega
            have h3 : ¬ (97 : Int) ≤ (z.toNat : Int) := by omega
            have hst : hexR v z = v * 16 + (z.toNat - 48) := by unfold hexR; rw [if_pos hd, if_neg (by omega)]; rfl
            have hw2 : IntKind.u8.wrap ((z.toNat : Int) - 48) = ((z.toNat - 48 : Nat) : Int) := by rw [IntKind.wrap_u8]; omega
            have hw4 : IntKind.i64.wrap ((z.toNat - 48 : Nat) : Int) = ((z.toNat - 48 : Nat) : Int) := by rw [IntKind.wrap_i64]; omega
            have hw3 : IntKind.i64.wrap (((v * 16 : Nat) : Int) + ((z.toNat - 48 : Nat) : Int)) = (hexR v z : Int) := by rw [IntKind.wrap_i64, hst]; omega
            have HF : Hid (hexR v z = hx (t + 1)) := HNX.out.symm
            clear hst hd HNX
            generalize hexR v z = q2 at *
            generalize v * 16 = q10 at *
            generalize z.toNat - 48 = x48 at *
            go_wp2_with fail
            refine ⟨⟨t + 1, q2, by rw [show i + (t + 1) = kk + 1 by rw [HKK.out]; omega]; go_num, rfl, by omega, HF.out, trivial⟩, ?_⟩
            simp [RowKit.intOf]; omega
          · by_cases hl : 97 ≤ z.toNat ∧ z.toNat ≤ 102
            · have h1 : (48 : Int) ≤ (z.toNat : Int) := by omega
              have h2 : ¬ (z.toNat : Int) ≤ 57 := by omega
              have h3 : (97 : Int) ≤ (z.toNat : Int) := by omega
              have h4 : (z.toNat : Int) ≤ 102 := by omega
              have hst : hexR v z = v * 16 + (z.toNat - 97) + 10 := by unfold hexR; rw [if_pos hl, if_neg hd]; omega
              have hw2 : IntKind.u8.wrap ((z.toNat : Int) - 97) = ((z.toNat - 97 : Nat) : Int) := by rw [IntKind.wrap_u8]; omega
              have hw4 : IntKind.i64.wrap ((z.toNat - 97 : Nat) : Int) = ((z.toNat - 97 : Nat) : Int) := by rw [IntKind.wrap_i64]; omega
              obtain ⟨qm, hqm⟩ : ∃ qm : Nat, qm = v * 16 + (z.toNat - 97) := ⟨_, rfl⟩
              have hw5 : IntKind.i64.wrap (((v * 16 : Nat) : Int) + ((z.toNat - 97 : Nat) : Int)) = (qm : Int) := by rw [IntKind.wrap_i64, hqm]; omega
              have hw3 : IntKind.i64.wrap ((qm : Int) + 10) = (hexR v z : Int) := by rw [IntKind.wrap_i64, hst, hqm]; omega
              have HF : Hid (hexR v z = hx (t + 1)) := HNX.out.symm
              clear hst hd hl hqm HNX
              generalize hexR v z = q2 at *
              generalize v * 16 = q10 at *
              generalize z.toNat - 97 = x48 at *
              go_wp2_with fail
              refine ⟨⟨t + 1, q2, by rw [show i + (t + 1) = kk + 1 by rw [HKK.out]; omega]; go_num, rfl, by omega, HF.out, trivial⟩, ?_⟩
              simp [RowKit.intOf]; omega
            · have hst : hexR v z = v * 16 := by unfold hexR; rw [if_neg hd, if_neg hl]; rfl
              have HF : Hid (v * 16 = hx (t + 1)) := by rw [Hid, HNX.out, hst]
              have HL : Hid (z.toNat < 48 ∨ (57 < z.toNat ∧ z.toNat < 97) ∨ 102 < z.toNat) := by rw [Hid]; omega
              clear hst hd hl HNX
              generalize v * 16 = q10 at *
              rcases HL.out with h | ⟨h, h'⟩ | h
              · have g1 : ¬ (48 : Int) ≤ (z.toNat : Int) := by omega
                have g3 : ¬ (97 : Int) ≤ (z.toNat : Int) := by omega
                clear h
                go_wp2_with fail
                refine ⟨⟨t + 1, q10, by rw [show i + (t + 1) = kk + 1 by rw [HKK.out]; omega]; go_num, rfl, by omega, HF.out, trivial⟩, ?_⟩
                simp [RowKit.intOf]; omega
              · have g1 : (48 : Int) ≤ (z.toNat : Int) := by omega
                have g2 : ¬ (z.toNat : Int) ≤ 57 := by omega
                have g3 : ¬ (97 : Int) ≤ (z.toNat : Int) := by omega
                clear h h'
                go_wp2_with fail
                refine ⟨⟨t + 1, q10, by rw [show i + (t + 1) = kk + 1 by rw [HKK.out]; omega]; go_num, rfl, by omega, HF.out, trivial⟩, ?_⟩
                simp [RowKit.intOf]; omega
              · have g1 : (48 : Int) ≤ (z.toNat : Int) := by omega
                have g2 : ¬ (z.toNat : Int) ≤ 57 := by omega
                have g3 : (97 : Int) ≤ (z.toNat : Int) := by omega
                have g4 : ¬ (z.toNat : Int) ≤ 102 := by omega
                clear h
                go_wp2_with fail
                refine ⟨⟨t + 1, q10, by rw [show i + (t + 1) = kk + 1 by rw [HKK.out]; omega]; go_num, rfl, by omega, HF.out, trivial⟩, ?_⟩
                simp [RowKit.intOf]; omega
        · obtain rfl : t = 2 := by omega
          have hkk2 : ¬ kk < i + 2 := by omega
          have hv256 : v < 256 := by rw [HV.out, HH2.out]; have := HB2.out; omega
          have HOB : Hid (unhexRL (s.data.toList.take (2 * (m + 1))) = unhexRL (s.data.toList.take (2 * m)) ++ [UInt8.ofNat v]) := by rw [Hid, HST.out, HV.out, HH2.out]
          have hw8 : IntKind.u8.wrap (v : Int) = ((UInt8.ofNat v).toNat : Int) := by
            have e : (UInt8.ofNat v).toNat = v := by rw [UInt8.toNat_ofNat']; omega
            rw [IntKind.wrap_u8, e]; omega
          generalize UInt8.ofNat v = bt at *
          have hone := u8s_one [bt]
          have hmb : m ≤ 500000 := by omega
          have HKK := Lib.hid hkk
          clear hkk
          go_wp2_with (refine wpList_row elemU8 rfl rfl (S := fun k => w.heap.size ≤ k) (v := .slice a m c) (n := m) (xs := u8s (unhexRL (s.data.toList.take (2 * m)))) rfl (HR.out.frame (fun k _ hk => Below.heap_alloc _ _ _ hk)) (y := .slice (some ⟨wr.heap.size, 0, none⟩) 1 1) (m := 1) (news := u8s [bt]) rfl (Reads.block (heap_alloc_new wr _) 1 1 rfl) hone (by unfold maxLen; omega) (by omega) ?_
                       intro v5 w5 hr5 hch5
                       obtain ⟨a5, c5, rfl⟩ : ∃ a5 c5, v5 = .slice a5 (m + 1) c5 := (by obtain ⟨-, a5, c5, h, -⟩ := hr5.reads; exact ⟨a5, c5, h⟩)
                       have HR5 := Lib.hid hr5
                       have HCH5 := Lib.hid hch5
                       clear hr5 hch5)
          refine ⟨⟨m + 1, a5, c5, by rw [show 2 * (m + 1) = i + 2 by rw [HI.out]; omega]; go_num, rfl, by have := HI.out; omega, ?_, ?_⟩, ?_⟩
          · rw [Hid, HOB.out]
            have e : ∀ A : List UInt8, u8s (A ++ [bt]) = u8s A ++ u8s [bt] := fun A => by simp [u8s]
            rw [e]
            exact HR5.out.mono (fun k hk => by rcases hk with hk | hk; exact hk; have := HB.out.size; simp only [World.size_alloc] at hk; omega)
          · exact (HB.out.alloc HB.out.size _).trans (HCH5.out.toBelow (B := w.heap.size) (by simp only [World.size_alloc]; have := HB.out.size; omega) (fun n hn h => by omega))
          · simp [RowKit.intOf]; omega
    · have hle : s.data.toList.length ≤ 2 * m + 1 := by rw [bsize]; omega
      have hend := unhexRL_end m s.data.toList hle
      have hln := unhexRL_len m s.data.toList (by rw [bsize]; exact hm)
      rw [hend] at HR hln
      have huR : unhexR s.data.toList = (unhexRL s.data.toList, decide (hexL (unhexRL s.data.toList) = s.data.toList)) := rfl
      obtain ⟨L, hL⟩ : ∃ L, L = unhexRL s.data.toList := ⟨_, rfl⟩
      rw [← hL] at HR hln huR
      obtain ⟨ob, hob⟩ : ∃ ob : ByteArray, ob = ⟨L.toArray⟩ := ⟨_, rfl⟩
      have hobl : ob.data.toList = L := by rw [hob]
      have hobs : ob.size ≤ 1000000 := by rw [Lib.size_eq, hobl, hln]; omega
      obtain ⟨cc, hcc⟩ : ∃ cc, cc = decide (hexL L = s.data.toList) := ⟨_, rfl⟩
      rw [← hcc] at huR
      have HU := Lib.hid huR
      have HCV : Hid (∀ W, Hid (Below wr.heap.size wr W) → (convert 33 9 (.slice a m c)).run Tryz.prog W = .ok (.string ob) W) := fun W hW => by
        rw [hob, ← hln]
        exact conv_any Tryz.underlying33 Tryz.underlying5 Tryz.underlying9 (by rw [hln]; exact (HR.out.reads.later hW.out))
      have HHX := Lib.hid (rhex_any ob hobs)
      obtain ⟨d, hd⟩ : ∃ d : ByteArray, d = ⟨(hexL ob.data.toList).toArray⟩ := ⟨_, rfl⟩
      have he := str_eqL d s _ hd
      rw [hobl, ← hcc] at he
      simp only [← hd] at HHX
      have HOB := Lib.hid hob
      have hib : i ≤ 1000000 := by omega
      have hlti : ¬ ((i : Int) + 1 < (s.size : Int)) := by omega
      have hltd : decide ((i : Int) + 1 < (s.size : Int)) = false := decide_eq_false hlti
      have HB00 : Hid (Below wr.heap.size wr wr) := Below.refl _ _
      have HB0 : Hid (Below wr.heap.size wr wr.drew) := (Below.refl _ _).drew
      clear hle hend hln huR hL hob hobl hcc hd hi hlt
      go_upto_region 16 with fail
      go_region_held3 (fun w' => (convert 33 9 (.slice a m c)).run Tryz.prog w' = .ok (.string ob) w') (exact HCV.out _ (by assumption))
        (first
        | (go_at_call 80; refine (HHX.out _).mono ?_; rintro e w4 ⟨rfl, hb4⟩
           have HB4 := bel_stepU (by assumption) hb4
           clear hb4)
        | fail)
      all_goals
        have HBE := Lib.hid (HB.out.trans (HB4.out.mono HB.out.size))
        go_wp2_with fail
        go_ret2
        exact ⟨by rw [HU.out, HOB.out]; rfl, HBE.out⟩
end Go.Proofs.YtpijpeocdlnhiaaGreatDoor
