/- num.Text: the text of a number. -/
import Derived.Test.YtpijpeocdlnhiaaGreatDoorTFmt
import Derived.Test.YtpijpeocdlnhiaaGreatDoorKind
import Derived.Test.YtpijpeocdlnhiaaGreatDoorFOrd
import Derived.Test.YtpijpeocdlnhiaaGreatDoorShelf
namespace Go.Proofs.YtpijpeocdlnhiaaGreatDoor
set_option linter.unusedVariables false
set_option linter.unusedSimpArgs false
open Go.RowKit

set_option maxRecDepth 100000 in
set_option maxHeartbeats 1000000 in
theorem signbit_any (f : Nat) (hf : f < 18446744073709551616) (w : World) :
    Calls Tryz.prog 160 #[.float .f64 f] w fun e w' => e = .returned (.bool (decide (9223372036854775808 ≤ f))) ∧ w = w' := by
  have hb : ∀ (f : Nat) (w : World), (callFunc 73 #[.float .f64 f]).run Tryz.prog w = .ok (.value (.int .u64 f)) w := call_bits
  by_cases h : 9223372036854775808 ≤ f
  · rw [decide_eq_true h]
    have hw : IntKind.i64.wrap (f : Int) = (f : Int) - 18446744073709551616 := by rw [IntKind.wrap_i64]; omega
    have hlt : decide ((f : Int) - 18446744073709551616 < 0) = true := by rw [decide_eq_true_iff]; omega
    go_enter Tryz.func160, Tryz.ntmps160
    go_wp2
    go_ret
    exact ⟨rfl, rfl⟩
  · rw [decide_eq_false h]
    have hw : IntKind.i64.wrap (f : Int) = (f : Int) := by rw [IntKind.wrap_i64]; omega
    have hlt : decide ((f : Int) < 0) = false := by rw [decide_eq_false_iff_not]; omega
    go_enter Tryz.func160, Tryz.ntmps160
    go_wp2
    go_ret
    exact ⟨rfl, rfl⟩
theorem andnot_sign (f : Nat) (hf : f < 18446744073709551616) : bits BinOp.andNot IntKind.u64 (f : Int) 9223372036854775808 = ((f % 9223372036854775808 : Nat) : Int) := by
  have h := u64_andNot_nat f 9223372036854775808 hf (by decide)
  have e : f &&& (18446744073709551615 - 9223372036854775808) = f % 9223372036854775808 := Nat.and_two_pow_sub_one_eq_mod f 63
  rw [e] at h
  exact h
set_option maxRecDepth 100000 in
set_option maxHeartbeats 1000000 in
theorem abs_any (f : Nat) (hf : f < 18446744073709551616) (w : World) :
    Calls Tryz.prog 183 #[.float .f64 f] w fun e w' => e = .returned (.float .f64 (f % 9223372036854775808)) ∧ w = w' := by
  have hb : ∀ (f : Nat) (w : World), (callFunc 73 #[.float .f64 f]).run Tryz.prog w = .ok (.value (.int .u64 f)) w := call_bits
  have hn := andnot_sign f hf
  generalize f % 9223372036854775808 = g at *
  have hb2 : ∀ (w : World), (callFunc 110 #[.int .u64 g]).run Tryz.prog w = .ok (.value (.float .f64 g)) w := call_bits2 g
  go_enter Tryz.func183, Tryz.ntmps183
  go_wp2
  go_ret
  exact ⟨rfl, rfl⟩
set_option maxRecDepth 100000 in
set_option maxHeartbeats 1000000 in
theorem isinf_any (f : Nat) (hf : f < 18446744073709551616) (w : World) :
    Calls Tryz.prog 161 #[.float .f64 f, .int .i64 0] w fun e w' => e = .returned (.bool (decide (f % 9223372036854775808 = 9218868437227405312))) ∧ w = w' := by
  have hA := Lib.hid (abs_any f hf w)
  have ho := order_max (f % 9223372036854775808) (by omega)
  generalize f % 9223372036854775808 = g at *
  generalize decide (g = 9218868437227405312) = r at *
  go_enter Tryz.func161, Tryz.ntmps161
  go_wp2_with fail
  refine hA.out.mono ?_
  rintro e w1 ⟨rfl, rfl⟩
  go_wp2
  go_ret
  exact ⟨rfl, rfl⟩

theorem repeat_one (c : UInt8) (n : Nat) : Lib.repeatL [c] n = List.replicate n c := by
  induction n with
  | zero => simp [Lib.repeatL]
  | succ n ih => rw [List.replicate_succ, ← ih]; simp [Lib.repeatL, List.replicate_succ]
set_option maxRecDepth 100000 in
set_option maxHeartbeats 4000000 in
theorem ntext_any (f : Nat) (hf : f < 18446744073709551616) (w : World) (h : w.cell? ⟨9, 15, none⟩ = some (.int .u8 4)) :
    Calls Tryz.prog 131 #[.float .f64 f] w fun e w' => e = .returned (.string ⟨(numTextL f).toArray⟩) ∧ Below w.heap.size w w' := by
  have ho := order_self f hf
  have hz := order_zero f
  have HS := Lib.hid (signbit_any f hf w)
  have HI := Lib.hid (isinf_any f hf w)
  have HNB := Lib.hid (nbits_any f hf w)
  have HT := Lib.hid h
  have HNM := nanB_mod hf
  clear h
  by_cases hn : nanB f = true
  · have ht : numTextL f = nanL := by unfold numTextL canonB; rw [if_pos hn]; rfl
    rw [ht]
    rw [hn] at ho
    clear HS HI HNB HT hz HNM
    go_enter Tryz.func131, Tryz.ntmps131
    go_wp2
    go_ret
    exact ⟨rfl, Below.refl _ _⟩
  have hn' : nanB f = false := by simpa using hn
  have hcan : canonB f = f := by unfold canonB; rw [if_neg hn]
  rw [hn'] at ho HNM
  rw [hcan] at HNB
  have hle : f % 9223372036854775808 ≤ 9218868437227405312 := by
    have := of_decide_eq_false HNM.symm; omega
  by_cases h0 : f % 9223372036854775808 = 0
  · rw [decide_eq_true h0] at hz
    by_cases hs : 9223372036854775808 ≤ f
    · have he : f = 9223372036854775808 := by omega
      have ht : numTextL f = mzeroL := by unfold numTextL; rw [hcan, he]; decide
      rw [ht]
      rw [Hid, decide_eq_true hs] at HS
      clear HI HNB HT HNM he hs h0 hle hcan hn hn' ht
      go_enter Tryz.func131, Tryz.ntmps131
      go_wp2_with fail
      refine HS.mono ?_
      rintro e w1 ⟨rfl, rfl⟩
      clear HS
      go_wp2
      go_ret
      exact ⟨rfl, Below.refl _ _⟩
    · have he : f = 0 := by omega
      have ht : numTextL f = zeroL := by unfold numTextL; rw [hcan, he]; decide
      rw [ht]
      rw [Hid, decide_eq_false hs] at HS
      clear HI HNB HT HNM he hs h0 hle hcan hn hn' ht
      go_enter Tryz.func131, Tryz.ntmps131
      go_wp2_with fail
      refine HS.mono ?_
      rintro e w1 ⟨rfl, rfl⟩
      clear HS
      go_wp2
      go_ret
      exact ⟨rfl, Below.refl _ _⟩
  rw [decide_eq_false h0] at hz
  by_cases hi : f % 9223372036854775808 = 9218868437227405312
  · rw [Hid, decide_eq_true hi] at HI
    have HI2 := Lib.hid HI
    by_cases hs : 9223372036854775808 ≤ f
    · have he : f = 18442240474082181120 := by omega
      have ht : numTextL f = minfL := by unfold numTextL; rw [hcan, he]; decide
      rw [ht]
      rw [Hid, decide_eq_true hs] at HS
      have HS2 := Lib.hid HS
      clear HI HS HNB HT HNM he hs h0 hle hcan hn hn' ht hi
      go_enter Tryz.func131, Tryz.ntmps131
      go_wp2_with (first
        | (go_at_call 160; refine HS2.out.mono ?_; rintro e w1 ⟨rfl, rfl⟩)
        | (go_at_call 161; refine HI2.out.mono ?_; rintro e w1 ⟨rfl, rfl⟩))
      go_ret
      exact ⟨rfl, Below.refl _ _⟩
    · have he : f = 9218868437227405312 := by omega
      have ht : numTextL f = infL := by unfold numTextL; rw [hcan, he]; decide
      rw [ht]
      rw [Hid, decide_eq_false hs] at HS
      have HS2 := Lib.hid HS
      clear HI HS HNB HT HNM he hs h0 hle hcan hn hn' ht hi
      go_enter Tryz.func131, Tryz.ntmps131
      go_wp2_with (first
        | (go_at_call 160; refine HS2.out.mono ?_; rintro e w1 ⟨rfl, rfl⟩)
        | (go_at_call 161; refine HI2.out.mono ?_; rintro e w1 ⟨rfl, rfl⟩))
      go_ret
      exact ⟨rfl, Below.refl _ _⟩
  · rw [Hid, decide_eq_false hi] at HI
    have HI2 := Lib.hid HI
    have HS2 := Lib.hid HS.out
    have HTX : Hid (numTextL f = 120 :: hex16 f) := by
      rw [Hid]
      unfold numTextL numC
      rw [hcan, if_neg ?_, if_neg ?_, if_neg ?_, if_neg ?_, if_neg ?_]
      all_goals (intro e; rw [e] at hi h0 hn'; first | exact absurd rfl hi | exact absurd rfl h0 | exact absurd hn' (by decide))
    have HF := Lib.hid (fu16_any f hf w HT.out)
    generalize decide (9223372036854775808 ≤ f) = sg at *
    clear HI HS HT HNM h0 hle hcan hn hn' hi
    go_enter Tryz.func131, Tryz.ntmps131
    cases sg
    all_goals
      go_upto_region 11 with (first
        | (go_at_call 160; refine HS2.out.mono ?_; rintro e w1 ⟨rfl, rfl⟩)
        | (go_at_call 161; refine HI2.out.mono ?_; rintro e w1 ⟨rfl, rfl⟩)
        | (go_at_call 46; refine HNB.out.mono ?_; rintro e w1 ⟨rfl, rfl⟩)
        | (go_at_call 162; refine HF.out.mono ?_; rintro e w2 ⟨⟨j, hj1, hj2, hj3, rfl⟩, hb2⟩))
      have HB2 := Lib.hid hb2
      have HJ := Lib.hid (And.intro hj2 hj3)
      obtain ⟨s, hs⟩ : ∃ s : ByteArray, s = ⟨(hexTail f j).toArray⟩ := ⟨_, rfl⟩
      have hsz : s.size = j := by rw [hs]; show (hexTail f j).toArray.size = j; simp [hexTail_length]
      obtain ⟨m, hm⟩ : ∃ m, m = 16 - j := ⟨_, rfl⟩
      have hsub : (16 : Int) - (s.size : Int) = (m : Int) := by rw [hsz]; omega
      have hm16 : m ≤ 16 := by omega
      have HS := Lib.hid hs
      have HM := Lib.hid hm
      have HR0 := Lib.hid (Tryz.strings_Repeat ⟨#[48]⟩ m w2 (by omega) (by show 1 * m ≤ _; omega))
      obtain ⟨rp, hrp⟩ : ∃ rp : ByteArray, rp = ⟨(Lib.repeatL [48] m).toArray⟩ := ⟨_, rfl⟩
      have HR : Hid (Calls Tryz.prog 163 #[.string ⟨#[48]⟩, .int .i64 (m : Int)] w2 fun e w' => e = .returned (.string rp) ∧ Below w2.heap.size w2 w') := by
        rw [Hid, hrp]
        exact HR0.out
      have hrsz : rp.size ≤ 16 := by rw [hrp, repeat_one]; show (List.replicate m (48 : UInt8)).toArray.size ≤ 16; simp; try omega
      have HRP := Lib.hid hrp
      have hs16 : s.size ≤ 16 := by omega
      rw [← hs]
      clear hb2 hs hrp hj1 hj2 hj3 HR0 hm hsz
      go_wp2_with fail
      refine HR.out.mono ?_
      rintro e w3 ⟨rfl, hb3⟩
      have HB3 := Lib.hid (HB2.out.trans (hb3.mono HB2.out.size))
      clear hb3
      go_wp2
      go_ret
      refine ⟨?_, HB3.out⟩
      show Ending.returned (.string ((⟨#[120]⟩ : ByteArray) ++ rp ++ s)) = _
      rw [HRP.out, HM.out, HS.out, HTX.out, repeat_one, ← hex16_of_tail HJ.out.2 HJ.out.1]
      have e1 : (⟨#[120]⟩ : ByteArray) = ⟨([120] : List UInt8).toArray⟩ := rfl
      rw [e1, ba_app, ba_app]
      rfl
end Go.Proofs.YtpijpeocdlnhiaaGreatDoor
