/- Texts for scanBegins_holds, joined: RefMake. -/
import Derived.Test.YtgdmdbdljmlkkaaGreatDoorBg19
namespace Go.Proofs.YtgdmdbdljmlkkaaGreatDoor
set_option linter.unusedVariables false
set_option linter.unusedSimpArgs false
open Go.RowKit
set_option maxRecDepth 100000 in
set_option maxHeartbeats 1000000 in
theorem rfeed_any (x : W32) (c : UInt8) (w : World) :
    Calls Tryz.prog 235 #[.int .u32 x.toNat, .int .u8 c.toNat] w fun e w' => e = .returned (.int .u32 (feedB x c).toNat) ∧ w' = w := by
  obtain ⟨X, hX⟩ : ∃ X : W32, X = x ^^^ BitVec.ofNat 32 c.toNat := ⟨_, rfl⟩
  have hxb : bits .xor .u32 (x.toNat : Int) (c.toNat : Int) = (X.toNat : Int) := by rw [hX]; exact xor_byte x c
  have HF : Hid (feedB x c = shN 8 X) := by rw [hX]; rfl
  rw [HF.out]
  have hc := c.toNat_lt
  clear hX
  go_enter Tryz.func235, Tryz.ntmps235
  go_wp2
  go_loop [0, 5] (fun v i => ∃ k : Nat, k ≤ 8 ∧ i = .int .i64 k ∧ v = .int .u32 (shN k X).toNat) (fun _ i => 8 - (RowKit.intOf i).toNat)
  case atStart => exact ⟨0, by omega, rfl, rfl⟩
  case round =>
    obtain ⟨k, hk, rfl, rfl⟩ := hrel
    clear hxb
    have HS := Lib.hid (shN_succ k X)
    have hb := w32_bd (shN k X)
    have ho := odd32 (shN k X)
    by_cases hlt : k < 8
    · cases hbit : (shN k X).getLsbD 0 with
      | true =>
        rw [hbit] at ho
        simp only [if_true] at ho
        have HE := Lib.hid (sh1_odd _ hbit)
        clear hbit
        go_wp2
        go_round
        case rel => exact ⟨k + 1, by omega, by go_num, by rw [HS.out, ← HE.out]⟩
        case measure => simp [RowKit.intOf]; omega
      | false =>
        rw [hbit] at ho
        simp only [Bool.false_eq_true, if_false] at ho
        have HE := Lib.hid (sh1_even' _ hbit)
        clear hbit
        go_wp2
        go_round
        case rel => exact ⟨k + 1, by omega, by go_num, by rw [HS.out, ← HE.out]⟩
        case measure => simp [RowKit.intOf]; omega
    · obtain rfl : k = 8 := by omega
      clear ho
      go_wp2
      go_ret
      exact ⟨rfl, rfl⟩
set_option maxRecDepth 100000 in
set_option maxHeartbeats 1000000 in
theorem rmore_any (s : W32) (ba : Option Addr) (bc : Nat) (l : List UInt8) (w : World) (h : Reads w (.slice ba l.length bc) l.length 1 (byts l)) (hl : l.length ≤ 1000000000) :
    Calls Tryz.prog 207 #[.int .u32 s.toNat, .slice ba l.length bc] w fun e w' => e = .returned (.int .u32 (~~~ crcR (~~~ s) l).toNat) ∧ w' = w := by
  have HRT := Lib.hid h
  obtain ⟨s2, hs2⟩ : ∃ s2 : W32, s2 = ~~~ s := ⟨_, rfl⟩
  obtain ⟨E, hE⟩ : ∃ E : W32, E = ~~~ crcR s2 l := ⟨_, rfl⟩
  have hns : bits .xor .u32 IntKind.u32.max (s.toNat : Int) = (s2.toNat : Int) := by rw [hs2]; exact not32 s
  have hne : bits .xor .u32 IntKind.u32.max ((crcR s2 l).toNat : Int) = (E.toNat : Int) := by rw [hE]; exact not32 _
  rw [← hs2, ← hE]
  have HNE := Lib.hid hne
  clear h hs2 hE hne
  go_enter Tryz.func207, Tryz.ntmps207
  go_wp2_with fail
  clear hns
  go_loop [5, 6] (fun r i => ∃ k : Nat, k ≤ l.length ∧ i = .int .i64 k ∧ r = .int .u32 (crcR s2 (l.take k)).toNat) (fun _ i => l.length - (RowKit.intOf i).toNat)
  case atStart => exact ⟨0, by omega, rfl, rfl⟩
  case round =>
    obtain ⟨k, hk, rfl, rfl⟩ := hrel
    by_cases hlt : k < l.length
    · obtain ⟨b, o, c, he, hcap, hb, hcell⟩ := HRT.out.at (by omega)
      cases he
      have hc0 : w.cell? ⟨b, o + k, none⟩ = some (.int .u8 l[k].toNat) := by simpa using hcell k (.int .u8 l[k].toNat) (by simp [byts, u8v, hlt])
      clear hcell
      have HF := Lib.hid (take_getU hlt s2)
      generalize l[k] = x at *
      generalize crcR s2 (l.take k) = R at *
      go_wp2_with (go_at_call 235; refine (rfeed_any R x _).mono ?_; rintro e w' ⟨rfl, rfl⟩)
      go_round
      case rel => exact ⟨k + 1, by omega, by go_num, by rw [HF.out]⟩
      case measure => simp [RowKit.intOf]; omega
    · obtain rfl : k = l.length := by omega
      rw [List.take_length]
      have hn2 := HNE.out
      generalize crcR s2 l = R at *
      go_wp2
      go_ret
      exact ⟨rfl, rfl⟩
theorem rsum_any (ba : Option Addr) (bc : Nat) (l : List UInt8) (w : World) (h : Reads w (.slice ba l.length bc) l.length 1 (byts l)) (hl : l.length ≤ 1000000000) :
    Calls Tryz.prog 172 #[.slice ba l.length bc] w fun e w' => e = .returned (.int .u32 (crcB l).toNat) ∧ w' = w := by
  have HM : Hid (Calls Tryz.prog 207 #[.int .u32 0, .slice ba l.length bc] w fun e w' => e = .returned (.int .u32 (crcB l).toNat) ∧ w' = w) := rmore_any 0#32 ba bc l w h hl
  generalize crcB l = X at *
  clear h
  go_enter Tryz.func172, Tryz.ntmps172
  go_wp2_with fail
  refine HM.out.mono ?_
  rintro e w1 ⟨rfl, rfl⟩
  go_wp2
  go_ret
  exact ⟨rfl, rfl⟩
theorem mask32 (x : Int) (h0 : 0 ≤ x) (h1 : x < 4294967296) : bits .and .u32 x 255 = x % 256 := by
  obtain ⟨a, rfl⟩ := Int.eq_ofNat_of_zero_le h0
  have h2 := u32_and_nat a 255 (by omega) (by decide)
  rw [show ((255 : Nat) : Int) = 255 from rfl] at h2
  rw [h2, show (255 : Nat) = 2 ^ 8 - 1 from rfl, Nat.and_two_pow_sub_one_eq_mod]
  rfl
set_option maxRecDepth 100000 in
set_option maxHeartbeats 1000000 in
theorem rlittle_any (X : W32) (w : World) :
    Calls Tryz.prog 137 #[.int .u32 X.toNat] w fun e w' => e = .returned (.slice (some ⟨w.heap.size, 0, none⟩) 4 4) ∧ Row w' 5 1 (.slice (some ⟨w.heap.size, 0, none⟩) 4 4) 4 (byts (le4 X)) (fun k => w.heap.size ≤ k) ∧ Below w.heap.size w w' := by
  have HLB := Lib.hid (le4_byts' X)
  have hX := w32_bd X
  have a1 := mask32 (X.toNat : Int) hX.1 hX.2
  have a2 := mask32 ((X.toNat : Int) / 256) (by omega) (by omega)
  have a3 := mask32 ((X.toNat : Int) / 65536) (by omega) (by omega)
  go_enter Tryz.func137, Tryz.ntmps137
  go_wp2
  go_ret
  refine ⟨rfl, ?_, (Below.refl _ _).alloc (Nat.le_refl _) _⟩
  rw [HLB.out]
  exact ⟨rfl, .inr ⟨w.heap.size, 0, 4, _, rfl, Nat.le_refl _, heap_alloc_new w _, Nat.le_refl _, by unfold maxLen; omega, Nat.le_refl _, rfl⟩⟩
end Go.Proofs.YtgdmdbdljmlkkaaGreatDoor
namespace Go.Proofs.YtgdmdbdljmlkkaaGreatDoor
set_option linter.unusedVariables false
set_option linter.unusedSimpArgs false
open Go.RowKit
set_option maxRecDepth 100000 in
set_option maxHeartbeats 2000000 in
theorem rseal_any (ba : Option Addr) (bc : Nat) (l : List UInt8) (w : World) (h : Reads w (.slice ba l.length bc) l.length 1 (byts l)) (hl : l.length ≤ 100000000) :
    Calls Tryz.prog 136 #[.slice ba l.length bc] w fun e w' => ∃ a c, e = .returned (.slice a (l.length + 4) c) ∧ Row w' 5 1 (.slice a (l.length + 4) c) (l.length + 4) (byts (sealB l)) (fun k => w.heap.size ≤ k) ∧ Below w.heap.size w w' := by
  have HR := Lib.hid h
  have HSB : Hid (byts (sealB l) = byts l ++ byts (le4 (crcB l))) := by rw [Hid, ← byts_append]; rfl
  have HBE : Hid (Below w.heap.size w (w.alloc (.cells #[] 5))) := (Below.refl _ _).alloc (Nat.le_refl _) _
  have HOW : Hid ((w.alloc (.cells #[] 5)).ownsRow w.heap.size 5 1 (.slice (some ⟨w.heap.size, 0, none⟩) 0 0) 0 []) := owns_empty w w.heap.size 5 1 (Nat.le_refl _) rfl
  have HRE := Lib.hid (HR.out.later HBE.out)
  have HSU := Lib.hid (fun w' (hb : Below w.heap.size w w') => rsum_any ba bc l w' (h.later hb) (by omega))
  generalize crcB l = X at *
  clear h
  obtain ⟨rl, hrl⟩ : ∃ rl, rl = l.length := ⟨_, rfl⟩
  have HRL := Lib.hid hrl
  rw [← hrl] at hl HR HRE HSU ⊢
  clear hrl
  go_enter Tryz.func136, Tryz.ntmps136
  go_upto_region 1 with fail
  go_wp2_with (
    refine wpList_app elemU8 rfl rfl (base := w.heap.size) (v := .slice (some ⟨w.heap.size, 0, none⟩) 0 0) (n := 0) (xs := []) rfl HOW.out (y := .slice ba rl bc) (m := rl) (news := byts l) rfl HRE.out (byts_one _) (by unfold maxLen; omega) (by omega) (by simp) ?_
    intro v1 w1 hr1 hg1 hn1)
  rw [Nat.zero_add] at hr1
  rw [List.nil_append] at hr1
  obtain ⟨a1, c1, rfl⟩ : ∃ a c, v1 = .slice a rl c := by obtain ⟨-, ao, c, h, -⟩ := reads_of_owns hr1; exact ⟨ao, c, h⟩
  have HR1 := Lib.hid (Row.ofOwns hr1)
  have HB1 : Hid (Below w.heap.size w w1) := HBE.out.grown hg1 (by simp) (fun k e => by simp only [Value.ownBlock, Option.some.injEq] at e; omega)
  have HS1 := Lib.hid (HSU.out w1 HB1.out)
  clear hr1 hg1 hn1 HOW HRE HBE
  go_wp2_with fail
  refine HS1.out.mono ?_
  rintro e w2 ⟨rfl, rfl⟩
  clear HS1
  go_wp2_with fail
  refine (rlittle_any X w2).mono ?_
  rintro e w3 ⟨rfl, hr3, hb3⟩
  have HB3 := Lib.hid (HB1.out.trans (hb3.mono HB1.out.size))
  have HR3 := Lib.hid (HR1.out.frame (fun k _ hk => hb3.block k hk))
  have HN3 := Lib.hid hr3.reads
  have HS3 := Lib.hid HB1.out.size
  clear hr3 hb3 HR1 HB1
  go_wp2_with (
    refine wpList_row elemU8 rfl rfl (S := fun k => w.heap.size ≤ k) (n := rl) (xs := byts l) rfl HR3.out (y := .slice (some ⟨w2.heap.size, 0, none⟩) 4 4) (m := 4) (news := byts (le4 X)) rfl HN3.out (byts_one _) (by unfold maxLen; omega) (by omega) ?_
    intro v4 w4 hr4 hc4)
  obtain ⟨a4, c4, rfl⟩ : ∃ a c, v4 = .slice a (rl + 4) c := by obtain ⟨-, ao, c, h, -⟩ := hr4.reads; exact ⟨ao, c, h⟩
  have HB4 : Hid (Below w.heap.size w w4) := HB3.out.trans (hc4.toBelow HB3.out.size (fun k hk e => by have e2 : w.heap.size ≤ k := e; omega))
  have HR4 : Hid (Row w4 5 1 (.slice a4 (rl + 4) c4) (rl + 4) (byts (sealB l)) (fun k => w.heap.size ≤ k)) := by
    rw [Hid, HSB.out]
    have := HB3.out.size
    exact hr4.mono (fun k hk => by omega)
  clear hr4 hc4 HN3 HR3
  go_wp2
  go_ret
  exact ⟨a4, c4, rfl, HR4.out, HB4.out⟩
set_option maxRecDepth 100000 in
set_option maxHeartbeats 2000000 in
theorem rmake_any (ba : Option Addr) (bc : Nat) (r : List UInt8) (w : World) (h : Reads w (.slice ba r.length bc) r.length 1 (byts r)) (hl : r.length ≤ 10000000) :
    Calls Tryz.prog 94 #[.slice ba r.length bc] w (BytesP w (if 1048576 < r.length then none else some (frameB r))) := by
  have HR := Lib.hid h
  obtain ⟨Q, hQ⟩ : ∃ Q, Q = BytesP w (if 1048576 < r.length then none else some (frameB r)) := ⟨_, rfl⟩
  have HQD := Lib.hid hQ
  rw [← hQ]
  clear hQ h
  by_cases hbig : 1048576 < r.length
  · have HQ : Hid (Q (.returned (.tuple #[.slice none 0 0, .bool false])) w) := by rw [HQD.out, Hid, if_pos hbig]; exact ⟨rfl, Below.refl _ _⟩
    go_enter Tryz.func94, Tryz.ntmps94
    go_wp2
    exact HQ.out
  · have HQI : (if 1048576 < r.length then none else some (frameB r)) = some (frameB r) := if_neg hbig
    rw [HQI] at HQD
    clear HQI
    have HL8 := Lib.hid (frameB_length r)
    obtain ⟨n, hn⟩ : ∃ n, n = r.length := ⟨_, rfl⟩
    have HN := Lib.hid hn
    rw [← hn] at hbig hl HR ⊢
    have hX : (BitVec.ofNat 32 n).toNat = n := by rw [BitVec.toNat_ofNat]; exact Nat.mod_eq_of_lt (by omega)
    have HLI := Lib.hid (fun w' => rlittle_any (BitVec.ofNat 32 n) w')
    rw [hX] at HLI
    have HFR : Hid (frameB r = sealB (le4 (BitVec.ofNat 32 n) ++ r)) := by rw [hn]; rfl
    have HX4 : Hid ((le4 (BitVec.ofNat 32 n) ++ r).length = 4 + n) := by rw [Hid, List.length_append, le4_length, hn]
    have HXB : Hid (byts (le4 (BitVec.ofNat 32 n)) ++ byts r = byts (le4 (BitVec.ofNat 32 n) ++ r)) := (byts_append _ _).symm
    generalize BitVec.ofNat 32 n = X at *
    clear hn hX
    go_enter Tryz.func94, Tryz.ntmps94
    go_wp2_with fail
    refine (HLI.out w).mono ?_
    rintro e w1 ⟨rfl, hr1, hb1⟩
    have HB1 := Lib.hid hb1
    have HR1 := Lib.hid hr1
    have HRR := Lib.hid (HR.out.later hb1)
    clear hr1 hb1 HLI
    go_wp2_with (
      refine wpList_row elemU8 rfl rfl (S := fun k => w.heap.size ≤ k) (n := 4) (xs := byts (le4 X)) rfl HR1.out (y := .slice ba n bc) (m := n) (news := byts r) rfl HRR.out (byts_one _) (by unfold maxLen; omega) (by omega) ?_
      intro v2 w2 hr2 hc2)
    obtain ⟨a2, c2, rfl⟩ : ∃ a c, v2 = .slice a (4 + n) c := by obtain ⟨-, ao, c, h, -⟩ := hr2.reads; exact ⟨ao, c, h⟩
    have HB2 : Hid (Below w.heap.size w w2) := HB1.out.trans (hc2.toBelow HB1.out.size (fun k hk e => by have e2 : w.heap.size ≤ k := e; omega))
    have HS : Hid (Calls Tryz.prog 136 #[.slice a2 (4 + n) c2] w2 fun e w' => ∃ a c, e = .returned (.slice a (n + 8) c) ∧ Row w' 5 1 (.slice a (n + 8) c) (n + 8) (byts (frameB r)) (fun k => w2.heap.size ≤ k) ∧ Below w2.heap.size w2 w') := by
      have h1 := hr2.reads
      rw [HXB.out, ← HX4.out] at h1
      have := rseal_any a2 c2 (le4 X ++ r) w2 h1 (by rw [HX4.out]; omega)
      rw [HX4.out, ← HFR.out, show 4 + n + 4 = n + 8 by omega] at this
      exact this
    clear hr2 hc2 HR1 HRR
    go_wp2_with fail
    refine HS.out.mono ?_
    rintro e w4 ⟨a4, c4, rfl, hr4, hb4⟩
    have HQ : Hid (Q (.returned (.tuple #[.slice a4 (n + 8) c4, .bool true])) w4) := by
      rw [HQD.out]
      have hs := HB2.out.size
      refine ⟨⟨a4, c4, by rw [HL8.out, HN.out], ?_⟩, HB2.out.trans (hb4.mono hs)⟩
      rw [HL8.out, ← HN.out]
      exact hr4.mono (fun k hk => by omega)
    clear hr4 hb4
    go_wp2
    exact HQ.out
end Go.Proofs.YtgdmdbdljmlkkaaGreatDoor
