/- slices.Equal of bytes; the reader of forms where it reads what was written.
The reader's peek where a number that was written stands ahead.
The reader's cut, Uint, Take where what was written stands ahead.
The reader's Int, Take, Bytes, Text where what was written stands ahead.
The reader's cut and Take of nothing; its Bytes and Text; num.Of.
num.Of at the bits of a number in its canonical form.
value.read at the form of a payload that is no number with a fraction and no list. Printed by a program.
value.read at the form of a number with a fraction. Printed by a program.
value.read at the form of a list.
value.read at the form of every payload; value.Read. -/
import Derived.Test.YtpijpeocdlnhiaaGreatDoorBytesC
import Derived.BigQuiet
import Derived.Test.YtpijpeocdlnhiaaGreatDoorTRefU
import Derived.Test.YtpijpeocdlnhiaaGreatDoorFBits
import Derived.Test.YtpijpeocdlnhiaaGreatDoorTTop
namespace Go.Proofs.YtpijpeocdlnhiaaGreatDoor
set_option linter.unusedVariables false
set_option linter.unusedSimpArgs false
open Go.RowKit

theorem u8_ne (x y : UInt8) : (decide ((x.toNat : Int) ≠ (y.toNat : Int))) = decide (x ≠ y) := by
  congr 1
  rw [ne_eq, ne_eq, Int.natCast_inj, UInt8.toNat_inj]

set_option maxRecDepth 100000 in
set_option maxHeartbeats 1000000 in
theorem bequal_any (a1 a2 : Option Addr) (c1 c2 : Nat) (l1 l2 : List UInt8) (w : World) (h1 : Reads w (.slice a1 l1.length c1) l1.length 1 (byts l1)) (h2 : Reads w (.slice a2 l2.length c2) l2.length 1 (byts l2)) (hl : l1.length ≤ 1000000) (hl2 : l2.length ≤ 1000000) :
    Calls Tryz.prog 20 #[.slice a1 l1.length c1, .slice a2 l2.length c2] w fun e w' => e = .returned (.bool (decide (l1 = l2))) ∧ Below w.heap.size w w' := by
  by_cases hlen : l1.length = l2.length
  · have HC : Hid (∀ (j : Nat) (hj : j < l1.length), ∃ b o b' o', a1 = some ⟨b, o, none⟩ ∧ a2 = some ⟨b', o', none⟩ ∧ l1.length ≤ c1 ∧ l2.length ≤ c2 ∧ b < w.heap.size ∧ b' < w.heap.size ∧ w.cell? ⟨b, o + j, none⟩ = some (.int .u8 l1[j].toNat) ∧ w.cell? ⟨b', o' + j, none⟩ = some (.int .u8 (l2[j]'(by omega)).toNat)) := by
      intro j hj
      obtain ⟨b, o, c', hv, hle, hb, hc⟩ := h1.at (by omega)
      cases hv
      obtain ⟨b', o', c'', hv, hle', hb', hc'⟩ := h2.at (by omega)
      cases hv
      refine ⟨b, o, b', o', rfl, rfl, hle, hle', hb, hb', hc j _ ?_, hc' j _ ?_⟩
      · rw [byts, List.getElem?_map, List.getElem?_eq_getElem hj]; rfl
      · rw [byts, List.getElem?_map, List.getElem?_eq_getElem (show j < l2.length by omega)]; rfl
    have heq : ((l1.length : Int) != (l2.length : Int)) = false := by simp; omega
    clear h1 h2
    go_enter Tryz.func20, Tryz.ntmps20
    go_wp2_with fail
    go_loopw [13] (fun i w' => ∃ m : Nat, m ≤ l1.length ∧ i = .int .i64 m ∧ Hid (Below w.heap.size w w') ∧ Hid (∀ j (h1 : j < l1.length) (h2 : j < l2.length), j < m → l1[j] = l2[j])) (fun i _ => l1.length - (RowKit.intOf i).toNat)
    case atStart => exact ⟨0, by omega, rfl, Below.refl _ _, fun j _ _ h => by omega⟩
    case round =>
      obtain ⟨m, hm, rfl, HB, HLOW⟩ := hrel
      by_cases hlt : m < l1.length
      · obtain ⟨b, o, b', o', rfl, rfl, hle, hle', hb, hb', k1, k2⟩ := HC.out m hlt
        have hc1 := (HB.out.cell (p := ⟨b, o + m, none⟩) hb).trans k1
        have hc2 := (HB.out.cell (p := ⟨b', o' + m, none⟩) hb').trans k2
        clear k1 k2
        have hl2' : m < l2.length := by omega
        by_cases hq : l1[m] = l2[m]
        · have hb1 : (((l1[m].toNat : Nat) : Int) != ((l2[m].toNat : Nat) : Int)) = false := by rw [hq]; simp
          go_wp2_with fail
          go_quiet (fail)
          have HBN := Lib.hid (show Below w.heap.size w (wr.drewN nq) from ⟨HB.out.os, HB.out.tape, HB.out.output, HB.out.size, HB.out.block⟩)
          clear hc1 hc2 hb1 hb hb'
          go_wp2
          go_roundw
          case rel =>
            refine ⟨m + 1, by omega, by go_num, HBN, fun j h1 h2 h3 => ?_⟩
            rcases Nat.lt_or_ge j m with h4 | h4
            · exact HLOW.out j h1 h2 h4
            · have : j = m := by omega
              subst this; exact hq
          case measure => simp [RowKit.intOf]; omega
        · have hb1 : (((l1[m].toNat : Nat) : Int) != ((l2[m].toNat : Nat) : Int)) = true := by
            simp only [bne_iff_ne, ne_eq, Int.natCast_inj, UInt8.toNat_inj]; exact hq
          have HE : Hid (decide (l1 = l2) = false) := decide_eq_false (fun e => hq (by subst e; rfl))
          go_wp2_with fail
          go_quiet (fail)
          have HBN := Lib.hid (show Below w.heap.size w (wr.drewN nq) from ⟨HB.out.os, HB.out.tape, HB.out.output, HB.out.size, HB.out.block⟩)
          clear hc1 hc2 hb1 hb hb'
          go_wp2
          go_ret
          exact ⟨congrArg (fun b => Ending.returned (.bool b)) HE.out.symm, HBN.out⟩
      · obtain rfl : m = l1.length := by omega
        have HE : Hid (decide (l1 = l2) = true) := decide_eq_true (List.ext_getElem hlen (fun j h1 h2 => HLOW.out j h1 h2 h1))
        go_wp2
        go_ret
        exact ⟨congrArg (fun b => Ending.returned (.bool b)) HE.out.symm, HB.out⟩
  · have HN : Hid (decide (l1 = l2) = false) := decide_eq_false (fun e => hlen (by rw [e]))
    have hne : ((l1.length : Int) != (l2.length : Int)) = true := by simp; omega
    clear h1 h2
    rw [HN.out]
    go_enter Tryz.func20, Tryz.ntmps20
    go_wp2
    go_ret
    exact ⟨rfl, Below.refl _ _⟩
set_option maxRecDepth 100000 in
set_option maxHeartbeats 1000000 in
theorem bclone_any (ao : Option Addr) (n c : Nat) (xs : List Value) (w : World) (h : Reads w (.slice ao n c) n 1 xs) (h1 : ∀ u ∈ xs, u.oneCell' = true) (hn : n ≤ 2000000000) :
    Calls Tryz.prog 49 #[.slice ao n c] w fun e w' => ∃ v', e = .returned v' ∧ Row w' 5 1 v' n xs (fun b => w.heap.size ≤ b) ∧ Below w.heap.size w w' := by
  cases ao with
  | none =>
    obtain ⟨hl, _, _, he, _, hnn, _⟩ := h
    cases he
    obtain ⟨rfl, rfl⟩ := hnn rfl
    obtain rfl : xs = [] := List.eq_nil_of_length_eq_zero (by simpa using hl)
    have he : (binOp .eql 33 (.slice none 0 0) (.slice none 0 0)).run Tryz.prog w = .ok (.bool true) w := by kernel_rfl
    go_enter Tryz.func49, Tryz.ntmps49
    go_wp2
    go_ret
    exact ⟨_, rfl, Row.nil _ _ _ _, Below.refl _ _⟩
  | some ad =>
    have he : ∀ W, (binOp .eql 33 (.slice (some ad) n c) (.slice none 0 0)).run Tryz.prog W = .ok (.bool false) W := fun W => Lib.run_eql_slice_nil W _ _ (some ad) n c 0 0 Tryz.underlying33
    have H := Lib.hid h
    have H1 := Lib.hid h1
    clear h h1
    go_enter Tryz.func49, Tryz.ntmps49
    go_wp2_with (refine wpList_row elemU8 rfl rfl (S := fun b => w.heap.size ≤ b) (v := .slice (some ⟨w.heap.size, 0, none⟩) 0 0) (n := 0) (xs := []) rfl (Row.ofOwns (owns_empty _ _ _ _ (Nat.le_refl _) rfl)) (y := .slice (some ad) n c) (m := n) (news := xs) rfl (H.out.later ((Below.refl _ _).alloc (Nat.le_refl _) _)) H1.out (by unfold maxLen; omega) (by omega) ?_; intro v' w' hr hc)
    go_ret
    refine ⟨_, rfl, ?_, ?_⟩
    · rw [Nat.zero_add, List.nil_append] at hr
      exact hr.mono (fun b hb => by rcases hb with hb | hb; exact hb; simp only [World.size_alloc] at hb; omega)
    · exact ((Below.refl _ _).alloc (Nat.le_refl _) _).trans (hc.toBelow (by simp) (fun n hn h => by omega))

/-- A reader that lies in block R and has these bytes left; no read has failed. -/
def Rdr (w : World) (R : Nat) (rem : List UInt8) : Prop :=
  ∃ (a : Option Addr) (c : Nat), w.heap[R]? = some (.cells #[.slice a rem.length c, .bool false] 76 (0, 0)) ∧ Row w 5 1 (.slice a rem.length c) rem.length (byts rem) (fun k => k < R)
theorem Rdr.later {w w' : World} {R : Nat} {rem : List UInt8} (h : Rdr w R rem) (hb : Below w.heap.size w w') : Rdr w' R rem := by
  obtain ⟨a, c, h1, h2⟩ := h
  exact ⟨a, c, (hb.block _ (lt_of_heap h1)).trans h1, h2.frame (fun k _ hk => hb.block k hk)⟩
set_option maxRecDepth 100000 in
set_option maxHeartbeats 1000000 in
theorem bnew_any (sa : Option Addr) (sc : Nat) (l : List UInt8) (w : World) (h : Reads w (.slice sa l.length sc) l.length 1 (byts l)) (hl : l.length ≤ 1000000) :
    Calls Tryz.prog 22 #[.slice sa l.length sc] w fun e w' => ∃ R, e = .returned (.pointer (some ⟨R, 0, none⟩)) ∧ w.heap.size ≤ R ∧ Rdr w' R l ∧ Below w.heap.size w w' := by
  have HC := Lib.hid (bclone_any sa l.length sc (byts l) w h (byts_one l) (by omega))
  clear h
  go_enter Tryz.func22, Tryz.ntmps22
  go_wp2_with fail
  refine HC.out.mono ?_
  rintro e w2 ⟨v2, rfl, hr, hb⟩
  obtain ⟨-, a, c, rfl, -⟩ := hr.reads
  have HR := Lib.hid hr
  have HB := Lib.hid hb
  clear hr hb
  go_wp2_with fail
  go_ret
  have hs := HB.out.size
  refine ⟨w2.heap.size, rfl, hs, ⟨a, c, heap_alloc_new w2 _, ?_⟩, HB.out.alloc hs _⟩
  exact ((Row.tight HR.out).frame (fun k hk hk2 => Below.heap_alloc _ _ _ hk2)).mono (fun k hk => hk.2)
set_option maxRecDepth 100000 in
set_option maxHeartbeats 1000000 in
theorem bok_any (R : Nat) (rem : List UInt8) (w : World) (h : Rdr w R rem) : Calls Tryz.prog 51 #[.pointer (some ⟨R, 0, none⟩)] w fun e w' => e = .returned (.bool true) ∧ w = w' := by
  obtain ⟨a, c, h1, h2⟩ := h
  have hc1 := cellAt h1 1 (v := .bool false) rfl
  clear h1 h2
  go_enter Tryz.func51, Tryz.ntmps51
  go_wp2
  go_ret
  exact ⟨rfl, rfl⟩
set_option maxRecDepth 100000 in
set_option maxHeartbeats 1000000 in
theorem bleft_any (R : Nat) (rem : List UInt8) (w : World) (h : Rdr w R rem) : Calls Tryz.prog 52 #[.pointer (some ⟨R, 0, none⟩)] w fun e w' => e = .returned (.int .i64 rem.length) ∧ w = w' := by
  obtain ⟨a, c, h1, h2⟩ := h
  have hc1 := cellAt h1 0 (v := .slice a rem.length c) rfl
  clear h1 h2
  go_enter Tryz.func52, Tryz.ntmps52
  go_wp2
  go_ret
  exact ⟨rfl, rfl⟩
set_option maxRecDepth 100000 in
set_option maxHeartbeats 1000000 in
theorem bdone_any (R : Nat) (w : World) (h : Rdr w R []) : Calls Tryz.prog 24 #[.pointer (some ⟨R, 0, none⟩)] w fun e w' => e = .returned (.bool true) ∧ w = w' := by
  have HO := Lib.hid (bok_any R [] w h)
  have HL := Lib.hid (bleft_any R [] w h)
  simp only [List.length_nil] at HL
  clear h
  go_enter Tryz.func24, Tryz.ntmps24
  go_wp2_with fail
  refine HO.out.mono ?_
  rintro e w2 ⟨rfl, rfl⟩
  go_wp2_with fail
  refine HL.out.mono ?_
  rintro e w3 ⟨rfl, rfl⟩
  go_wp2
  go_ret
  exact ⟨rfl, rfl⟩
end Go.Proofs.YtpijpeocdlnhiaaGreatDoor
namespace Go.Proofs.YtpijpeocdlnhiaaGreatDoor
set_option linter.unusedVariables false
set_option linter.unusedSimpArgs false
open Go.RowKit

theorem low7_all : ∀ n : Fin 256, bits BinOp.and IntKind.u8 ((n.val : Nat) : Int) 127 = ((n.val % 128 : Nat) : Int) := by decide +kernel
theorem low7 (c : UInt8) : bits BinOp.and IntKind.u8 (c.toNat : Int) 127 = ((c.toNat % 128 : Nat) : Int) := low7_all ⟨c.toNat, c.toNat_lt⟩
theorem head_uint (Y : Nat) : ∃ d r, uintL Y = d :: r ∧ d.toNat % 128 = Y % 128 ∧ (Y < 128 → d.toNat < 128 ∧ r = []) ∧ (¬ Y < 128 → 128 ≤ d.toNat ∧ r = uintL (Y / 128)) := by
  by_cases h : Y < 128
  · refine ⟨UInt8.ofNat Y, [], uintL_small h, ?_, fun _ => ⟨?_, rfl⟩, fun h2 => absurd h h2⟩
    · rw [UInt8.toNat_ofNat']; omega
    · rw [UInt8.toNat_ofNat']; omega
  · refine ⟨UInt8.ofNat (Y % 128 + 128), uintL (Y / 128), uintL_big h, ?_, fun h2 => absurd h2 h, fun _ => ⟨?_, rfl⟩⟩
    · rw [UInt8.toNat_ofNat']; omega
    · rw [UInt8.toNat_ofNat']; omega
theorem or_step (X m : Nat) (hX : X < 18446744073709551616) : bits BinOp.or IntKind.u64 ((X : Int) % 128 ^ m) (IntKind.u64.wrap ((X : Int) / 128 ^ m % 128 * 2 ^ (7 * m))) = ((X % 128 ^ (m + 1) : Nat) : Int) := by
  have e : (128 : Nat) ^ m = 2 ^ (7 * m) := by rw [Nat.pow_mul]
  have hs : X % 128 ^ (m + 1) = X % 128 ^ m + 128 ^ m * (X / 128 ^ m % 128) := by rw [Nat.pow_succ, Nat.mod_mul]
  have hle : X % 128 ^ (m + 1) ≤ X := Nat.mod_le _ _
  have hlt : X % 128 ^ m < 2 ^ (7 * m) := by rw [← e]; exact Nat.mod_lt _ (Nat.pow_pos (by decide))
  obtain ⟨A, hA⟩ : ∃ A, A = X % 128 ^ m := ⟨_, rfl⟩
  obtain ⟨q, hq⟩ : ∃ q, q = X / 128 ^ m % 128 := ⟨_, rfl⟩
  have h1 : ((X : Int) % 128 ^ m) = (A : Int) := by rw [hA]; simp
  have h2 : ((X : Int) / 128 ^ m % 128 * 2 ^ (7 * m)) = ((2 ^ (7 * m) * q : Nat) : Int) := by rw [hq]; simp; exact Int.mul_comm _ _
  rw [← hA, ← hq, e] at hs
  rw [← hA] at hlt
  have hsum : A + 2 ^ (7 * m) * q < 18446744073709551616 := by omega
  have hw : IntKind.u64.wrap ((2 ^ (7 * m) * q : Nat) : Int) = ((2 ^ (7 * m) * q : Nat) : Int) := by rw [IntKind.wrap_u64]; omega
  rw [h1, h2, hw, (bits_nat .u64 64 (by decide) (fun n h0 h1 => by rw [IntKind.wrap_u64]; omega) A (2 ^ (7 * m) * q) (by omega) (by omega)).2, hs, Nat.or_comm, ← Nat.two_pow_add_eq_or_of_lt hlt q, Nat.add_comm]
set_option maxRecDepth 100000 in
set_option maxHeartbeats 4000000 in
theorem bpeek_any (R X : Nat) (hX : X < 18446744073709551616) (rest : List UInt8) (hr : rest.length ≤ 1000000) (w : World) (h : Rdr w R (uintL X ++ rest)) :
    Calls Tryz.prog 112 #[.pointer (some ⟨R, 0, none⟩)] w fun e w' => e = .returned (.tuple #[.int .u64 X, .int .i64 (uintL X).length, .bool true]) ∧ Below w.heap.size w w' := by
  have HU := Lib.hid (uint_any X hX)
  have hU10 := uintL_ten hX
  have hU1 := uintL_pos X
  obtain ⟨a, c, h1, h2⟩ := h
  have hl : (uintL X ++ rest).length = (uintL X).length + rest.length := List.length_append
  have hc0 := cellAt h1 0 (v := .slice a (uintL X ++ rest).length c) rfl
  have hc1 := cellAt h1 1 (v := .bool false) rfl
  have hrd := h2.reads
  have hpos : 0 < (uintL X ++ rest).length := by omega
  obtain ⟨g, o, c', hv, hle, hblt, hcell⟩ := hrd.at (by omega)
  obtain ⟨rfl, rfl⟩ : a = some ⟨g, o, none⟩ ∧ c = c' := by cases hv; exact ⟨rfl, rfl⟩
  clear hv
  obtain ⟨N, hN⟩ : ∃ N, N = (uintL X ++ rest).length := ⟨_, rfl⟩
  rw [← hN] at hc0 hle hpos hl
  have hNl : N ≤ 1000010 := by omega
  obtain ⟨M, hM⟩ : ∃ M, M = min N 10 := ⟨_, rfl⟩
  have hM1 : min (N : Int) 10 = (M : Int) := by omega
  have hMc : M ≤ c := by omega
  have hMci : (M : Int) ≤ (c : Int) := by omega
  have HLM : Hid ((uintL X).length ≤ M ∧ M ≤ N) := by constructor <;> omega
  have HLN := Lib.hid hl
  have HCL : Hid (∀ (j : Nat) (d : UInt8), (uintL X ++ rest)[j]? = some d → w.cell? ⟨g, o + j, none⟩ = some (.int .u8 d.toNat)) := fun j d hd => hcell j _ (by rw [byts, List.getElem?_map, hd]; rfl)
  rw [← hN] at h1
  have HRR := Lib.hid h1
  clear hl hM hrd hcell h1 h2 hN hpos
  go_enter Tryz.func112, Tryz.ntmps112
  go_upto_region 3 with fail
  go_quiet (fail)
  have HBq : Hid (Below w.heap.size w (w.drewN nq)) := ⟨rfl, rfl, rfl, Nat.le_refl _, fun _ _ => rfl⟩
  obtain ⟨wq, hwq⟩ : ∃ wq, wq = w.drewN nq := ⟨_, rfl⟩
  rw [← hwq] at HBq ⊢
  have HCQ : Hid (∀ (j : Nat) (d : UInt8), (uintL X ++ rest)[j]? = some d → wq.cell? ⟨g, o + j, none⟩ = some (.int .u8 d.toNat)) := fun j d hd => by rw [hwq]; exact HCL.out j d hd
  have HRQ := Lib.hid ((HBq.out.block _ (lt_of_heap HRR.out)).trans HRR.out)
  clear hwq HCL HRR hc0 hc1
  go_wp2_with fail
  go_loopw [2, 3, 30] (fun s2 s3 i w' => ∃ (m : Nat) (pre : List UInt8), i = .int .i64 m ∧ s3 = .int .i64 0 ∧ s2 = .int .u64 ((X % 128 ^ m : Nat) : Int) ∧ Hid (uintL X = pre ++ uintL (X / 128 ^ m)) ∧ pre.length = m ∧ w' = wq) (fun _ _ i _ => M - (RowKit.intOf i).toNat)
  case atStart => exact ⟨0, [], rfl, rfl, by rw [Nat.pow_zero, Nat.mod_one]; rfl, by rw [Hid, Nat.pow_zero, Nat.div_one]; rfl, rfl, rfl⟩
  case round =>
    obtain ⟨m, pre, rfl, rfl, rfl, HP, hpl, hww⟩ := hrel
    subst hww
    obtain ⟨d, r, hd, hd7, hsm, hbg⟩ := head_uint (X / 128 ^ m)
    have hlen : m < (uintL X).length := by rw [HP.out, hd, List.length_append, List.length_cons]; omega
    have hmM : m < M := by have := HLM.out.1; omega
    have hmMi : (m : Int) < (M : Int) := by omega
    have hcd : wr.cell? ⟨g, o + m, none⟩ = some (.int .u8 d.toNat) := by
      refine HCQ.out m d ?_
      rw [List.getElem?_append_left hlen, HP.out, hd, List.getElem?_append_right (by omega), hpl, Nat.sub_self]
      rfl
    have hlow := low7 d
    rw [hd7] at hlow
    have HOR := Lib.hid (or_step X m hX)
    by_cases hY : X / 128 ^ m < 128
    · obtain ⟨hdl, rfl⟩ := hsm hY
      have hdi : ((d.toNat : Int) < 128) := by omega
      have hmod : X % 128 ^ (m + 1) = X := by
        refine Nat.mod_eq_of_lt ?_
        rw [Nat.pow_succ, Nat.mul_comm]
        exact (Nat.div_lt_iff_lt_mul (Nat.pow_pos (by decide))).1 hY
      have hL : (uintL X).length = m + 1 := by rw [HP.out, hd, List.length_append, hpl]; rfl
      rw [hmod] at HOR
      have HMO := Lib.hid hL
      have HXR : Hid (∀ W, Hid (Below wr.heap.size wr W) → Reads W (.slice (some ⟨g, o, none⟩) (m + 1) c) (m + 1) 1 (byts (uintL X))) := by
        intro W hW
        refine ⟨by rw [byts_length, hL, Nat.mul_one], some ⟨g, o, none⟩, c, rfl, by omega, (fun h => by cases h), fun ad had j u hu => ?_⟩
        cases had
        rw [byts, List.getElem?_map] at hu
        obtain ⟨x, hx, rfl⟩ := Option.map_eq_some_iff.1 hu
        have hj := (List.getElem?_eq_some_iff.1 hx).1
        have hcl := HCQ.out j x (by rw [List.getElem?_append_left hj]; exact hx)
        rw [Addr.add_lit]
        exact (hW.out.cell (p := ⟨g, o + j, none⟩) (World.block_lt_of_cell? wr _ hcl)).trans hcl
      have HEQ : Hid (∀ (W : World) (a1 : Option Addr) (c1 : Nat), Hid (Below wr.heap.size wr W) → Hid (Reads W (.slice a1 (uintL X).length c1) (uintL X).length 1 (byts (uintL X))) → Calls Tryz.prog 20 #[.slice a1 (uintL X).length c1, .slice (some ⟨g, o, none⟩) (m + 1) c] W fun e w' => e = .returned (.bool true) ∧ Below W.heap.size W w') := by
        intro W a1 c1 hW hr1
        have h2 := HXR.out W hW
        rw [← hL] at h2 ⊢
        have h := bequal_any a1 (some ⟨g, o, none⟩) c1 c (uintL X) (uintL X) W hr1.out h2 (by omega) (by omega)
        rw [decide_eq_true rfl] at h
        exact h
      have hn0 : (((m : Int) + 1) == 0) = false := by rw [beq_eq_false_iff_ne]; omega
      have hmc : ((m : Int) + 1) ≤ (c : Int) := by omega
      have hmz : (0 : Int) ≤ (m : Int) + 1 := by omega
      have hmn : m + 1 ≤ c := by omega
      clear hbg hsm hd hd7 hmod HP hL HXR
      go_upto_region 10 with fail
      rw [HOR.out]
      have HKS : Hid (∀ w', Hid (Below wr.heap.size wr w') → w'.cell? ⟨R, 0, none⟩ = some (.slice (some ⟨g, o, none⟩) N c)) := fun w' hb => cellAt ((hb.out.block _ (lt_of_heap HRQ.out)).trans HRQ.out) 0 rfl
      have HB0 : Hid (Below wr.heap.size wr wr.drew) := (Below.refl _ _).drew
      have HB00 : Hid (Below wr.heap.size wr wr) := Below.refl _ _
      go_region_held3 (fun w' => w'.cell? ⟨R, 0, none⟩ = some (.slice (some ⟨g, o, none⟩) N c)) (exact HKS.out _ (by assumption))
        (first
        | (go_at_call 72; refine (HU.out _).mono ?_; rintro e wu ⟨ua, uc, rfl, hur, hub⟩
           have HRu := Lib.hid hur.reads
           have HBu := bel_stepT (w0 := wr) (by assumption) hub
           clear hub hur)
        | (go_at_call 20; refine (HEQ.out _ _ _ (by assumption) (by assumption)).mono ?_; rintro e we ⟨rfl, hbe⟩
           have HBe := bel_stepT (w0 := wr) (by assumption) hbe
           clear hbe)
        | fail)
      all_goals
        go_wp2
        go_ret3
        rw [HMO.out]
        exact ⟨rfl, HBq.out.trans (HBe.out.mono HBq.out.size)⟩
    · obtain ⟨hdl, rfl⟩ := hbg hY
      have hdi : ¬ ((d.toNat : Int) < 128) := by omega
      have hdv : X / 128 ^ m / 128 = X / 128 ^ (m + 1) := by rw [Nat.div_div_eq_div_mul, Nat.pow_succ]
      rw [hdv] at hd
      have HP2 : Hid (uintL X = (pre ++ [d]) ++ uintL (X / 128 ^ (m + 1))) := by rw [Hid, HP.out, hd, List.append_assoc]; rfl
      clear hbg hsm hd hd7 hdv
      go_wp2_with fail
      go_roundw
      case rel => exact ⟨m + 1, pre ++ [d], by go_num, rfl, by rw [HOR.out], HP2.out, by simp [hpl], trivial⟩
      case measure => simp [RowKit.intOf]; omega
end Go.Proofs.YtpijpeocdlnhiaaGreatDoor
namespace Go.Proofs.YtpijpeocdlnhiaaGreatDoor
set_option linter.unusedVariables false
set_option linter.unusedSimpArgs false
open Go.RowKit

theorem row_cut {w : World} {e : TypeId} {g o N c i : Nat} {xs : List Value} {S : Nat → Prop} (h : Row w e 1 (.slice (some ⟨g, o, none⟩) N c) N xs S) (hi : i ≤ N) (ao : Option Addr) (h1 : c = i → ao = some ⟨g, o, none⟩) (h2 : ¬ c = i → ao = some ⟨g, o + i, none⟩) :
    Row w e 1 (.slice ao (N - i) (c - i)) (N - i) (xs.drop i) S := by
  obtain ⟨hl, hd⟩ := h
  rcases hd with ⟨hv, -⟩ | ⟨g', off, cap, cur, hv, hS, hg, hn, hm, hcs, ht⟩
  · cases hv
  · cases hv
    refine ⟨by rw [List.length_drop, hl]; omega, .inr ?_⟩
    by_cases hc : c = i
    · rw [h1 hc]
      refine ⟨g, o, c - i, cur, rfl, hS, hg, by omega, by omega, by omega, ?_⟩
      have hx : xs.drop i = [] := List.drop_eq_nil_of_le (by omega)
      rw [hx, show N - i = 0 by omega]; simp
    · rw [h2 hc]
      refine ⟨g, o + i, c - i, cur, rfl, hS, hg, by omega, by omega, by omega, ?_⟩
      rw [← ht, List.drop_take, List.drop_drop]
      congr 1
      omega
theorem row_head {w : World} {e : TypeId} {g o N c i : Nat} {xs : List Value} {S : Nat → Prop} (h : Row w e 1 (.slice (some ⟨g, o, none⟩) N c) N xs S) (hi : i ≤ N) : Reads w (.slice (some ⟨g, o, none⟩) i c) i 1 (xs.take i) := by
  have hr := h.reads
  obtain ⟨hl, ao, c', hv, hnc, hnone, hcells⟩ := hr
  cases hv
  refine ⟨by rw [List.length_take]; omega, some ⟨g, o, none⟩, c, rfl, by omega, (fun h => by cases h), fun ad had j u hu => ?_⟩
  cases had
  have hj := (List.getElem?_eq_some_iff.1 hu).1
  rw [List.length_take] at hj
  rw [List.getElem?_take_of_lt (by omega)] at hu
  exact hcells _ rfl j u hu
/-- What a cut leaves: the bytes that were cut off, and a reader with the rest. -/
def CutP (R : Nat) (pre rest : List UInt8) (w : World) (e : Ending) (w' : World) : Prop :=
  (∃ (a : Option Addr) (c : Nat), e = .returned (.slice a pre.length c) ∧ Reads w' (.slice a pre.length c) pre.length 1 (byts pre)) ∧ Rdr w' R rest ∧ Chg (fun k => k = R) w w'
theorem cut_done {w : World} {R g o c N n : Nat} {pre rest : List UInt8} {ao : Option Addr} (HR2 : Row w 5 1 (.slice (some ⟨g, o, none⟩) N c) N (byts pre ++ byts rest) (fun k => k < R))
    (HX : w.heap[R]? = some (.cells #[.slice (some ⟨g, o, none⟩) N c, .bool false] 76 (0, 0))) (hN : N = pre.length + rest.length) (hn : n = pre.length) (h1 : c = n → ao = some ⟨g, o, none⟩) (h2 : ¬ c = n → ao = some ⟨g, o + n, none⟩) :
    CutP R pre rest w (.returned (.slice (some ⟨g, o, none⟩) n c)) (w.setCell ⟨R, 0, none⟩ (.slice ao (N - n) (c - n))) := by
  have hb : ∀ k, k ≠ R → (w.setCell ⟨R, 0, none⟩ (.slice ao (N - n) (c - n))).heap[k]? = w.heap[k]? := fun k hk => Below.heap_setCell _ _ _ _ hk
  have hh := row_head HR2 (i := n) (by omega)
  have hc := row_cut HR2 (i := n) (by omega) ao h1 h2
  have hx : (byts pre ++ byts rest).take n = byts pre := by rw [List.take_left' (by rw [byts_length, hn])]
  have hy : (byts pre ++ byts rest).drop n = byts rest := by rw [List.drop_left' (by rw [byts_length, hn])]
  have hr : N - n = rest.length := by omega
  rw [hx] at hh
  rw [hy, hr] at hc
  rw [hr] at hb ⊢
  have hs := heap_store HX 0 (.slice ao rest.length (c - n))
  have hrow : Row w 5 1 (.slice (some ⟨g, o, none⟩) n c) n (byts pre) (fun k => k < R) := by
    obtain ⟨hl, hd⟩ := HR2
    rcases hd with ⟨hv, -⟩ | ⟨g', off, cap, cur, hv, hS, hg, hnn, hm, hcs, ht⟩
    · cases hv
    · cases hv
      refine ⟨by rw [byts_length, hn, Nat.mul_one], .inr ⟨g, o, c, cur, rfl, hS, hg, by omega, hm, hcs, ?_⟩⟩
      rw [← hx, ← ht, List.take_take]
      congr 1
      omega
  subst hn
  exact ⟨⟨_, _, rfl, (hrow.frame (fun k hk _ => hb k (Nat.ne_of_lt hk))).reads⟩, ⟨ao, c - pre.length, hs, hc.frame (fun k hk _ => hb k (Nat.ne_of_lt hk))⟩, Chg.setCell (S := fun k => k = R) (p := ⟨R, 0, none⟩) (Chg.refl _ _) (.inl rfl) _⟩
set_option maxRecDepth 100000 in
set_option maxHeartbeats 4000000 in
theorem bcut_any (R : Nat) (pre rest : List UInt8) (hp : pre.length ≤ 1000000) (hr : rest.length ≤ 1000000) (hpp : 0 < pre.length) (w : World) (h : Rdr w R (pre ++ rest)) :
    Calls Tryz.prog 114 #[.pointer (some ⟨R, 0, none⟩), .int .i64 pre.length] w (CutP R pre rest w) := by
  obtain ⟨a, c, h1, h2⟩ := h
  have hl : (pre ++ rest).length = pre.length + rest.length := List.length_append
  rw [byts_append] at h2
  obtain ⟨N, hN⟩ : ∃ N, N = (pre ++ rest).length := ⟨_, rfl⟩
  rw [← hN] at h1 h2 hl
  obtain ⟨n, hn⟩ : ∃ n, n = pre.length := ⟨_, rfl⟩
  have hnN : n ≤ N := by omega
  have hrd := h2.reads
  obtain ⟨g, o, c', hv, hle, hblt, -⟩ := hrd.at (by omega)
  obtain ⟨rfl, rfl⟩ : a = some ⟨g, o, none⟩ ∧ c = c' := by cases hv; exact ⟨rfl, rfl⟩
  clear hv hrd
  have HR2 := Lib.hid h2
  have HX := Lib.hid h1
  have hc0 := cellAt h1 0 (v := .slice (some ⟨g, o, none⟩) N c) rfl
  have hc1 := cellAt h1 1 (v := .bool false) rfl
  have hf0 := freeAt h1 0
  have hnl : (n : Int) ≤ (N : Int) := by omega
  have hnc : (n : Int) ≤ (c : Int) := by omega
  have hng : ¬ (n : Int) > (N : Int) := by omega
  have HLN : Hid (N = pre.length + rest.length ∧ n = pre.length) := ⟨hl, hn⟩
  rw [← hn]
  clear h1 h2 hl hN hn
  go_enter Tryz.func114, Tryz.ntmps114
  go_wp2_with fail
  case inl =>
    rename_i hcn
    have hcn2 : c = n := by first | exact h | exact hcn
    have hd := cut_done (ao := some ⟨g, o, none⟩) HR2.out HX.out HLN.out.1 HLN.out.2 (fun _ => rfl) (fun h => absurd hcn2 h)
    rw [hcn2, Nat.sub_self] at hd
    go_ret
    exact hd
  case inr =>
    rename_i hcn
    have hcn2 : ¬ c = n := by first | exact h | exact hcn
    have hd := cut_done (ao := some ⟨g, o + n, none⟩) HR2.out HX.out HLN.out.1 HLN.out.2 (fun h => absurd h hcn2) (fun _ => rfl)
    go_ret
    exact hd
theorem Rdr.lt {w : World} {R : Nat} {rem : List UInt8} (h : Rdr w R rem) : R < w.heap.size := by
  obtain ⟨a, c, h1, -⟩ := h
  exact lt_of_heap h1
set_option maxRecDepth 100000 in
set_option maxHeartbeats 4000000 in
theorem bruint_any (R X : Nat) (hX : X < 18446744073709551616) (rest : List UInt8) (hr : rest.length ≤ 1000000) (w : World) (h : Rdr w R (uintL X ++ rest)) :
    Calls Tryz.prog 81 #[.pointer (some ⟨R, 0, none⟩)] w fun e w' => e = .returned (.int .u64 X) ∧ Rdr w' R rest ∧ Chg (fun k => k = R) w w' := by
  have HP := Lib.hid (bpeek_any R X hX rest hr w h)
  have hU10 := uintL_ten hX
  have hU1 := uintL_pos X
  have HC : Hid (∀ W, Rdr W R (uintL X ++ rest) → Calls Tryz.prog 114 #[.pointer (some ⟨R, 0, none⟩), .int .i64 (uintL X).length] W (CutP R (uintL X) rest W)) := fun W hW => bcut_any R (uintL X) rest (by omega) hr hU1 W hW
  have HR := Lib.hid h
  clear h
  go_enter Tryz.func81, Tryz.ntmps81
  go_wp2_with fail
  refine HP.out.mono ?_
  rintro e w2 ⟨rfl, hb2⟩
  have HC2 := Lib.hid (HC.out w2 (HR.out.later hb2))
  have HB2 := Lib.hid hb2
  clear hb2
  go_wp2_with fail
  refine HC2.out.mono ?_
  rintro e w3 ⟨⟨a, c, rfl, -⟩, hr3, hc3⟩
  have HR3 := Lib.hid hr3
  have HC3 : Hid (Chg (fun k => k = R) w w3) := (Chg.ofBelow HB2.out).trans hc3 (fun n hn => .inl hn)
  clear hr3 hc3
  go_wp2_with fail
  go_ret
  exact ⟨rfl, HR3.out, HC3.out⟩
end Go.Proofs.YtpijpeocdlnhiaaGreatDoor
namespace Go.Proofs.YtpijpeocdlnhiaaGreatDoor
set_option linter.unusedVariables false
set_option linter.unusedSimpArgs false
open Go.RowKit

theorem not_i64 (a : Nat) (ha : a < 9223372036854775808) : bits .xor .i64 (a : Int) (-1) = -1 - (a : Int) := by
  have h1 : (BitVec.ofNat 64 a ^^^ BitVec.allOnes 64).toNat = 18446744073709551615 - a := by
    rw [BitVec.xor_allOnes, BitVec.toNat_not, BitVec.toNat_ofNat, Nat.mod_eq_of_lt (by omega)]
  have h2 : bits .xor .i64 (a : Int) (-1) = IntKind.i64.wrap ((BitVec.ofNat 64 a ^^^ BitVec.allOnes 64).toNat : Int) := by
    have e : (BitVec.ofInt 64 (-1)) = BitVec.allOnes 64 := by decide
    have e2 : BitVec.ofInt 64 (a : Int) = BitVec.ofNat 64 a := BitVec.ofInt_natCast ..
    rw [← e, ← e2]
    rfl
  rw [h2, h1, IntKind.wrap_i64]
  omega
theorem same_i64 (a : Nat) (ha : a < 9223372036854775808) : bits .xor .i64 (a : Int) 0 = (a : Int) := by
  have h1 : (BitVec.ofNat 64 a ^^^ 0#64).toNat = a := by
    rw [BitVec.xor_zero, BitVec.toNat_ofNat, Nat.mod_eq_of_lt (by omega)]
  have h2 : bits .xor .i64 (a : Int) 0 = IntKind.i64.wrap ((BitVec.ofNat 64 a ^^^ 0#64).toNat : Int) := by
    have e2 : BitVec.ofInt 64 (a : Int) = BitVec.ofNat 64 a := BitVec.ofInt_natCast ..
    rw [← e2]
    rfl
  rw [h2, h1, IntKind.wrap_i64]
  omega
theorem and_one (a : Nat) (ha : a < 18446744073709551616) : bits .and .u64 (a : Int) 1 = ((a % 2 : Nat) : Int) := by
  have h := (bits_nat .u64 64 (by decide) (fun n h0 h1 => by rw [IntKind.wrap_u64]; omega) a 1 ha (by decide)).1
  have e : a &&& 1 = a % 2 := Nat.and_one_is_mod a
  rw [← e]
  exact h
set_option maxRecDepth 100000 in
set_option maxHeartbeats 4000000 in
theorem brint_any (R : Nat) (n : Int) (hn : -9223372036854775808 ≤ n ∧ n ≤ 9223372036854775807) (rest : List UInt8) (hr : rest.length ≤ 1000000) (w : World) (h : Rdr w R (uintL (zz n) ++ rest)) :
    Calls Tryz.prog 82 #[.pointer (some ⟨R, 0, none⟩)] w fun e w' => e = .returned (.int .i64 n) ∧ Rdr w' R rest ∧ Chg (fun k => k = R) w w' := by
  have HU := Lib.hid (bruint_any R (zz n) (zz_lt n hn) rest hr w h)
  have hx := zz_lt n hn
  have ha := and_one (zz n) hx
  clear h
  by_cases h0 : 0 ≤ n
  · obtain ⟨a, rfl⟩ : ∃ a : Nat, n = (a : Int) := ⟨n.toNat, by omega⟩
    have hz : zz (a : Int) = 2 * a := by unfold zz; rw [if_pos h0]; omega
    rw [hz] at HU ha hx
    have hval : bits BinOp.xor IntKind.i64 (a : Int) (wrap64 (-wrap64 (bits BinOp.and IntKind.u64 (2 * (a : Int)) 1))) = (a : Int) := by
      rw [show (2 * (a : Int)) = ((2 * a : Nat) : Int) by omega, ha, show (2 * a) % 2 = 0 by omega]
      rw [show wrap64 (-wrap64 ((0 : Nat) : Int)) = 0 by unfold wrap64; omega]
      exact same_i64 a (by omega)
    have HVAL := Lib.hid hval
    clear hval ha hz
    go_enter Tryz.func82, Tryz.ntmps82
    go_wp2_with fail
    refine HU.out.mono ?_
    rintro e w2 ⟨rfl, h3, h4⟩
    have H3 := Lib.hid h3
    have H4 := Lib.hid h4
    clear h3 h4
    go_wp2_with fail
    go_ret
    exact ⟨congrArg (fun x => Ending.returned (.int .i64 x)) HVAL.out, H3.out, H4.out⟩
  · obtain ⟨a, ha2⟩ : ∃ a : Nat, (a : Int) = -(n + 1) := ⟨(-(n + 1)).toNat, by omega⟩
    have hz : zz n = 2 * a + 1 := by unfold zz; rw [if_neg h0]; omega
    rw [hz] at HU ha hx
    have hval : bits BinOp.xor IntKind.i64 (a : Int) (wrap64 (-wrap64 (bits BinOp.and IntKind.u64 (2 * (a : Int) + 1) 1))) = n := by
      rw [show (2 * (a : Int) + 1) = ((2 * a + 1 : Nat) : Int) by omega, ha, show (2 * a + 1) % 2 = 1 by omega]
      have h := not_i64 a (by omega)
      rw [show wrap64 (-wrap64 ((1 : Nat) : Int)) = -1 by unfold wrap64; omega, h]
      omega
    have hdv : (2 * (a : Int) + 1) / 2 = (a : Int) := by omega
    have HVAL := Lib.hid hval
    clear hval ha hz ha2
    go_enter Tryz.func82, Tryz.ntmps82
    go_wp2_with fail
    refine HU.out.mono ?_
    rintro e w2 ⟨rfl, h3, h4⟩
    have H3 := Lib.hid h3
    have H4 := Lib.hid h4
    clear h3 h4
    go_wp2_with fail
    go_ret
    exact ⟨congrArg (fun x => Ending.returned (.int .i64 x)) HVAL.out, H3.out, H4.out⟩
/-- What a reading of bytes leaves: the bytes in new memory, and a reader with the rest. -/
def TakeP (R : Nat) (pre rest : List UInt8) (w : World) (e : Ending) (w' : World) : Prop :=
  (∃ (a : Option Addr) (c : Nat), e = .returned (.slice a pre.length c) ∧ Row w' 5 1 (.slice a pre.length c) pre.length (byts pre) (fun k => w.heap.size ≤ k)) ∧ Rdr w' R rest ∧ Chg (fun k => k = R) w w'
set_option maxRecDepth 100000 in
set_option maxHeartbeats 4000000 in
theorem btake_any (R : Nat) (pre rest : List UInt8) (hp : pre.length ≤ 1000000) (hr : rest.length ≤ 1000000) (hpp : 0 < pre.length) (w : World) (h : Rdr w R (pre ++ rest)) :
    Calls Tryz.prog 83 #[.pointer (some ⟨R, 0, none⟩), .int .i64 pre.length] w (TakeP R pre rest w) := by
  have HC := Lib.hid (bcut_any R pre rest hp hr hpp w h)
  clear h
  go_enter Tryz.func83, Tryz.ntmps83
  go_wp2_with fail
  refine HC.out.mono ?_
  rintro e w2 ⟨⟨a, c, rfl, hrd⟩, h3, h4⟩
  have HCL := Lib.hid (bclone_any a pre.length c (byts pre) w2 hrd (byts_one pre) (by omega))
  have H3 := Lib.hid h3
  have H4 := Lib.hid h4
  clear h3 h4 hrd HC
  go_wp2_with fail
  refine HCL.out.mono ?_
  rintro e w3 ⟨v3, rfl, hrow, hb3⟩
  obtain ⟨-, a3, c3, rfl, -⟩ := hrow.reads
  have hs := H4.out.size
  have HR3 : Hid (Row w3 5 1 (.slice a3 pre.length c3) pre.length (byts pre) (fun k => w.heap.size ≤ k)) := hrow.mono (fun k hk => Nat.le_trans hs hk)
  have HD3 := Lib.hid (H3.out.later hb3)
  have HC3 : Hid (Chg (fun k => k = R) w w3) := H4.out.trans (Chg.ofBelow (S := fun _ => False) hb3) (fun n hn => hn.elim)
  clear hrow hb3
  go_wp2_with fail
  go_ret
  exact ⟨⟨a3, c3, rfl, HR3.out⟩, HD3.out, HC3.out⟩
end Go.Proofs.YtpijpeocdlnhiaaGreatDoor
namespace Go.Proofs.YtpijpeocdlnhiaaGreatDoor
set_option linter.unusedVariables false
set_option linter.unusedSimpArgs false
open Go.RowKit

theorem rdr_same {w : World} {R N c : Nat} {a : Option Addr} {rest : List UInt8} (HX : w.heap[R]? = some (.cells #[.slice a N c, .bool false] 76 (0, 0))) (hN : N = rest.length) (h2 : Row w 5 1 (.slice a N c) N (byts rest) (fun k => k < R)) (u : Value) (hu : u = .slice a N c) :
    Rdr (w.setCell ⟨R, 0, none⟩ u) R rest ∧ Chg (fun k => k = R) w (w.setCell ⟨R, 0, none⟩ u) := by
  subst hu hN
  exact ⟨⟨a, c, heap_store HX 0 (.slice a rest.length c), h2.frame (fun k hk _ => Below.heap_setCell _ _ _ _ (Nat.ne_of_lt hk))⟩, Chg.setCell (S := fun k => k = R) (p := ⟨R, 0, none⟩) (Chg.refl _ _) (.inl rfl) _⟩
set_option maxRecDepth 100000 in
set_option maxHeartbeats 4000000 in
theorem bcut_zero (R : Nat) (rest : List UInt8) (hr : rest.length ≤ 1000000) (w : World) (h : Rdr w R rest) :
    Calls Tryz.prog 114 #[.pointer (some ⟨R, 0, none⟩), .int .i64 0] w (CutP R [] rest w) := by
  obtain ⟨a, c, h1, h2⟩ := h
  obtain ⟨N, hN⟩ : ∃ N, N = rest.length := ⟨_, rfl⟩
  rw [← hN] at h1 h2
  have hle : N ≤ c := by obtain ⟨_, _, _, he, hle, _⟩ := h2.reads; cases he; exact hle
  have HN := Lib.hid hN
  have hng : ¬ (0 : Int) > (N : Int) := by omega
  have hc0 := cellAt h1 0 (v := .slice a N c) rfl
  have hc1 := cellAt h1 1 (v := .bool false) rfl
  have hf0 := freeAt h1 0
  have HX := Lib.hid h1
  have HR := Lib.hid h2
  clear hN
  cases a with
  | none =>
    obtain ⟨rfl, rfl⟩ : N = 0 ∧ c = 0 := by obtain ⟨_, _, _, he, _, hn, _⟩ := h2.reads; cases he; exact hn rfl
    clear h1 h2
    go_enter Tryz.func114, Tryz.ntmps114
    go_wp2_with fail
    go_ret
    obtain ⟨h3, h4⟩ := rdr_same HX.out HN.out HR.out (.slice none 0 0) rfl
    exact ⟨⟨none, 0, rfl, Reads.nil _ _⟩, h3, h4⟩
  | some ad =>
    clear h1 h2
    go_enter Tryz.func114, Tryz.ntmps114
    go_wp2_with fail
    go_ret
    obtain ⟨h3, h4⟩ := rdr_same HX.out HN.out HR.out (.slice (some ad) N c) rfl
    exact ⟨⟨some ad, c, rfl, ⟨rfl, some ad, c, rfl, Nat.zero_le _, (fun h => by cases h), fun _ _ j u hu => by simp [byts] at hu⟩⟩, h3, h4⟩
theorem bcut_all (R : Nat) (pre rest : List UInt8) (hp : pre.length ≤ 1000000) (hr : rest.length ≤ 1000000) (w : World) (h : Rdr w R (pre ++ rest)) :
    Calls Tryz.prog 114 #[.pointer (some ⟨R, 0, none⟩), .int .i64 pre.length] w (CutP R pre rest w) := by
  cases pre with
  | nil => exact bcut_zero R rest hr w h
  | cons a pre => exact bcut_any R (a :: pre) rest hp hr (by simp) w h
set_option maxRecDepth 100000 in
set_option maxHeartbeats 4000000 in
theorem btake_all (R : Nat) (pre rest : List UInt8) (hp : pre.length ≤ 1000000) (hr : rest.length ≤ 1000000) (w : World) (h : Rdr w R (pre ++ rest)) :
    Calls Tryz.prog 83 #[.pointer (some ⟨R, 0, none⟩), .int .i64 pre.length] w (TakeP R pre rest w) := by
  have HC := Lib.hid (bcut_all R pre rest hp hr w h)
  clear h
  go_enter Tryz.func83, Tryz.ntmps83
  go_wp2_with fail
  refine HC.out.mono ?_
  rintro e w2 ⟨⟨a, c, rfl, hrd⟩, h3, h4⟩
  have HCL := Lib.hid (bclone_any a pre.length c (byts pre) w2 hrd (byts_one pre) (by omega))
  have H3 := Lib.hid h3
  have H4 := Lib.hid h4
  clear h3 h4 hrd HC
  go_wp2_with fail
  refine HCL.out.mono ?_
  rintro e w3 ⟨v3, rfl, hrow, hb3⟩
  obtain ⟨-, a3, c3, rfl, -⟩ := hrow.reads
  have hs := H4.out.size
  have HR3 : Hid (Row w3 5 1 (.slice a3 pre.length c3) pre.length (byts pre) (fun k => w.heap.size ≤ k)) := hrow.mono (fun k hk => Nat.le_trans hs hk)
  have HD3 := Lib.hid (H3.out.later hb3)
  have HC3 : Hid (Chg (fun k => k = R) w w3) := H4.out.trans (Chg.ofBelow (S := fun _ => False) hb3) (fun n hn => hn.elim)
  clear hrow hb3
  go_wp2_with fail
  go_ret
  exact ⟨⟨a3, c3, rfl, HR3.out⟩, HD3.out, HC3.out⟩
set_option maxRecDepth 100000 in
set_option maxHeartbeats 4000000 in
theorem brbytes_any (R : Nat) (s rest : List UInt8) (hs : s.length ≤ 900000) (hr : rest.length ≤ 90000) (w : World) (h : Rdr w R (uintL s.length ++ (s ++ rest))) :
    Calls Tryz.prog 115 #[.pointer (some ⟨R, 0, none⟩)] w (TakeP R s rest w) := by
  have hl : (s ++ rest).length = s.length + rest.length := List.length_append
  have HP := Lib.hid (bpeek_any R s.length (by omega) (s ++ rest) (by omega) w h)
  have hU10 := uintL_ten (x := s.length) (by omega)
  have HC : Hid (∀ W, Rdr W R (uintL s.length ++ (s ++ rest)) → Calls Tryz.prog 114 #[.pointer (some ⟨R, 0, none⟩), .int .i64 (uintL s.length).length] W (CutP R (uintL s.length) (s ++ rest) W)) := fun W hW => bcut_all R (uintL s.length) (s ++ rest) (by omega) (by omega) W hW
  have HT : Hid (∀ W, Rdr W R (s ++ rest) → Calls Tryz.prog 83 #[.pointer (some ⟨R, 0, none⟩), .int .i64 s.length] W (TakeP R s rest W)) := fun W hW => btake_all R s rest (by omega) (by omega) W hW
  have HR := Lib.hid h
  obtain ⟨U, hU⟩ : ∃ U, U = uintL s.length := ⟨_, rfl⟩
  rw [← hU] at HP hU10 HC HR
  obtain ⟨n, hn⟩ : ∃ n, n = s.length := ⟨_, rfl⟩
  rw [← hn] at HP HT hl hs
  have hN : (U ++ (s ++ rest)).length = U.length + (n + rest.length) := by rw [List.length_append, hl]
  clear h hU hn
  go_enter Tryz.func115, Tryz.ntmps115
  go_wp2_with fail
  refine HP.out.mono ?_
  rintro e w2 ⟨rfl, hb2⟩
  have HR2 := Lib.hid (HR.out.later hb2)
  have HB2 := Lib.hid hb2
  obtain ⟨a, c, h1, h2⟩ := HR2.out
  obtain ⟨N, hNN⟩ : ∃ N, N = (U ++ (s ++ rest)).length := ⟨_, rfl⟩
  rw [← hNN] at h1 hN
  have hc0 := cellAt h1 0 (v := .slice a N c) rfl
  have HNN := Lib.hid hN
  have hw : IntKind.i64.wrap ((N : Int) - (U.length : Int)) = (n : Int) + (rest.length : Int) := by rw [IntKind.wrap_i64]; omega
  have hgt : ¬ (n : Int) > (n : Int) + (rest.length : Int) := by omega
  clear hb2 h1 h2 HP hN hNN
  have HC2 := Lib.hid (HC.out w2 HR2.out)
  go_wp2_with fail
  refine HC2.out.mono ?_
  rintro e w3 ⟨⟨a3, c3, rfl, -⟩, h3, h4⟩
  have HT3 := Lib.hid (HT.out w3 h3)
  have H4 := Lib.hid h4
  clear h3 h4 hc0
  go_wp2_with fail
  refine HT3.out.mono ?_
  rintro e w4 ⟨⟨a4, c4, rfl, hrow⟩, h5, h6⟩
  have hs2 := HB2.out.size
  have hs3 := H4.out.size
  have HR4 : Hid (Row w4 5 1 (.slice a4 s.length c4) s.length (byts s) (fun k => w.heap.size ≤ k)) := hrow.mono (fun k hk => by omega)
  have HD4 := Lib.hid h5
  have HC4 : Hid (Chg (fun k => k = R) w w4) := ((Chg.ofBelow HB2.out).trans H4.out (fun n hn => .inl hn)).trans h6 (fun n hn => .inl hn)
  clear hrow h5 h6
  go_wp2_with fail
  go_ret
  exact ⟨⟨a4, c4, rfl, HR4.out⟩, HD4.out, HC4.out⟩
set_option maxRecDepth 100000 in
set_option maxHeartbeats 4000000 in
theorem brtext_any (R : Nat) (s : ByteArray) (rest : List UInt8) (hs : s.size ≤ 900000) (hr : rest.length ≤ 90000) (w : World) (h : Rdr w R (uintL s.size ++ (s.data.toList ++ rest))) :
    Calls Tryz.prog 85 #[.pointer (some ⟨R, 0, none⟩)] w fun e w' => e = .returned (.string s) ∧ Rdr w' R rest ∧ Chg (fun k => k = R) w w' := by
  have HB := Lib.hid (brbytes_any R s.data.toList rest (by rw [← Lib.size_eq]; exact hs) hr w (by rw [← Lib.size_eq]; exact h))
  clear h
  go_enter Tryz.func85, Tryz.ntmps85
  go_wp2_with fail
  refine HB.out.mono ?_
  rintro e w2 ⟨⟨a, c, rfl, hrow⟩, h3, h4⟩
  have HCV := conv_any (P := Tryz.prog) (w := w2) (src := 33) (dst := 9) (e := 5) (a := a) (c := c) (l := s.data.toList) Tryz.underlying33 Tryz.underlying5 Tryz.underlying9 hrow.reads
  rw [ba_data', ← Lib.size_eq] at HCV
  have H3 := Lib.hid h3
  have H4 := Lib.hid h4
  clear h3 h4 hrow
  go_wp2_with fail
  go_ret
  exact ⟨rfl, H3.out, H4.out⟩
end Go.Proofs.YtpijpeocdlnhiaaGreatDoor
namespace Go.Proofs.YtpijpeocdlnhiaaGreatDoor
set_option linter.unusedVariables false
set_option linter.unusedSimpArgs false
open Go.RowKit

set_option maxRecDepth 100000 in
set_option maxHeartbeats 1000000 in
theorem nof_any (f : Nat) (hf : f < 18446744073709551616) (w : World) :
    Calls Tryz.prog 84 #[.int .u64 (canonB f)] w fun e w' => e = .returned (.tuple #[.float .f64 (canonB f), .bool true]) ∧ w = w' := by
  have hb : ∀ (f : Nat) (w : World), (callFunc 110 #[.int .u64 f]).run Tryz.prog w = .ok (.value (.float .f64 f)) w := call_bits2
  have hc := canon_lt f hf
  have hord := order_self (canonB f) hc
  by_cases hn : nanB (canonB f) = true
  · have he : canonB f = 9221120237041090561 := by
      unfold canonB at hn ⊢
      split at hn
      · rename_i h; rw [if_pos h]
      · rename_i h; exact absurd hn h
    rw [hn] at hord
    have hq : (((canonB f : Nat) : Int) != 9221120237041090561) = false := by rw [he]; rfl
    clear he hn hc
    generalize canonB f = x at *
    go_enter Tryz.func84, Tryz.ntmps84
    go_wp2
    go_ret2
    exact ⟨rfl, rfl⟩
  · have hn2 : nanB (canonB f) = false := by simpa using hn
    rw [hn2] at hord
    generalize canonB f = x at *
    go_enter Tryz.func84, Tryz.ntmps84
    go_wp2
    go_ret2
    exact ⟨rfl, rfl⟩
end Go.Proofs.YtpijpeocdlnhiaaGreatDoor
namespace Go.Proofs.YtpijpeocdlnhiaaGreatDoor
set_option linter.unusedVariables false
set_option linter.unusedSimpArgs false
open Go.RowKit

/-- What a reading of a payload leaves: the payload in new memory, and a reader with the rest. -/
def ReadPost (w : World) (R : Nat) (t : VT) (rest : List UInt8) (e : Ending) (w' : World) : Prop :=
  (∃ v : VV, e = .returned (.tuple #[v.val, .bool true]) ∧ TOwn w' t v (fun b => w.heap.size ≤ b ∧ b < w'.heap.size)) ∧ Rdr w' R rest ∧ Chg (fun k => k = R) w w'
theorem Rdr.store {w : World} {R : Nat} {rem : List UInt8} (h : Rdr w R rem) {p : Addr} {cs : Array Value} {fr : Nat × Nat} (hN : w.heap[p.block]? = some (.cells cs 26 fr)) (hp : R < p.block) (u : Value) : Rdr (w.setCell p u) R rem := by
  obtain ⟨a, c, h1, h2⟩ := h
  exact ⟨a, c, (Below.heap_setCell _ _ _ _ (by omega)).trans h1, h2.frame (fun k hk _ => Below.heap_setCell _ _ _ _ (by omega))⟩
theorem Rdr.chg {w w' : World} {R : Nat} {rem : List UInt8} (h : Rdr w R rem) {S : Nat → Prop} (hc : Chg S w w') (hS : ∀ k, k ≤ R → ¬ S k) : Rdr w' R rem := by
  obtain ⟨a, c, h1, h2⟩ := h
  exact ⟨a, c, hc.heap h1 (hS R (Nat.le_refl _)), h2.frame (fun k hk hl => hc.block k hl (hS k (Nat.le_of_lt hk)))⟩
theorem heap_type {w : World} {b : Nat} {cs : Array Value} {t : TypeId} (h : w.heap[b]? = some (.cells cs t (0, 0))) (o : Nat) (u : Value) : ∃ cs', (w.setCell ⟨b, o, none⟩ u).heap[b]? = some (.cells cs' t (0, 0)) := ⟨_, heap_store h o u⟩
set_option maxRecDepth 100000 in
theorem read_post {w wr : World} {R : Nat} {rest : List UInt8} {t : VT} {v : VV} {ac : Act} (hN : wr.heap[w.heap.size]? = some (.cells #[.int .i64 0, .int .i64 0, .float .f64 0, .string ⟨#[]⟩, .slice none 0 0] 26 (0, 0)))
    (hC : Chg (fun k => k = R) w wr) (hRl : R < w.heap.size) (hR : Rdr wr R rest) (hT : TOwn wr t v (fun b => w.heap.size + 1 ≤ b ∧ b < wr.heap.size)) (h4 : ac.tmps.getD 4 undef = .pointer (some ⟨w.heap.size, 0, none⟩)) (h5 : ac.tmps.getD 5 undef = .bool true) (hd : ac.defers = []) :
    bodyPost Tryz.prog Tryz.f50 (ReadPost w R t rest) .ret ac (((((wr.setCell ⟨w.heap.size, 0, none⟩ (.int .i64 v.k)).setCell ⟨w.heap.size, 1, none⟩ (.int .i64 v.n)).setCell ⟨w.heap.size, 2, none⟩ (.float .f64 v.f)).setCell ⟨w.heap.size, 3, none⟩ (.string v.s)).setCell ⟨w.heap.size, 4, none⟩ (.slice v.a v.l v.c)) := by
  have hr := results_row_tmp (P := Tryz.prog) (fn := Tryz.f50) (u := 5) rfl ac.tmps _ w.heap.size 26 _ (0, 0) _ h4 (set5 hN rfl (.int .i64 v.k) (.int .i64 v.n) (.float .f64 v.f) (.string v.s) (.slice v.a v.l v.c)) Tryz.underlying26 rfl rfl
  rw [h5] at hr
  refine bodyPost_ret hr hd ?_
  have hl : w.heap.size < w.heap.size + 1 := Nat.lt_succ_self _
  have hne : R < w.heap.size := hRl
  have hszs : (((((wr.setCell ⟨w.heap.size, 0, none⟩ (.int .i64 v.k)).setCell ⟨w.heap.size, 1, none⟩ (.int .i64 v.n)).setCell ⟨w.heap.size, 2, none⟩ (.float .f64 v.f)).setCell ⟨w.heap.size, 3, none⟩ (.string v.s)).setCell ⟨w.heap.size, 4, none⟩ (.slice v.a v.l v.c)).heap.size = wr.heap.size := setCells_size w.heap.size v.cells 0 wr
  have hr1 := hR.store (p := ⟨w.heap.size, 0, none⟩) hN hne (.int .i64 v.k)
  have n1 := heap_store hN 0 (.int .i64 v.k)
  have hr2 := hr1.store (p := ⟨w.heap.size, 1, none⟩) n1 hne (.int .i64 v.n)
  have n2 := heap_store n1 1 (.int .i64 v.n)
  have hr3 := hr2.store (p := ⟨w.heap.size, 2, none⟩) n2 hne (.float .f64 v.f)
  have n3 := heap_store n2 2 (.float .f64 v.f)
  have hr4 := hr3.store (p := ⟨w.heap.size, 3, none⟩) n3 hne (.string v.s)
  have n4 := heap_store n3 3 (.string v.s)
  have hr5 := hr4.store (p := ⟨w.heap.size, 4, none⟩) n4 hne (.slice v.a v.l v.c)
  refine ⟨⟨v, rfl, ?_⟩, hr5, ((((hC.setCell (.inr (Nat.le_refl _)) _).setCell (.inr (Nat.le_refl _)) _).setCell (.inr (Nat.le_refl _)) _).setCell (.inr (Nat.le_refl _)) _).setCell (.inr (Nat.le_refl _)) _⟩
  exact (TOwn.setCell (TOwn.setCell (TOwn.setCell (TOwn.setCell (TOwn.setCell hT hl) hl) hl) hl) hl).mono _ (fun b hb => ⟨by omega, by rw [hszs]; exact hb.2⟩)

set_option maxRecDepth 100000 in
set_option maxHeartbeats 1000000 in
theorem vread_0 (left : Int) (R : Nat) (rest : List UInt8) (hr : rest.length ≤ 90000) (w : World) (h : Rdr w R (uintL 0 ++ (rest))) :
    Calls Tryz.prog 50 #[.pointer (some ⟨R, 0, none⟩), .int .i64 left] w (ReadPost w R (zeroT) rest) := by
  have HX : Hid ((w.alloc (.cells #[.int .i64 0, .int .i64 0, .float .f64 0, .string ⟨#[]⟩, .slice none 0 0] 26)).heap[w.heap.size]? = some (.cells #[.int .i64 0, .int .i64 0, .float .f64 0, .string ⟨#[]⟩, .slice none 0 0] 26 (0, 0))) := heap_alloc_new _ _
  have HBx : Hid (Below w.heap.size w (w.alloc (.cells #[.int .i64 0, .int .i64 0, .float .f64 0, .string ⟨#[]⟩, .slice none 0 0] 26))) := (Below.refl _ _).alloc (Nat.le_refl _) _
  have hRl : R < w.heap.size := h.lt
  have HR := Lib.hid (h.later HBx.out)
  have HU : Hid (∀ W, Rdr W R (uintL 0 ++ (rest)) → Calls Tryz.prog 81 #[.pointer (some ⟨R, 0, none⟩)] W fun e w' => e = .returned (.int .u64 0) ∧ Rdr w' R (rest) ∧ Chg (fun k => k = R) W w') := fun W hW => bruint_any R 0 (by decide) (rest) (by omega) W hW
  have HK := Lib.hid kw_0
  have ta1 : ∀ w, (Instr.typeAssert (.iface 103 (.agg #[])) 64 104 true).run Tryz.prog w = .ok (.tuple #[.agg #[], .bool false]) w := fun _ => by kernel_rfl
  have ta2 : ∀ w, (Instr.typeAssert (.iface 103 (.agg #[])) 64 105 true).run Tryz.prog w = .ok (.tuple #[.agg #[], .bool false]) w := fun _ => by kernel_rfl
  have ta3 : ∀ w, (Instr.typeAssert (.iface 103 (.agg #[])) 64 106 true).run Tryz.prog w = .ok (.tuple #[.agg #[], .bool false]) w := fun _ => by kernel_rfl
  have ta4 : ∀ w, (Instr.typeAssert (.iface 103 (.agg #[])) 64 107 true).run Tryz.prog w = .ok (.tuple #[.agg #[], .bool false]) w := fun _ => by kernel_rfl
  clear h
  go_enter Tryz.func50, Tryz.ntmps50
  go_upto_region 1 with fail
  generalize (w.alloc (.cells #[.int .i64 0, .int .i64 0, .float .f64 0, .string ⟨#[]⟩, .slice none 0 0] 26)) = wd at *
  have HU1 := Lib.hid (HU.out wd HR.out)
  go_wp2_with fail
  refine HU1.out.mono ?_
  rintro e w2 ⟨rfl, h3, h4⟩
  have HOK := Lib.hid (bok_any R _ w2 h3)
  have HD2 := Lib.hid h3
  have HC2 : Hid (Chg (fun k => k = R) w w2) := (Chg.ofBelow HBx.out).trans h4 (fun n hn => .inl hn)
  have HX2 := Lib.hid (h4.heap HX.out (by omega))
  clear h3 h4
  go_wp2_with fail
  refine HOK.out.mono ?_
  rintro e w3 ⟨rfl, rfl⟩
  go_upto_region 5 with fail
  have HV : Hid ((w2.alloc (.cells #[.int .i64 0, .int .i64 0, .float .f64 0, .string ⟨#[]⟩, .slice none 0 0] 26)).heap[w2.heap.size]? = some (.cells #[.int .i64 0, .int .i64 0, .float .f64 0, .string ⟨#[]⟩, .slice none 0 0] 26 (0, 0))) := heap_alloc_new _ _
  have HX3 : Hid ((w2.alloc (.cells #[.int .i64 0, .int .i64 0, .float .f64 0, .string ⟨#[]⟩, .slice none 0 0] 26)).heap[w.heap.size]? = some (.cells #[.int .i64 0, .int .i64 0, .float .f64 0, .string ⟨#[]⟩, .slice none 0 0] 26 (0, 0))) := (Below.heap_alloc _ _ _ (lt_of_heap HX2.out)).trans HX2.out
  have HD3 := Lib.hid (HD2.out.later ((Below.refl _ w2).alloc (Nat.le_refl _) (.cells #[.int .i64 0, .int .i64 0, .float .f64 0, .string ⟨#[]⟩, .slice none 0 0] 26)))
  have HC3 : Hid (Chg (fun k => k = R) w (w2.alloc (.cells #[.int .i64 0, .int .i64 0, .float .f64 0, .string ⟨#[]⟩, .slice none 0 0] 26))) := HC2.out.alloc _
  have hw2 := lt_of_heap HX2.out
  generalize (w2.alloc (.cells #[.int .i64 0, .int .i64 0, .float .f64 0, .string ⟨#[]⟩, .slice none 0 0] 26)) = w3 at *
  obtain ⟨x0, x1, x2, x3, x4⟩ := cells5 HV.out
  go_wp2_with fail
  refine (of_any 0 _).mono ?_
  rintro e w4 ⟨rfl, rfl⟩
  rw [HK.out]
  go_wp2_with fail
  have HD5 := HD3
  have HX5 := HX3
  have HV5 := HV
  have HC5 := HC3
  have HOK5 := Lib.hid (bok_any R _ w3 HD5.out)
  refine HOK5.out.mono ?_
  rintro e w6 ⟨rfl, rfl⟩
  obtain ⟨y0, y1, y2, y3, y4⟩ := cells5 HV5.out
  have hc0 := cellAt HX5.out 0 (v := .int .i64 0) rfl
  have hc1 := cellAt HX5.out 1 (v := .int .i64 0) rfl
  have hc2 := cellAt HX5.out 2 (v := .float .f64 0) rfl
  have hc3 := cellAt HX5.out 3 (v := .string ⟨#[]⟩) rfl
  have hc4 := cellAt HX5.out 4 (v := .slice none 0 0) rfl
  have hf0 := freeAt HX5.out 0
  have hf1 := freeAt HX5.out 1
  have hf2 := freeAt HX5.out 2
  have hf3 := freeAt HX5.out 3
  have hf4 := freeAt HX5.out 4
  go_wp2_with fail
  refine read_post (v := ⟨0, 0, 0, ⟨#[]⟩, none, 0, 0⟩) HX5.out HC5.out hRl HD5.out (own_atom _ _ (zeroT) rfl) ?_ ?_ ?_ <;> rfl

set_option maxRecDepth 100000 in
set_option maxHeartbeats 1000000 in
theorem vread_1 (left : Int) (n : Int) (hn : -9223372036854775808 ≤ n ∧ n ≤ 9223372036854775807) (R : Nat) (rest : List UInt8) (hr : rest.length ≤ 90000) (w : World) (h : Rdr w R (uintL 1 ++ (uintL (zz n) ++ rest))) :
    Calls Tryz.prog 50 #[.pointer (some ⟨R, 0, none⟩), .int .i64 left] w (ReadPost w R (.node 1 n 0 ⟨#[]⟩ []) rest) := by
  have HX : Hid ((w.alloc (.cells #[.int .i64 0, .int .i64 0, .float .f64 0, .string ⟨#[]⟩, .slice none 0 0] 26)).heap[w.heap.size]? = some (.cells #[.int .i64 0, .int .i64 0, .float .f64 0, .string ⟨#[]⟩, .slice none 0 0] 26 (0, 0))) := heap_alloc_new _ _
  have HBx : Hid (Below w.heap.size w (w.alloc (.cells #[.int .i64 0, .int .i64 0, .float .f64 0, .string ⟨#[]⟩, .slice none 0 0] 26))) := (Below.refl _ _).alloc (Nat.le_refl _) _
  have hRl : R < w.heap.size := h.lt
  have HR := Lib.hid (h.later HBx.out)
  have HU : Hid (∀ W, Rdr W R (uintL 1 ++ (uintL (zz n) ++ rest)) → Calls Tryz.prog 81 #[.pointer (some ⟨R, 0, none⟩)] W fun e w' => e = .returned (.int .u64 1) ∧ Rdr w' R (uintL (zz n) ++ rest) ∧ Chg (fun k => k = R) W w') := fun W hW => bruint_any R 1 (by decide) (uintL (zz n) ++ rest) (by rw [List.length_append]; have := uintL_ten (zz_lt n hn); omega) W hW
  have HI : Hid (∀ W, Rdr W R (uintL (zz n) ++ rest) → Calls Tryz.prog 82 #[.pointer (some ⟨R, 0, none⟩)] W fun e w' => e = .returned (.int .i64 n) ∧ Rdr w' R rest ∧ Chg (fun k => k = R) W w') := fun W hW => brint_any R n hn rest (by omega) W hW
  have HK := Lib.hid kw_1
  have ta1 : ∀ w, (Instr.typeAssert (.iface 104 (.agg #[])) 64 104 true).run Tryz.prog w = .ok (.tuple #[.agg #[], .bool true]) w := fun _ => by kernel_rfl
  have ta2 : ∀ w, (Instr.typeAssert (.iface 104 (.agg #[])) 64 105 true).run Tryz.prog w = .ok (.tuple #[.agg #[], .bool false]) w := fun _ => by kernel_rfl
  have ta3 : ∀ w, (Instr.typeAssert (.iface 104 (.agg #[])) 64 106 true).run Tryz.prog w = .ok (.tuple #[.agg #[], .bool false]) w := fun _ => by kernel_rfl
  have ta4 : ∀ w, (Instr.typeAssert (.iface 104 (.agg #[])) 64 107 true).run Tryz.prog w = .ok (.tuple #[.agg #[], .bool false]) w := fun _ => by kernel_rfl
  clear h
  go_enter Tryz.func50, Tryz.ntmps50
  go_upto_region 1 with fail
  generalize (w.alloc (.cells #[.int .i64 0, .int .i64 0, .float .f64 0, .string ⟨#[]⟩, .slice none 0 0] 26)) = wd at *
  have HU1 := Lib.hid (HU.out wd HR.out)
  go_wp2_with fail
  refine HU1.out.mono ?_
  rintro e w2 ⟨rfl, h3, h4⟩
  have HOK := Lib.hid (bok_any R _ w2 h3)
  have HD2 := Lib.hid h3
  have HC2 : Hid (Chg (fun k => k = R) w w2) := (Chg.ofBelow HBx.out).trans h4 (fun n hn => .inl hn)
  have HX2 := Lib.hid (h4.heap HX.out (by omega))
  clear h3 h4
  go_wp2_with fail
  refine HOK.out.mono ?_
  rintro e w3 ⟨rfl, rfl⟩
  go_upto_region 5 with fail
  have HV : Hid ((w2.alloc (.cells #[.int .i64 1, .int .i64 0, .float .f64 0, .string ⟨#[]⟩, .slice none 0 0] 26)).heap[w2.heap.size]? = some (.cells #[.int .i64 1, .int .i64 0, .float .f64 0, .string ⟨#[]⟩, .slice none 0 0] 26 (0, 0))) := heap_alloc_new _ _
  have HX3 : Hid ((w2.alloc (.cells #[.int .i64 1, .int .i64 0, .float .f64 0, .string ⟨#[]⟩, .slice none 0 0] 26)).heap[w.heap.size]? = some (.cells #[.int .i64 0, .int .i64 0, .float .f64 0, .string ⟨#[]⟩, .slice none 0 0] 26 (0, 0))) := (Below.heap_alloc _ _ _ (lt_of_heap HX2.out)).trans HX2.out
  have HD3 := Lib.hid (HD2.out.later ((Below.refl _ w2).alloc (Nat.le_refl _) (.cells #[.int .i64 1, .int .i64 0, .float .f64 0, .string ⟨#[]⟩, .slice none 0 0] 26)))
  have HC3 : Hid (Chg (fun k => k = R) w (w2.alloc (.cells #[.int .i64 1, .int .i64 0, .float .f64 0, .string ⟨#[]⟩, .slice none 0 0] 26))) := HC2.out.alloc _
  have hw2 := lt_of_heap HX2.out
  generalize (w2.alloc (.cells #[.int .i64 1, .int .i64 0, .float .f64 0, .string ⟨#[]⟩, .slice none 0 0] 26)) = w3 at *
  obtain ⟨x0, x1, x2, x3, x4⟩ := cells5 HV.out
  go_wp2_with fail
  refine (of_any 1 _).mono ?_
  rintro e w4 ⟨rfl, rfl⟩
  rw [HK.out]
  go_wp2_with fail
  refine (HI.out _ HD3.out).mono ?_
  rintro e w4 ⟨rfl, h3, h4⟩
  have HD4 := Lib.hid h3
  have HC4 : Hid (Chg (fun k => k = R) w w4) := HC3.out.trans h4 (fun n hn => .inl hn)
  have HX4 := Lib.hid (h4.heap HX3.out (by omega))
  have HV4 := Lib.hid (h4.heap HV.out (by omega))
  clear h3 h4 x0 x1 x2 x3 x4 HOK HU1
  obtain ⟨x0, x1, x2, x3, x4⟩ := cells5 HV4.out
  have hvf := freeAt HV4.out 1
  go_wp2_with fail
  have HD5 := Lib.hid (HD4.out.store (p := ⟨w2.heap.size, 1, none⟩) HV4.out (by show R < w2.heap.size; omega) (.int .i64 n))
  have HX5 := Lib.hid ((Below.heap_setCell w4 ⟨w2.heap.size, 1, none⟩ (.int .i64 n) _ (by show w.heap.size ≠ w2.heap.size; omega)).trans HX4.out)
  have HV5 := Lib.hid (heap_store HV4.out 1 (.int .i64 n))
  have HC5 := Lib.hid (HC4.out.setCell (p := ⟨w2.heap.size, 1, none⟩) (.inr (by show w.heap.size ≤ w2.heap.size; omega)) (.int .i64 n))
  generalize w4.setCell ⟨w2.heap.size, 1, none⟩ (.int .i64 n) = w5 at *
  have HOK5 := Lib.hid (bok_any R _ w5 HD5.out)
  refine HOK5.out.mono ?_
  rintro e w6 ⟨rfl, rfl⟩
  obtain ⟨y0, y1, y2, y3, y4⟩ := cells5 HV5.out
  have hc0 := cellAt HX5.out 0 (v := .int .i64 0) rfl
  have hc1 := cellAt HX5.out 1 (v := .int .i64 0) rfl
  have hc2 := cellAt HX5.out 2 (v := .float .f64 0) rfl
  have hc3 := cellAt HX5.out 3 (v := .string ⟨#[]⟩) rfl
  have hc4 := cellAt HX5.out 4 (v := .slice none 0 0) rfl
  have hf0 := freeAt HX5.out 0
  have hf1 := freeAt HX5.out 1
  have hf2 := freeAt HX5.out 2
  have hf3 := freeAt HX5.out 3
  have hf4 := freeAt HX5.out 4
  go_wp2_with fail
  refine read_post (v := ⟨1, n, 0, ⟨#[]⟩, none, 0, 0⟩) HX5.out HC5.out hRl HD5.out (own_atom _ _ (.node 1 n 0 ⟨#[]⟩ []) rfl) ?_ ?_ ?_ <;> rfl

set_option maxRecDepth 100000 in
set_option maxHeartbeats 1000000 in
theorem vread_3 (left : Int) (s : ByteArray) (hs : s.size ≤ 900000) (R : Nat) (rest : List UInt8) (hr : rest.length ≤ 90000) (w : World) (h : Rdr w R (uintL 3 ++ (uintL s.size ++ (s.data.toList ++ rest)))) :
    Calls Tryz.prog 50 #[.pointer (some ⟨R, 0, none⟩), .int .i64 left] w (ReadPost w R (.node 3 0 0 s []) rest) := by
  have HX : Hid ((w.alloc (.cells #[.int .i64 0, .int .i64 0, .float .f64 0, .string ⟨#[]⟩, .slice none 0 0] 26)).heap[w.heap.size]? = some (.cells #[.int .i64 0, .int .i64 0, .float .f64 0, .string ⟨#[]⟩, .slice none 0 0] 26 (0, 0))) := heap_alloc_new _ _
  have HBx : Hid (Below w.heap.size w (w.alloc (.cells #[.int .i64 0, .int .i64 0, .float .f64 0, .string ⟨#[]⟩, .slice none 0 0] 26))) := (Below.refl _ _).alloc (Nat.le_refl _) _
  have hRl : R < w.heap.size := h.lt
  have HR := Lib.hid (h.later HBx.out)
  have HU : Hid (∀ W, Rdr W R (uintL 3 ++ (uintL s.size ++ (s.data.toList ++ rest))) → Calls Tryz.prog 81 #[.pointer (some ⟨R, 0, none⟩)] W fun e w' => e = .returned (.int .u64 3) ∧ Rdr w' R (uintL s.size ++ (s.data.toList ++ rest)) ∧ Chg (fun k => k = R) W w') := fun W hW => bruint_any R 3 (by decide) (uintL s.size ++ (s.data.toList ++ rest)) (by rw [List.length_append, List.length_append, bsize]; have := uintL_ten (x := s.size) (by omega); omega) W hW
  have HI : Hid (∀ W, Rdr W R (uintL s.size ++ (s.data.toList ++ rest)) → Calls Tryz.prog 85 #[.pointer (some ⟨R, 0, none⟩)] W fun e w' => e = .returned (.string s) ∧ Rdr w' R rest ∧ Chg (fun k => k = R) W w') := fun W hW => brtext_any R s rest hs hr W hW
  have HK := Lib.hid kw_3
  have ta1 : ∀ w, (Instr.typeAssert (.iface 106 (.agg #[])) 64 104 true).run Tryz.prog w = .ok (.tuple #[.agg #[], .bool false]) w := fun _ => by kernel_rfl
  have ta2 : ∀ w, (Instr.typeAssert (.iface 106 (.agg #[])) 64 105 true).run Tryz.prog w = .ok (.tuple #[.agg #[], .bool false]) w := fun _ => by kernel_rfl
  have ta3 : ∀ w, (Instr.typeAssert (.iface 106 (.agg #[])) 64 106 true).run Tryz.prog w = .ok (.tuple #[.agg #[], .bool true]) w := fun _ => by kernel_rfl
  have ta4 : ∀ w, (Instr.typeAssert (.iface 106 (.agg #[])) 64 107 true).run Tryz.prog w = .ok (.tuple #[.agg #[], .bool false]) w := fun _ => by kernel_rfl
  clear h
  go_enter Tryz.func50, Tryz.ntmps50
  go_upto_region 1 with fail
  generalize (w.alloc (.cells #[.int .i64 0, .int .i64 0, .float .f64 0, .string ⟨#[]⟩, .slice none 0 0] 26)) = wd at *
  have HU1 := Lib.hid (HU.out wd HR.out)
  go_wp2_with fail
  refine HU1.out.mono ?_
  rintro e w2 ⟨rfl, h3, h4⟩
  have HOK := Lib.hid (bok_any R _ w2 h3)
  have HD2 := Lib.hid h3
  have HC2 : Hid (Chg (fun k => k = R) w w2) := (Chg.ofBelow HBx.out).trans h4 (fun n hn => .inl hn)
  have HX2 := Lib.hid (h4.heap HX.out (by omega))
  clear h3 h4
  go_wp2_with fail
  refine HOK.out.mono ?_
  rintro e w3 ⟨rfl, rfl⟩
  go_upto_region 5 with fail
  have HV : Hid ((w2.alloc (.cells #[.int .i64 3, .int .i64 0, .float .f64 0, .string ⟨#[]⟩, .slice none 0 0] 26)).heap[w2.heap.size]? = some (.cells #[.int .i64 3, .int .i64 0, .float .f64 0, .string ⟨#[]⟩, .slice none 0 0] 26 (0, 0))) := heap_alloc_new _ _
  have HX3 : Hid ((w2.alloc (.cells #[.int .i64 3, .int .i64 0, .float .f64 0, .string ⟨#[]⟩, .slice none 0 0] 26)).heap[w.heap.size]? = some (.cells #[.int .i64 0, .int .i64 0, .float .f64 0, .string ⟨#[]⟩, .slice none 0 0] 26 (0, 0))) := (Below.heap_alloc _ _ _ (lt_of_heap HX2.out)).trans HX2.out
  have HD3 := Lib.hid (HD2.out.later ((Below.refl _ w2).alloc (Nat.le_refl _) (.cells #[.int .i64 3, .int .i64 0, .float .f64 0, .string ⟨#[]⟩, .slice none 0 0] 26)))
  have HC3 : Hid (Chg (fun k => k = R) w (w2.alloc (.cells #[.int .i64 3, .int .i64 0, .float .f64 0, .string ⟨#[]⟩, .slice none 0 0] 26))) := HC2.out.alloc _
  have hw2 := lt_of_heap HX2.out
  generalize (w2.alloc (.cells #[.int .i64 3, .int .i64 0, .float .f64 0, .string ⟨#[]⟩, .slice none 0 0] 26)) = w3 at *
  obtain ⟨x0, x1, x2, x3, x4⟩ := cells5 HV.out
  go_wp2_with fail
  refine (of_any 3 _).mono ?_
  rintro e w4 ⟨rfl, rfl⟩
  rw [HK.out]
  go_wp2_with fail
  refine (HI.out _ HD3.out).mono ?_
  rintro e w4 ⟨rfl, h3, h4⟩
  have HD4 := Lib.hid h3
  have HC4 : Hid (Chg (fun k => k = R) w w4) := HC3.out.trans h4 (fun n hn => .inl hn)
  have HX4 := Lib.hid (h4.heap HX3.out (by omega))
  have HV4 := Lib.hid (h4.heap HV.out (by omega))
  clear h3 h4 x0 x1 x2 x3 x4 HOK HU1
  obtain ⟨x0, x1, x2, x3, x4⟩ := cells5 HV4.out
  have hvf := freeAt HV4.out 3
  go_wp2_with fail
  have HD5 := Lib.hid (HD4.out.store (p := ⟨w2.heap.size, 3, none⟩) HV4.out (by show R < w2.heap.size; omega) (.string s))
  have HX5 := Lib.hid ((Below.heap_setCell w4 ⟨w2.heap.size, 3, none⟩ (.string s) _ (by show w.heap.size ≠ w2.heap.size; omega)).trans HX4.out)
  have HV5 := Lib.hid (heap_store HV4.out 3 (.string s))
  have HC5 := Lib.hid (HC4.out.setCell (p := ⟨w2.heap.size, 3, none⟩) (.inr (by show w.heap.size ≤ w2.heap.size; omega)) (.string s))
  generalize w4.setCell ⟨w2.heap.size, 3, none⟩ (.string s) = w5 at *
  have HOK5 := Lib.hid (bok_any R _ w5 HD5.out)
  refine HOK5.out.mono ?_
  rintro e w6 ⟨rfl, rfl⟩
  obtain ⟨y0, y1, y2, y3, y4⟩ := cells5 HV5.out
  have hc0 := cellAt HX5.out 0 (v := .int .i64 0) rfl
  have hc1 := cellAt HX5.out 1 (v := .int .i64 0) rfl
  have hc2 := cellAt HX5.out 2 (v := .float .f64 0) rfl
  have hc3 := cellAt HX5.out 3 (v := .string ⟨#[]⟩) rfl
  have hc4 := cellAt HX5.out 4 (v := .slice none 0 0) rfl
  have hf0 := freeAt HX5.out 0
  have hf1 := freeAt HX5.out 1
  have hf2 := freeAt HX5.out 2
  have hf3 := freeAt HX5.out 3
  have hf4 := freeAt HX5.out 4
  go_wp2_with fail
  refine read_post (v := ⟨3, 0, 0, s, none, 0, 0⟩) HX5.out HC5.out hRl HD5.out (own_atom _ _ (.node 3 0 0 s []) rfl) ?_ ?_ ?_ <;> rfl

end Go.Proofs.YtpijpeocdlnhiaaGreatDoor
namespace Go.Proofs.YtpijpeocdlnhiaaGreatDoor
set_option linter.unusedVariables false
set_option linter.unusedSimpArgs false
open Go.RowKit

theorem fold_step (cb m : Nat) (hcb : cb < 18446744073709551616) (hm : m < 8) :
    bits BinOp.or IntKind.u64 (IntKind.u64.wrap (((cb / 2 ^ (64 - 8 * m) : Nat) : Int) * 256)) ((cb : Int) / 2 ^ (56 - 8 * m) % 256) = ((cb / 2 ^ (64 - 8 * (m + 1)) : Nat) : Int) := by
  obtain ⟨x, hx⟩ : ∃ x, x = cb / 2 ^ (56 - 8 * m) := ⟨_, rfl⟩
  have h1 : cb / 2 ^ (64 - 8 * m) = x / 256 := by
    rw [hx, Nat.div_div_eq_div_mul, show (256 : Nat) = 2 ^ 8 from rfl, ← Nat.pow_add, show 56 - 8 * m + 8 = 64 - 8 * m by omega]
  have h2 : ((cb : Int) / 2 ^ (56 - 8 * m) % 256) = ((x % 256 : Nat) : Int) := by rw [hx]; rfl
  have h3 : 64 - 8 * (m + 1) = 56 - 8 * m := by omega
  have hxl : x ≤ cb := by rw [hx]; exact Nat.div_le_self _ _
  have hw : IntKind.u64.wrap (((x / 256 : Nat) : Int) * 256) = ((2 ^ 8 * (x / 256) : Nat) : Int) := by rw [IntKind.wrap_u64]; omega
  rw [h1, h2, h3, ← hx, hw, (bits_nat .u64 64 (by decide) (fun n h0 h1 => by rw [IntKind.wrap_u64]; omega) (2 ^ 8 * (x / 256)) (x % 256) (by omega) (by omega)).2, ← Nat.two_pow_add_eq_or_of_lt (show x % 256 < 2 ^ 8 by omega)]
  congr 1
  omega
set_option maxRecDepth 100000 in
set_option maxHeartbeats 1000000 in
theorem vread_2 (left : Int) (f : Nat) (hf : f < 18446744073709551616) (R : Nat) (rest : List UInt8) (hr : rest.length ≤ 90000) (w : World) (h : Rdr w R (uintL 2 ++ (beN (canonB f) 8 ++ rest))) :
    Calls Tryz.prog 50 #[.pointer (some ⟨R, 0, none⟩), .int .i64 left] w (ReadPost w R (.node 2 0 (canonB f) ⟨#[]⟩ []) rest) := by
  have HX : Hid ((w.alloc (.cells #[.int .i64 0, .int .i64 0, .float .f64 0, .string ⟨#[]⟩, .slice none 0 0] 26)).heap[w.heap.size]? = some (.cells #[.int .i64 0, .int .i64 0, .float .f64 0, .string ⟨#[]⟩, .slice none 0 0] 26 (0, 0))) := heap_alloc_new _ _
  have HBx : Hid (Below w.heap.size w (w.alloc (.cells #[.int .i64 0, .int .i64 0, .float .f64 0, .string ⟨#[]⟩, .slice none 0 0] 26))) := (Below.refl _ _).alloc (Nat.le_refl _) _
  have hRl : R < w.heap.size := h.lt
  have HR := Lib.hid (h.later HBx.out)
  have HU : Hid (∀ W, Rdr W R (uintL 2 ++ (beN (canonB f) 8 ++ rest)) → Calls Tryz.prog 81 #[.pointer (some ⟨R, 0, none⟩)] W fun e w' => e = .returned (.int .u64 2) ∧ Rdr w' R (beN (canonB f) 8 ++ rest) ∧ Chg (fun k => k = R) W w') := fun W hW => bruint_any R 2 (by decide) (beN (canonB f) 8 ++ rest) (by rw [List.length_append, beN_length]; omega) W hW
  have HOF := Lib.hid (nof_any f hf)
  have HCB : Hid (canonB f < 18446744073709551616) := canon_lt f hf
  generalize canonB f = cb at *
  have HK := Lib.hid kw_2
  have ta1 : ∀ w, (Instr.typeAssert (.iface 105 (.agg #[])) 64 104 true).run Tryz.prog w = .ok (.tuple #[.agg #[], .bool false]) w := fun _ => by kernel_rfl
  have ta2 : ∀ w, (Instr.typeAssert (.iface 105 (.agg #[])) 64 105 true).run Tryz.prog w = .ok (.tuple #[.agg #[], .bool true]) w := fun _ => by kernel_rfl
  have ta3 : ∀ w, (Instr.typeAssert (.iface 105 (.agg #[])) 64 106 true).run Tryz.prog w = .ok (.tuple #[.agg #[], .bool false]) w := fun _ => by kernel_rfl
  have ta4 : ∀ w, (Instr.typeAssert (.iface 105 (.agg #[])) 64 107 true).run Tryz.prog w = .ok (.tuple #[.agg #[], .bool false]) w := fun _ => by kernel_rfl
  clear h
  go_enter Tryz.func50, Tryz.ntmps50
  go_upto_region 1 with fail
  generalize (w.alloc (.cells #[.int .i64 0, .int .i64 0, .float .f64 0, .string ⟨#[]⟩, .slice none 0 0] 26)) = wd at *
  have HU1 := Lib.hid (HU.out wd HR.out)
  go_wp2_with fail
  refine HU1.out.mono ?_
  rintro e w2 ⟨rfl, h3, h4⟩
  have HOK := Lib.hid (bok_any R _ w2 h3)
  have HD2 := Lib.hid h3
  have HC2 : Hid (Chg (fun k => k = R) w w2) := (Chg.ofBelow HBx.out).trans h4 (fun n hn => .inl hn)
  have HX2 := Lib.hid (h4.heap HX.out (by omega))
  clear h3 h4
  go_wp2_with fail
  refine HOK.out.mono ?_
  rintro e w3 ⟨rfl, rfl⟩
  go_upto_region 5 with fail
  have HV : Hid ((w2.alloc (.cells #[.int .i64 2, .int .i64 0, .float .f64 0, .string ⟨#[]⟩, .slice none 0 0] 26)).heap[w2.heap.size]? = some (.cells #[.int .i64 2, .int .i64 0, .float .f64 0, .string ⟨#[]⟩, .slice none 0 0] 26 (0, 0))) := heap_alloc_new _ _
  have HX3 : Hid ((w2.alloc (.cells #[.int .i64 2, .int .i64 0, .float .f64 0, .string ⟨#[]⟩, .slice none 0 0] 26)).heap[w.heap.size]? = some (.cells #[.int .i64 0, .int .i64 0, .float .f64 0, .string ⟨#[]⟩, .slice none 0 0] 26 (0, 0))) := (Below.heap_alloc _ _ _ (lt_of_heap HX2.out)).trans HX2.out
  have HD3 := Lib.hid (HD2.out.later ((Below.refl _ w2).alloc (Nat.le_refl _) (.cells #[.int .i64 2, .int .i64 0, .float .f64 0, .string ⟨#[]⟩, .slice none 0 0] 26)))
  have HC3 : Hid (Chg (fun k => k = R) w (w2.alloc (.cells #[.int .i64 2, .int .i64 0, .float .f64 0, .string ⟨#[]⟩, .slice none 0 0] 26))) := HC2.out.alloc _
  have hw2 := lt_of_heap HX2.out
  generalize (w2.alloc (.cells #[.int .i64 2, .int .i64 0, .float .f64 0, .string ⟨#[]⟩, .slice none 0 0] 26)) = w3 at *
  obtain ⟨x0, x1, x2, x3, x4⟩ := cells5 HV.out
  go_wp2_with fail
  refine (of_any 2 _).mono ?_
  rintro e w4 ⟨rfl, rfl⟩
  rw [HK.out]
  go_wp2_with fail
  have HT := Lib.hid (btake_all R (beN cb 8) rest (by rw [beN_length]; omega) (by omega) w3 HD3.out)
  rw [beN_length, show ((8 : Nat) : Int) = 8 from rfl] at HT
  refine HT.out.mono ?_
  rintro e w4 ⟨⟨ta, tc, he, hrow⟩, h3, h4⟩
  rw [beN_length] at he hrow
  subst he
  obtain ⟨g, og, tc', hv, hle, hgl, hcell⟩ := hrow.reads.at (by omega)
  obtain ⟨rfl, rfl⟩ : ta = some ⟨g, og, none⟩ ∧ tc = tc' := by cases hv; exact ⟨rfl, rfl⟩
  clear hv
  have HCQ : Hid (∀ j, j < 8 → w4.cell? ⟨g, og + j, none⟩ = some (.int .u8 ((cb : Int) / 2 ^ (56 - 8 * j) % 256))) := by
    intro j hj
    refine hcell j _ ?_
    rw [byts, List.getElem?_map]
    unfold beN
    rw [List.getElem?_map, List.getElem?_range hj]
    show some (Value.int .u8 _) = _
    rw [UInt8.toNat_ofNat', Nat.mod_mod]
    rfl
  have HD4 := Lib.hid h3
  have HC4 : Hid (Chg (fun k => k = R) w w4) := HC3.out.trans h4 (fun n hn => .inl hn)
  have HX4 := Lib.hid (h4.heap HX3.out (by omega))
  have HV4 := Lib.hid (h4.heap HV.out (by omega))
  clear h3 h4 x0 x1 x2 x3 x4 HOK HU1 hrow hcell HT
  go_wp2_with fail
  go_loopw [9, 43] (fun b i w' => ∃ m : Nat, m ≤ 8 ∧ i = .int .i64 m ∧ b = .int .u64 ((cb / 2 ^ (64 - 8 * m) : Nat) : Int) ∧ w' = w4) (fun _ i _ => 8 - (RowKit.intOf i).toNat)
  case atStart => exact ⟨0, by omega, rfl, by rw [Nat.div_eq_of_lt (Nat.lt_of_lt_of_le HCB.out (by decide))]; rfl, rfl⟩
  case round =>
    obtain ⟨m, hm, rfl, rfl, hww⟩ := hrel
    subst hww
    by_cases hlt : m < 8
    · have hcm := HCQ.out m hlt
      have hmi : (m : Int) < 8 := by omega
      have HST := Lib.hid (fold_step cb m HCB.out hlt)
      go_wp2_with fail
      go_roundw
      case rel => exact ⟨m + 1, by omega, by go_num, congrArg (Value.int .u64) HST.out, trivial⟩
      case measure => simp [RowKit.intOf]; omega
    · obtain rfl : m = 8 := by omega
      rw [show 64 - 8 * 8 = 0 from rfl, Nat.pow_zero, Nat.div_one]
      go_wp2_with fail
      refine (HOF.out _).mono ?_
      rintro e w5 ⟨rfl, rfl⟩
      obtain ⟨x0, x1, x2, x3, x4⟩ := cells5 HV4.out
      have hvf := freeAt HV4.out 2
      go_wp2_with fail
      have HD5 := Lib.hid (HD4.out.store (p := ⟨w2.heap.size, 2, none⟩) HV4.out (by show R < w2.heap.size; omega) (.float .f64 cb))
      have HX5 := Lib.hid ((Below.heap_setCell wr ⟨w2.heap.size, 2, none⟩ (.float .f64 cb) _ (by show w.heap.size ≠ w2.heap.size; omega)).trans HX4.out)
      have HV5 := Lib.hid (heap_store HV4.out 2 (.float .f64 cb))
      have HC5 := Lib.hid (HC4.out.setCell (p := ⟨w2.heap.size, 2, none⟩) (.inr (by show w.heap.size ≤ w2.heap.size; omega)) (.float .f64 cb))
      generalize wr.setCell ⟨w2.heap.size, 2, none⟩ (.float .f64 cb) = w5 at *
      have HOK5 := Lib.hid (bok_any R _ w5 HD5.out)
      refine HOK5.out.mono ?_
      rintro e w6 ⟨rfl, rfl⟩
      obtain ⟨y0, y1, y2, y3, y4⟩ := cells5 HV5.out
      have hc0 := cellAt HX5.out 0 (v := .int .i64 0) rfl
      have hc1 := cellAt HX5.out 1 (v := .int .i64 0) rfl
      have hc2 := cellAt HX5.out 2 (v := .float .f64 0) rfl
      have hc3 := cellAt HX5.out 3 (v := .string ⟨#[]⟩) rfl
      have hc4 := cellAt HX5.out 4 (v := .slice none 0 0) rfl
      have hf0 := freeAt HX5.out 0
      have hf1 := freeAt HX5.out 1
      have hf2 := freeAt HX5.out 2
      have hf3 := freeAt HX5.out 3
      have hf4 := freeAt HX5.out 4
      go_wp2_with fail
      refine read_post (v := ⟨2, 0, cb, ⟨#[]⟩, none, 0, 0⟩) HX5.out HC5.out hRl HD5.out (own_atom _ _ (.node 2 0 cb ⟨#[]⟩ []) rfl) ?_ ?_ ?_ <;> rfl
end Go.Proofs.YtpijpeocdlnhiaaGreatDoor
namespace Go.Proofs.YtpijpeocdlnhiaaGreatDoor
set_option linter.unusedVariables false
set_option linter.unusedSimpArgs false
open Go.RowKit

theorem Cl.across {wr w2 : World} {B R : Nat} {sl : Value} {ts : List VT} {vs : List VV} {col : Nat → Nat} (h : Cl wr B sl ts vs col) (hR : R < B) (hB : B ≤ wr.heap.size) (hc : Chg (fun k => k = R) wr w2) :
    ∃ w0 : World, w0.heap.size = wr.heap.size ∧ Cl w0 B sl ts vs col ∧ Below w0.heap.size w0 w2 := by
  have hs2 := hc.size
  obtain ⟨o, ho⟩ : ∃ o, w2.heap[R]? = some o := ⟨_, Array.getElem?_eq_getElem (by omega)⟩
  have hsz : (wr.putObj R o).heap.size = wr.heap.size := by simp [World.putObj]
  have hb : ∀ k, k ≠ R → (wr.putObj R o).heap[k]? = wr.heap[k]? := fun k hk => World.putObj_heap_other hk
  refine ⟨wr.putObj R o, hsz, ⟨(h.1.frame (fun k hk _ => hb k (by have := hk.1.1; omega))).mono (fun b hb1 => by rw [hsz]; exact hb1), TOwns.mk h.2.length (fun j hj => ?_)⟩, ⟨hc.os, hc.tape, hc.output, by omega, fun k hk => ?_⟩⟩
  · obtain ⟨v, h1, h2⟩ := h.2.get j hj
    exact ⟨v, h1, (h2.frame _ (fun k hk _ => hb k (by have := hk.1.1; omega))).mono _ (fun b hb1 => by rw [hsz]; exact hb1)⟩
  · by_cases hk2 : k = R
    · subst hk2
      rw [ho, World.putObj_heap_same (by omega)]
    · rw [hb k hk2]
      exact hc.block k (by omega) hk2
def ReadC (left : Int) (t : VT) : Prop := ∀ (R : Nat) (rest : List UInt8) (w : World), (formT t).length + rest.length ≤ 80000 → Rdr w R (formT t ++ rest) → Calls Tryz.prog 50 #[.pointer (some ⟨R, 0, none⟩), .int .i64 left] w (ReadPost w R (canonT t) rest)
set_option maxRecDepth 100000 in
set_option maxHeartbeats 4000000 in
theorem vread_4 (left : Int) (hlf : 0 < left ∧ left ≤ 8) (l : List VT) (hl : l.length ≤ 1000000) (IH : ∀ t ∈ l, ReadC (left - 1) t) (R : Nat) (rest : List UInt8) (hr : (formsT l).length + rest.length ≤ 80000) (w : World) (h : Rdr w R (uintL 4 ++ (uintL l.length ++ (formsT l ++ rest)))) :
    Calls Tryz.prog 50 #[.pointer (some ⟨R, 0, none⟩), .int .i64 left] w (ReadPost w R (.node 4 0 0 ⟨#[]⟩ (canonL l)) rest) := by
  have HX : Hid ((w.alloc (.cells #[.int .i64 0, .int .i64 0, .float .f64 0, .string ⟨#[]⟩, .slice none 0 0] 26)).heap[w.heap.size]? = some (.cells #[.int .i64 0, .int .i64 0, .float .f64 0, .string ⟨#[]⟩, .slice none 0 0] 26 (0, 0))) := heap_alloc_new _ _
  have HBx : Hid (Below w.heap.size w (w.alloc (.cells #[.int .i64 0, .int .i64 0, .float .f64 0, .string ⟨#[]⟩, .slice none 0 0] 26))) := (Below.refl _ _).alloc (Nat.le_refl _) _
  have hRl : R < w.heap.size := h.lt
  have HR := Lib.hid (h.later HBx.out)
  have hU10 := uintL_ten (x := l.length) (by omega)
  have hfl : (formsT l ++ rest).length = (formsT l).length + rest.length := List.length_append
  have HU : Hid (∀ W, Rdr W R (uintL 4 ++ (uintL l.length ++ (formsT l ++ rest))) → Calls Tryz.prog 81 #[.pointer (some ⟨R, 0, none⟩)] W fun e w' => e = .returned (.int .u64 4) ∧ Rdr w' R (uintL l.length ++ (formsT l ++ rest)) ∧ Chg (fun k => k = R) W w') := fun W hW => bruint_any R 4 (by decide) (uintL l.length ++ (formsT l ++ rest)) (by rw [List.length_append]; omega) W hW
  have HU2 : Hid (∀ W, Rdr W R (uintL l.length ++ (formsT l ++ rest)) → Calls Tryz.prog 81 #[.pointer (some ⟨R, 0, none⟩)] W fun e w' => e = .returned (.int .u64 l.length) ∧ Rdr w' R (formsT l ++ rest) ∧ Chg (fun k => k = R) W w') := fun W hW => bruint_any R l.length (by omega) (formsT l ++ rest) (by omega) W hW
  have HI := Lib.hid IH
  have HLR := Lib.hid hr
  have hlf0 : left > 0 := hlf.1
  have hlw : IntKind.i64.wrap (left - 1) = left - 1 := by rw [IntKind.wrap_i64]; omega
  have HK := Lib.hid kw_4
  have ta1 : ∀ w, (Instr.typeAssert (.iface 107 (.agg #[])) 64 104 true).run Tryz.prog w = .ok (.tuple #[.agg #[], .bool false]) w := fun _ => by kernel_rfl
  have ta2 : ∀ w, (Instr.typeAssert (.iface 107 (.agg #[])) 64 105 true).run Tryz.prog w = .ok (.tuple #[.agg #[], .bool false]) w := fun _ => by kernel_rfl
  have ta3 : ∀ w, (Instr.typeAssert (.iface 107 (.agg #[])) 64 106 true).run Tryz.prog w = .ok (.tuple #[.agg #[], .bool false]) w := fun _ => by kernel_rfl
  have ta4 : ∀ w, (Instr.typeAssert (.iface 107 (.agg #[])) 64 107 true).run Tryz.prog w = .ok (.tuple #[.agg #[], .bool true]) w := fun _ => by kernel_rfl
  clear h IH hU10 hfl
  go_enter Tryz.func50, Tryz.ntmps50
  go_upto_region 1 with fail
  generalize (w.alloc (.cells #[.int .i64 0, .int .i64 0, .float .f64 0, .string ⟨#[]⟩, .slice none 0 0] 26)) = wd at *
  have HU1 := Lib.hid (HU.out wd HR.out)
  go_wp2_with fail
  refine HU1.out.mono ?_
  rintro e w2 ⟨rfl, h3, h4⟩
  have HOK := Lib.hid (bok_any R _ w2 h3)
  have HD2 := Lib.hid h3
  have HC2 : Hid (Chg (fun k => k = R) w w2) := (Chg.ofBelow HBx.out).trans h4 (fun n hn => .inl hn)
  have HX2 := Lib.hid (h4.heap HX.out (by omega))
  clear h3 h4
  go_wp2_with fail
  refine HOK.out.mono ?_
  rintro e w3 ⟨rfl, rfl⟩
  go_upto_region 5 with fail
  have HV : Hid ((w2.alloc (.cells #[.int .i64 4, .int .i64 0, .float .f64 0, .string ⟨#[]⟩, .slice none 0 0] 26)).heap[w2.heap.size]? = some (.cells #[.int .i64 4, .int .i64 0, .float .f64 0, .string ⟨#[]⟩, .slice none 0 0] 26 (0, 0))) := heap_alloc_new _ _
  have HX3 : Hid ((w2.alloc (.cells #[.int .i64 4, .int .i64 0, .float .f64 0, .string ⟨#[]⟩, .slice none 0 0] 26)).heap[w.heap.size]? = some (.cells #[.int .i64 0, .int .i64 0, .float .f64 0, .string ⟨#[]⟩, .slice none 0 0] 26 (0, 0))) := (Below.heap_alloc _ _ _ (lt_of_heap HX2.out)).trans HX2.out
  have HD3 := Lib.hid (HD2.out.later ((Below.refl _ w2).alloc (Nat.le_refl _) (.cells #[.int .i64 4, .int .i64 0, .float .f64 0, .string ⟨#[]⟩, .slice none 0 0] 26)))
  have HC3 : Hid (Chg (fun k => k = R) w (w2.alloc (.cells #[.int .i64 4, .int .i64 0, .float .f64 0, .string ⟨#[]⟩, .slice none 0 0] 26))) := HC2.out.alloc _
  have hw2 := lt_of_heap HX2.out
  obtain ⟨B, hB⟩ : ∃ B, B = w2.heap.size := ⟨_, rfl⟩
  have hsz3 : (w2.alloc (.cells #[.int .i64 4, .int .i64 0, .float .f64 0, .string ⟨#[]⟩, .slice none 0 0] 26)).heap.size = B + 1 := by simp [hB]
  rw [← hB] at HV hw2 ⊢
  clear hB
  generalize (w2.alloc (.cells #[.int .i64 4, .int .i64 0, .float .f64 0, .string ⟨#[]⟩, .slice none 0 0] 26)) = w3 at *
  obtain ⟨x0, x1, x2, x3, x4⟩ := cells5 HV.out
  go_wp2_with fail
  refine (of_any 4 _).mono ?_
  rintro e w4 ⟨rfl, rfl⟩
  rw [HK.out]
  clear x0 x1 x2 x3 x4 HOK HU1
  go_wp2_with fail
  refine (HU2.out _ HD3.out).mono ?_
  rintro e w4 ⟨rfl, h3, h4⟩
  have HD4 := Lib.hid h3
  have HC4 : Hid (Chg (fun k => k = R) w w4) := HC3.out.trans h4 (fun n hn => .inl hn)
  have HX4 := Lib.hid (h4.heap HX3.out (by omega))
  have HV4 := Lib.hid (h4.heap HV.out (by omega))
  have HS4 : Hid (B + 1 ≤ w4.heap.size) := by have := h4.size; rw [Hid]; omega
  clear h3 h4 HU HU2
  go_wp2_with fail
  go_loopw [8, 13] (fun ok i w' => ∃ (m : Nat) (acc : List VT) (vs : List VV) (col : Nat → Nat) (a : Option Addr) (c : Nat), m ≤ l.length ∧ ok = .bool true ∧ i = .int .u64 m ∧ Hid (acc = canonL (l.take m)) ∧ Hid (acc.length = m) ∧ Hid (Rdr w' R (formsT (l.drop m) ++ rest)) ∧
      Hid (w'.heap[w.heap.size]? = some (.cells #[.int .i64 0, .int .i64 0, .float .f64 0, .string ⟨#[]⟩, .slice none 0 0] 26 (0, 0))) ∧ Hid (w'.heap[B]? = some (.cells #[.int .i64 4, .int .i64 0, .float .f64 0, .string ⟨#[]⟩, .slice a acc.length c] 26 (0, 0))) ∧ Hid (Cl w' (B + 1) (.slice a acc.length c) acc vs col) ∧ Hid (Chg (fun k => k = R) w w') ∧ Hid (B + 1 ≤ w'.heap.size)) (fun _ i _ => l.length - (RowKit.intOf i).toNat)
  case atStart => exact ⟨0, [], [], fun _ => 0, none, 0, Nat.zero_le _, rfl, rfl, by rw [Hid, List.take_zero, canonL], rfl, HD4.out, HX4.out, HV4.out, Cl.nil _ _, HC4.out, HS4.out⟩
  case round =>
    obtain ⟨m, acc, vs, col, a, c, hm, rfl, rfl, HA, HAL, HD, HXr, HVr, HCL, HCr, HSr⟩ := hrel
    by_cases hlt : m < l.length
    · have hin := List.getElem_mem hlt
      have hdr : formsT (l.drop m) = formT l[m] ++ formsT (l.drop (m + 1)) := by rw [List.drop_eq_getElem_cons hlt, formsT]
      have hle2 : (formT l[m]).length + (formsT (l.drop (m + 1))).length ≤ (formsT l).length := by
        have e : formsT l = formsT (l.take m) ++ formsT (l.drop m) := by rw [← formsT_append, List.take_append_drop]
        rw [e, hdr, List.length_append, List.length_append]; omega
      have HRC : Hid (∀ W, Rdr W R (formT l[m] ++ (formsT (l.drop (m + 1)) ++ rest)) → Calls Tryz.prog 50 #[.pointer (some ⟨R, 0, none⟩), .int .i64 (left - 1)] W (ReadPost W R (canonT l[m]) (formsT (l.drop (m + 1)) ++ rest))) :=
        fun W hW => HI.out l[m] hin R (formsT (l.drop (m + 1)) ++ rest) W (by have := HLR.out; rw [List.length_append]; omega) hW
      have HDm : Hid (Rdr wr R (formT l[m] ++ (formsT (l.drop (m + 1)) ++ rest))) := by rw [Hid, ← List.append_assoc, ← hdr]; exact HD.out
      have HTK : Hid (acc ++ [canonT l[m]] = canonL (l.take (m + 1))) := by rw [Hid, HA.out, canonL_map, canonL_map, List.take_succ_eq_append_getElem hlt, List.map_append]; rfl
      generalize canonT l[m] = t at *
      obtain ⟨rem, hrem⟩ : ∃ rem, rem = formsT (l.drop (m + 1)) ++ rest := ⟨_, rfl⟩
      rw [← hrem] at HRC HDm
      have HREM := Lib.hid hrem
      clear hrem
      have hmi : (m : Int) < (l.length : Int) := by omega
      clear hin hdr hle2 HA HD
      have HB0 : Below wr.heap.size wr (wr.alloc (.cells #[.int .i64 0, .int .i64 0, .float .f64 0, .string ⟨#[]⟩, .slice none 0 0] 26)) := (Below.refl _ _).alloc (Nat.le_refl _) _
      have HRx := Lib.hid (HRC.out _ (HDm.out.later HB0))
      have HXx : Hid ((wr.alloc (.cells #[.int .i64 0, .int .i64 0, .float .f64 0, .string ⟨#[]⟩, .slice none 0 0] 26)).heap[wr.heap.size]? = some (.cells #[.int .i64 0, .int .i64 0, .float .f64 0, .string ⟨#[]⟩, .slice none 0 0] 26 (0, 0))) := heap_alloc_new _ _
      have hRr : R < wr.heap.size := HDm.out.lt
      have hsx : (wr.alloc (.cells #[.int .i64 0, .int .i64 0, .float .f64 0, .string ⟨#[]⟩, .slice none 0 0] 26)).heap.size = wr.heap.size + 1 := by simp
      go_upto_region 25 with fail
      obtain ⟨wx, hwx⟩ : ∃ wx, wx = (wr.alloc (.cells #[.int .i64 0, .int .i64 0, .float .f64 0, .string ⟨#[]⟩, .slice none 0 0] 26)) := ⟨_, rfl⟩
      rw [← hwx] at HB0 HRx HXx hsx ⊢
      clear hwx
      go_wp2_with fail
      refine HRx.out.mono ?_
      rintro e w5 ⟨⟨v, rfl, hv⟩, h3, h4⟩
      dsimp only at hv ⊢
      have hxR : wr.heap.size ≠ R := by omega
      have HX1 := h4.heap HXx hxR
      have hc0 := cellAt HX1 0 (v := .int .i64 0) rfl
      have hc1 := cellAt HX1 1 (v := .int .i64 0) rfl
      have hc2 := cellAt HX1 2 (v := .float .f64 0) rfl
      have hc3 := cellAt HX1 3 (v := .string ⟨#[]⟩) rfl
      have hc4 := cellAt HX1 4 (v := .slice none 0 0) rfl
      have hf0 := freeAt HX1 0
      have hf1 := freeAt HX1 1
      have hf2 := freeAt HX1 2
      have hf3 := freeAt HX1 3
      have hf4 := freeAt HX1 4
      have hBw := lt_of_heap HVr.out
      have h0w := lt_of_heap HXr.out
      have HC6 : Hid (Chg (fun k => k = R) wr (((((w5.setCell ⟨wr.heap.size, 0, none⟩ (.int .i64 v.k)).setCell ⟨wr.heap.size, 1, none⟩ (.int .i64 v.n)).setCell ⟨wr.heap.size, 2, none⟩ (.float .f64 v.f)).setCell ⟨wr.heap.size, 3, none⟩ (.string v.s)).setCell ⟨wr.heap.size, 4, none⟩ (.slice v.a v.l v.c))) :=
        ((((((Chg.ofBelow HB0).trans h4 (fun n hn => .inl hn)).setCell (p := ⟨wr.heap.size, 0, none⟩) (.inr (Nat.le_refl _)) _).setCell (p := ⟨wr.heap.size, 1, none⟩) (.inr (Nat.le_refl _)) _).setCell (p := ⟨wr.heap.size, 2, none⟩) (.inr (Nat.le_refl _)) _).setCell (p := ⟨wr.heap.size, 3, none⟩) (.inr (Nat.le_refl _)) _).setCell (p := ⟨wr.heap.size, 4, none⟩) (.inr (Nat.le_refl _)) _
      have HXv := Lib.hid (set5 HX1 rfl (.int .i64 v.k) (.int .i64 v.n) (.float .f64 v.f) (.string v.s) (.slice v.a v.l v.c))
      have hoth : ∀ k, k ≠ wr.heap.size → ((((((w5.setCell ⟨wr.heap.size, 0, none⟩ (.int .i64 v.k)).setCell ⟨wr.heap.size, 1, none⟩ (.int .i64 v.n)).setCell ⟨wr.heap.size, 2, none⟩ (.float .f64 v.f)).setCell ⟨wr.heap.size, 3, none⟩ (.string v.s)).setCell ⟨wr.heap.size, 4, none⟩ (.slice v.a v.l v.c))).heap[k]? = w5.heap[k]? := fun k hk => setCells_other wr.heap.size v.cells 0 w5 k hk
      have hszs : ((((((w5.setCell ⟨wr.heap.size, 0, none⟩ (.int .i64 v.k)).setCell ⟨wr.heap.size, 1, none⟩ (.int .i64 v.n)).setCell ⟨wr.heap.size, 2, none⟩ (.float .f64 v.f)).setCell ⟨wr.heap.size, 3, none⟩ (.string v.s)).setCell ⟨wr.heap.size, 4, none⟩ (.slice v.a v.l v.c))).heap.size = w5.heap.size := setCells_size wr.heap.size v.cells 0 w5
      have HU6 : Hid (TOwn ((((((w5.setCell ⟨wr.heap.size, 0, none⟩ (.int .i64 v.k)).setCell ⟨wr.heap.size, 1, none⟩ (.int .i64 v.n)).setCell ⟨wr.heap.size, 2, none⟩ (.float .f64 v.f)).setCell ⟨wr.heap.size, 3, none⟩ (.string v.s)).setCell ⟨wr.heap.size, 4, none⟩ (.slice v.a v.l v.c))) t v (fun b => wr.heap.size ≤ b ∧ b < ((((((w5.setCell ⟨wr.heap.size, 0, none⟩ (.int .i64 v.k)).setCell ⟨wr.heap.size, 1, none⟩ (.int .i64 v.n)).setCell ⟨wr.heap.size, 2, none⟩ (.float .f64 v.f)).setCell ⟨wr.heap.size, 3, none⟩ (.string v.s)).setCell ⟨wr.heap.size, 4, none⟩ (.slice v.a v.l v.c))).heap.size)) :=
        (hv.frame _ (fun k hk _ => hoth k (by have := hk.1; omega))).mono _ (fun b hb => ⟨by have := hb.1; omega, by rw [hszs]; exact hb.2⟩)
      have HD6 : Hid (Rdr ((((((w5.setCell ⟨wr.heap.size, 0, none⟩ (.int .i64 v.k)).setCell ⟨wr.heap.size, 1, none⟩ (.int .i64 v.n)).setCell ⟨wr.heap.size, 2, none⟩ (.float .f64 v.f)).setCell ⟨wr.heap.size, 3, none⟩ (.string v.s)).setCell ⟨wr.heap.size, 4, none⟩ (.slice v.a v.l v.c))) R rem) := h3.chg (S := fun k => k = wr.heap.size) (((((((Chg.refl (fun k => k = wr.heap.size) w5).setCell (p := ⟨wr.heap.size, 0, none⟩) (.inl rfl) _).setCell (p := ⟨wr.heap.size, 1, none⟩) (.inl rfl) _).setCell (p := ⟨wr.heap.size, 2, none⟩) (.inl rfl) _).setCell (p := ⟨wr.heap.size, 3, none⟩) (.inl rfl) _).setCell (p := ⟨wr.heap.size, 4, none⟩) (.inl rfl) _)) (fun k hk e => by omega)
      clear hoth hszs hv h3 h4 HX1
      go_upto_region 26 with fail
      clear hc0 hc1 hc2 hc3 hc4 hf0 hf1 hf2 hf3 hf4
      generalize (((((w5.setCell ⟨wr.heap.size, 0, none⟩ (.int .i64 v.k)).setCell ⟨wr.heap.size, 1, none⟩ (.int .i64 v.n)).setCell ⟨wr.heap.size, 2, none⟩ (.float .f64 v.f)).setCell ⟨wr.heap.size, 3, none⟩ (.string v.s)).setCell ⟨wr.heap.size, 4, none⟩ (.slice v.a v.l v.c)) = w6 at *
      have HX6 := Lib.hid (HC6.out.heap HXr.out (by omega))
      have HV6 := Lib.hid (HC6.out.heap HVr.out (by omega))
      obtain ⟨x0, x1, x2, x3, x4⟩ := cells5 HXv.out
      have hn4 := cellAt HV6.out 4 (v := .slice a acc.length c) rfl
      have hs6 := HC6.out.size
      have hwB : w.heap.size < B + 1 := by omega
      have HR2 := Lib.hid (HCL.out.1.frame (fun k hk hl => HC6.out.block k hl (by have := hk.1.1; omega)))
      have hal : acc.length ≤ 1000000 := by rw [HAL.out]; omega
      go_upto_region 23 with (refine wpList_row elemVal rfl rfl (S := fun b => (B + 1 ≤ b ∧ b < wr.heap.size) ∧ col b = 0) (v := .slice a acc.length c) (n := acc.length) (xs := flat vs) rfl (HR2.out.frame (fun k _ hk => Below.heap_alloc _ _ _ hk)) (y := .slice (some ⟨w6.heap.size, 0, none⟩) 1 1) (m := 1) (news := v.cells) rfl (Reads.block (heap_alloc_new w6 _) 1 5 rfl) (VV.one v) (by unfold maxLen; omega) (by omega) ?_
                              intro v5 w7 hr5 hch5
                              obtain ⟨a5, c5, rfl⟩ : ∃ a5 c5, v5 = .slice a5 (acc.length + 1) c5 := (by obtain ⟨-, a5, c5, h, -⟩ := hr5.reads; exact ⟨a5, c5, h⟩)
                              have HR5 := Lib.hid hr5
                              have HCH5 := Lib.hid hch5
                              have HV5 := Lib.hid (hch5.heap ((Below.heap_alloc _ _ _ (lt_of_heap HV6.out)).trans HV6.out) (by omega))
                              have HX5 := Lib.hid (hch5.heap ((Below.heap_alloc _ _ _ (lt_of_heap HX6.out)).trans HX6.out) (by omega))
                              have hf5 := freeAt HV5.out 4
                              have hn5 := cellAt HV5.out 4 (v := .slice a acc.length c) rfl
                              clear hr5 hch5)
      obtain ⟨w0, hs0, hcl0, hb0⟩ := HCL.out.across (R := R) (by omega) HSr.out HC6.out
      have HR5' := HR5.out
      have HCH5' := HCH5.out
      have HU6' := HU6.out
      rw [← hs0] at HR5' HCH5' HU6'
      have HCL7 : Hid (Cl w7 (B + 1) (.slice a5 (acc.length + 1) c5) (acc ++ [t]) (vs ++ [v]) (fun b => if b < w0.heap.size then col b else if b < w6.heap.size then acc.length + 1 else 0)) :=
        hcl0.step (w1 := w6) (by rw [hs0]; exact HSr.out) HU6' hb0 ((Below.refl _ _).alloc (Nat.le_refl _) _) (HR5'.mono (fun b hb => hb.imp_right (fun h => Nat.le_of_succ_le (by simpa only [World.size_alloc] using h)))) HCH5'
      have HC7 : Hid (Chg (fun k => k = R) w w7) := (((HCr.out.trans HC6.out (fun n hn => .inl hn)).alloc _)).trans HCH5.out (fun n hn => .inr (by have := hn.1.1; omega))
      have HD7 : Hid (Rdr w7 R rem) := (HD6.out.later ((Below.refl _ w6).alloc (Nat.le_refl _) _)).chg HCH5.out (fun k hk hS => by have := hS.1.1; omega)
      have hBne : w.heap.size ≠ B := by omega
      have HV8 := Lib.hid (heap_store HV5.out 4 (.slice a5 (acc.length + 1) c5))
      have HX8 := Lib.hid ((Below.heap_setCell w7 ⟨B, 4, none⟩ (.slice a5 (acc.length + 1) c5) _ hBne).trans HX5.out)
      have HCL8 := Lib.hid (HCL7.out.stored (p := ⟨B, 4, none⟩) (u := .slice a5 (acc.length + 1) c5) (Nat.lt_succ_self _))
      have HC8 := Lib.hid (HC7.out.setCell (p := ⟨B, 4, none⟩) (.inr (by show w.heap.size ≤ B; omega)) (.slice a5 (acc.length + 1) c5))
      have HD8 := Lib.hid (HD7.out.store (p := ⟨B, 4, none⟩) HV5.out (by show R < B; omega) (.slice a5 (acc.length + 1) c5))
      have HS8 : Hid (B + 1 ≤ (w7.setCell ⟨B, 4, none⟩ (.slice a5 (acc.length + 1) c5)).heap.size) := lt_of_heap HV8.out
      clear HR5' HCH5' HU6' hcl0 hb0 HV5 HX5 hf5 hn5 HCL7 HC7 HD7 HCH5 HR5 HR2 hn4 x0 x1 x2 x3 x4 HC6 HU6 HD6 HX6 HV6 HXv
      generalize (w7.setCell ⟨B, 4, none⟩ (.slice a5 (acc.length + 1) c5)) = w8 at *
      obtain ⟨ac2, hac2⟩ : ∃ ac2, ac2 = acc ++ [t] := ⟨_, rfl⟩
      have hlen2 : ac2.length = acc.length + 1 := by rw [hac2]; simp
      rw [← hlen2] at HV8 HCL8
      rw [← hac2] at HCL8 HTK
      have HL2 : Hid (ac2.length = m + 1) := by rw [Hid, hlen2, HAL.out]
      obtain ⟨col2, hcol2⟩ : ∃ col2 : Nat → Nat, col2 = (fun b => if b < w0.heap.size then col b else if b < w6.heap.size then ac2.length else 0) := ⟨_, rfl⟩
      rw [← hcol2] at HCL8
      clear hac2 hlen2 hcol2
      go_wp2_with fail
      go_roundw
      case rel => exact ⟨m + 1, ac2, vs ++ [v], col2, a5, c5, by omega, rfl, by go_num, HTK.out, HL2.out, by rw [← HREM.out]; exact HD8.out, HX8.out, HV8.out, HCL8.out, HC8.out, HS8.out⟩
      case measure => simp [RowKit.intOf]; omega
    · obtain rfl : m = l.length := by omega
      rw [List.take_length] at HA
      have hd0 : formsT (l.drop l.length) ++ rest = rest := by rw [List.drop_length, formsT, List.nil_append]
      rw [hd0] at HD
      have HOK5 := Lib.hid (bok_any R _ wr HD.out)
      have hmn : ¬ ((l.length : Int) < (l.length : Int)) := by omega
      have HAM : Hid (acc.length ≤ maxLen) := by rw [Hid, HAL.out]; unfold maxLen; omega
      go_wp2_with fail
      refine HOK5.out.mono ?_
      rintro e w6 ⟨rfl, rfl⟩
      obtain ⟨y0, y1, y2, y3, y4⟩ := cells5 HVr.out
      have hc0 := cellAt HXr.out 0 (v := .int .i64 0) rfl
      have hc1 := cellAt HXr.out 1 (v := .int .i64 0) rfl
      have hc2 := cellAt HXr.out 2 (v := .float .f64 0) rfl
      have hc3 := cellAt HXr.out 3 (v := .string ⟨#[]⟩) rfl
      have hc4 := cellAt HXr.out 4 (v := .slice none 0 0) rfl
      have hf0 := freeAt HXr.out 0
      have hf1 := freeAt HXr.out 1
      have hf2 := freeAt HXr.out 2
      have hf3 := freeAt HXr.out 3
      have hf4 := freeAt HXr.out 4
      go_wp2_with fail
      have ho := ((Cl.own (kk := 4) (nn := 0) (f := 0) (s := ⟨#[]⟩) HCL.out HAM.out).mono _ (fun b hb => (⟨by have := hb.1; omega, hb.2⟩ : w.heap.size + 1 ≤ b ∧ b < wr.heap.size)))
      rw [← HA.out]
      refine read_post (v := ⟨4, 0, 0, ⟨#[]⟩, a, acc.length, c⟩) HXr.out HCr.out hRl HD.out ho ?_ ?_ ?_ <;> rfl
end Go.Proofs.YtpijpeocdlnhiaaGreatDoor
namespace Go.Proofs.YtpijpeocdlnhiaaGreatDoor
set_option linter.unusedVariables false
set_option linter.unusedSimpArgs false
open Go.RowKit

theorem vread_all (t : VT) : ∀ (left : Int), left ≤ 8 → 0 ≤ left → goodT left t = true → wfT t → ReadC left t := by
  induction t using VT.ind with
  | _ k n f s l ih =>
    intro left hl8 hl0 hg hw R rest w hlen h
    rw [goodT, Bool.and_eq_true] at hg
    obtain ⟨hh, hgl⟩ := hg
    rw [wfT] at hw
    obtain ⟨-, hn, hf, hs, hwl⟩ := hw
    by_cases hk : k = 4
    · obtain ⟨rfl, hf0, rfl, h0⟩ := list_of hh hk
      subst hk
      have ht : formT (.node 4 0 f ⟨#[]⟩ l) = uintL 4 ++ (uintL l.length ++ formsT l) := by rw [formT, if_pos rfl]; rfl
      have hc : canonT (.node 4 0 f ⟨#[]⟩ l) = .node 4 0 0 ⟨#[]⟩ (canonL l) := by rw [canonT, hf0]
      rw [ht, List.append_assoc, List.append_assoc] at h
      rw [ht, List.length_append, List.length_append] at hlen
      rw [hc]
      have h1 := formsT_ge l
      exact vread_4 left ⟨by omega, hl8⟩ l (by omega) (fun t ht => ih t ht (left - 1) (by omega) (by omega) ((goodL_iff _ _).1 hgl t ht) ((wfL_iff l).1 hwl t ht)) R rest (by omega) w h
    · obtain ⟨hkk, h1, h2, h3, h4⟩ := atom_of hh hk
      subst h4
      rcases hkk with rfl | rfl | rfl | rfl
      · obtain rfl := h1.resolve_left (by decide)
        have h2 := h2.resolve_left (by decide)
        obtain rfl := h3.resolve_left (by decide)
        have ht : formT (.node 0 0 f ⟨#[]⟩ []) = uintL 0 := by rw [formT, if_neg (by decide)]; exact List.append_nil _
        rw [ht] at h hlen
        rw [canonT, h2, canonL]
        exact vread_0 left R rest (by omega) w h
      · have h2 := h2.resolve_left (by decide)
        obtain rfl := h3.resolve_left (by decide)
        have ht : formT (.node 1 n f ⟨#[]⟩ []) = uintL 1 ++ uintL (zz n) := by rw [formT, if_neg (by decide)]; rfl
        rw [ht, List.append_assoc] at h
        rw [canonT, h2, canonL]
        exact vread_1 left n hn R rest (by omega) w h
      · obtain rfl := h1.resolve_left (by decide)
        obtain rfl := h3.resolve_left (by decide)
        have ht : formT (.node 2 0 f ⟨#[]⟩ []) = uintL 2 ++ beN (canonB f) 8 := by rw [formT, if_neg (by decide)]; rfl
        rw [ht, List.append_assoc] at h
        rw [canonT, canonL]
        exact vread_2 left f hf R rest (by omega) w h
      · obtain rfl := h1.resolve_left (by decide)
        have h2 := h2.resolve_left (by decide)
        have ht : formT (.node 3 0 f s []) = uintL 3 ++ (uintL s.size ++ s.data.toList) := by rw [formT, if_neg (by decide)]; rfl
        rw [ht, List.append_assoc, List.append_assoc] at h
        rw [ht, List.length_append, List.length_append, bsize] at hlen
        rw [canonT, h2, canonL]
        exact vread_3 left s (by omega) R rest (by omega) w h
set_option maxRecDepth 100000 in
theorem read_postG {f : Func} {p u : Tmp} (hf : f.results = #[.cell p 26, .tmp u]) {w wr : World} {R : Nat} {rest : List UInt8} {t : VT} {v : VV} {ac : Act} (hN : wr.heap[w.heap.size]? = some (.cells #[.int .i64 0, .int .i64 0, .float .f64 0, .string ⟨#[]⟩, .slice none 0 0] 26 (0, 0)))
    (hC : Chg (fun k => k = R) w wr) (hRl : R < w.heap.size) (hR : Rdr wr R rest) (hT : TOwn wr t v (fun b => w.heap.size + 1 ≤ b ∧ b < wr.heap.size)) (h4 : ac.tmps.getD p undef = .pointer (some ⟨w.heap.size, 0, none⟩)) (h5 : ac.tmps.getD u undef = .bool true) (hd : ac.defers = []) :
    bodyPost Tryz.prog f (ReadPost w R t rest) .ret ac (((((wr.setCell ⟨w.heap.size, 0, none⟩ (.int .i64 v.k)).setCell ⟨w.heap.size, 1, none⟩ (.int .i64 v.n)).setCell ⟨w.heap.size, 2, none⟩ (.float .f64 v.f)).setCell ⟨w.heap.size, 3, none⟩ (.string v.s)).setCell ⟨w.heap.size, 4, none⟩ (.slice v.a v.l v.c)) := by
  have hr := results_row_tmp (P := Tryz.prog) (fn := f) (u := u) hf ac.tmps _ w.heap.size 26 _ (0, 0) _ h4 (set5 hN rfl (.int .i64 v.k) (.int .i64 v.n) (.float .f64 v.f) (.string v.s) (.slice v.a v.l v.c)) Tryz.underlying26 rfl rfl
  rw [h5] at hr
  refine bodyPost_ret hr hd ?_
  have hl : w.heap.size < w.heap.size + 1 := Nat.lt_succ_self _
  have hne : R < w.heap.size := hRl
  have hszs : (((((wr.setCell ⟨w.heap.size, 0, none⟩ (.int .i64 v.k)).setCell ⟨w.heap.size, 1, none⟩ (.int .i64 v.n)).setCell ⟨w.heap.size, 2, none⟩ (.float .f64 v.f)).setCell ⟨w.heap.size, 3, none⟩ (.string v.s)).setCell ⟨w.heap.size, 4, none⟩ (.slice v.a v.l v.c)).heap.size = wr.heap.size := setCells_size w.heap.size v.cells 0 wr
  have hr1 := hR.store (p := ⟨w.heap.size, 0, none⟩) hN hne (.int .i64 v.k)
  have n1 := heap_store hN 0 (.int .i64 v.k)
  have hr2 := hr1.store (p := ⟨w.heap.size, 1, none⟩) n1 hne (.int .i64 v.n)
  have n2 := heap_store n1 1 (.int .i64 v.n)
  have hr3 := hr2.store (p := ⟨w.heap.size, 2, none⟩) n2 hne (.float .f64 v.f)
  have n3 := heap_store n2 2 (.float .f64 v.f)
  have hr4 := hr3.store (p := ⟨w.heap.size, 3, none⟩) n3 hne (.string v.s)
  have n4 := heap_store n3 3 (.string v.s)
  have hr5 := hr4.store (p := ⟨w.heap.size, 4, none⟩) n4 hne (.slice v.a v.l v.c)
  refine ⟨⟨v, rfl, ?_⟩, hr5, ((((hC.setCell (.inr (Nat.le_refl _)) _).setCell (.inr (Nat.le_refl _)) _).setCell (.inr (Nat.le_refl _)) _).setCell (.inr (Nat.le_refl _)) _).setCell (.inr (Nat.le_refl _)) _⟩
  exact (TOwn.setCell (TOwn.setCell (TOwn.setCell (TOwn.setCell (TOwn.setCell hT hl) hl) hl) hl) hl).mono _ (fun b hb => ⟨by omega, by rw [hszs]; exact hb.2⟩)

set_option maxRecDepth 100000 in
set_option maxHeartbeats 1000000 in
theorem vreadTop_any (t : VT) (hg : goodT 8 t = true) (hw : wfT t) (R : Nat) (w : World) (hlen : (formT t).length ≤ 80000) (h : Rdr w R (formT t)) :
    Calls Tryz.prog 23 #[.pointer (some ⟨R, 0, none⟩)] w (ReadPost w R (canonT t) []) := by
  have HX : Hid ((w.alloc (.cells #[.int .i64 0, .int .i64 0, .float .f64 0, .string ⟨#[]⟩, .slice none 0 0] 26)).heap[w.heap.size]? = some (.cells #[.int .i64 0, .int .i64 0, .float .f64 0, .string ⟨#[]⟩, .slice none 0 0] 26 (0, 0))) := heap_alloc_new _ _
  have HBx : Hid (Below w.heap.size w (w.alloc (.cells #[.int .i64 0, .int .i64 0, .float .f64 0, .string ⟨#[]⟩, .slice none 0 0] 26))) := (Below.refl _ _).alloc (Nat.le_refl _) _
  have hsx : (w.alloc (.cells #[.int .i64 0, .int .i64 0, .float .f64 0, .string ⟨#[]⟩, .slice none 0 0] 26)).heap.size = w.heap.size + 1 := by simp
  have hRl : R < w.heap.size := h.lt
  have HC := Lib.hid (vread_all t 8 (by omega) (by omega) hg hw R [] (w.alloc (.cells #[.int .i64 0, .int .i64 0, .float .f64 0, .string ⟨#[]⟩, .slice none 0 0] 26)) (by simpa using hlen) (by rw [List.append_nil]; exact h.later HBx.out))
  clear h
  generalize canonT t = u at *
  go_enter Tryz.func23, Tryz.ntmps23
  go_upto_region 1 with fail
  generalize (w.alloc (.cells #[.int .i64 0, .int .i64 0, .float .f64 0, .string ⟨#[]⟩, .slice none 0 0] 26)) = wd at *
  go_wp2_with fail
  refine HC.out.mono ?_
  rintro e w3 ⟨⟨v, rfl, hv⟩, h3, h4⟩
  have HX3 := Lib.hid (h4.heap HX.out (by omega))
  have HC3 : Hid (Chg (fun k => k = R) w w3) := (Chg.ofBelow HBx.out).trans h4 (fun n hn => .inl hn)
  have HU3 : Hid (TOwn w3 u v (fun b => w.heap.size + 1 ≤ b ∧ b < w3.heap.size)) := hv.mono _ (fun b hb => ⟨by have := hb.1; omega, hb.2⟩)
  have HD3 := Lib.hid h3
  clear hv h3 h4
  have hc0 := cellAt HX3.out 0 (v := .int .i64 0) rfl
  have hc1 := cellAt HX3.out 1 (v := .int .i64 0) rfl
  have hc2 := cellAt HX3.out 2 (v := .float .f64 0) rfl
  have hc3 := cellAt HX3.out 3 (v := .string ⟨#[]⟩) rfl
  have hc4 := cellAt HX3.out 4 (v := .slice none 0 0) rfl
  have hf0 := freeAt HX3.out 0
  have hf1 := freeAt HX3.out 1
  have hf2 := freeAt HX3.out 2
  have hf3 := freeAt HX3.out 3
  have hf4 := freeAt HX3.out 4
  go_wp2_with fail
  refine read_postG (f := Tryz.f23) (p := 2) (u := 3) rfl (v := v) HX3.out HC3.out hRl HD3.out HU3.out ?_ ?_ ?_ <;> rfl
end Go.Proofs.YtpijpeocdlnhiaaGreatDoor
