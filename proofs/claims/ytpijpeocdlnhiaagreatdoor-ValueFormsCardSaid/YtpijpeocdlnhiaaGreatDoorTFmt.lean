/- strconv.FormatUint at base 16. -/
import Derived.Test.YtpijpeocdlnhiaaGreatDoorTPlainA
import Derived.Test.YtpijpeocdlnhiaaGreatDoorHeap
import Derived.Test.YtpijpeocdlnhiaaGreatDoorPText
namespace Go.Proofs.YtpijpeocdlnhiaaGreatDoor
set_option linter.unusedVariables false
set_option linter.unusedSimpArgs false
open Go.RowKit

/-- The last j hexadecimal digits of a number. -/
def hexTail (u : Nat) : Nat → List UInt8
  | 0 => []
  | j + 1 => dig (u / 16 ^ j % 16) :: hexTail u j
theorem hexTail_length (u : Nat) : ∀ j, (hexTail u j).length = j
  | 0 => rfl
  | j + 1 => by rw [hexTail, List.length_cons, hexTail_length u j]
theorem hexTail_zero {u j : Nat} (h : u < 16 ^ j) : ∀ m, hexTail u (j + m) = List.replicate m 48 ++ hexTail u j
  | 0 => rfl
  | m + 1 => by
    have h2 : u / 16 ^ (j + m) = 0 := Nat.div_eq_of_lt (Nat.lt_of_lt_of_le h (Nat.pow_le_pow_right (by decide) (by omega)))
    rw [show j + (m + 1) = (j + m) + 1 by omega, hexTail, h2, hexTail_zero h m, List.replicate_succ]
    rfl
theorem hexTail_16 (u : Nat) : hexTail u 16 = hex16 u := by
  unfold hex16
  simp only [hexTail, List.range_succ, List.range_zero, List.nil_append, List.map_append, List.map_cons, List.map_nil, List.singleton_append, List.cons_append]
theorem hex16_of_tail {u j : Nat} (h : u < 16 ^ j) (hj : j ≤ 16) : List.replicate (16 - j) 48 ++ hexTail u j = hex16 u := by
  rw [← hexTail_16, ← hexTail_zero h (16 - j)]
  congr 1; omega

set_option maxRecDepth 100000 in
set_option maxHeartbeats 4000000 in
theorem tz64_any (w : World) (h : w.cell? ⟨9, 15, none⟩ = some (.int .u8 4)) :
    Calls Tryz.prog 190 #[.int .u64 16] w fun e w' => e = .returned (.int .i64 4) ∧ w = w' := by
  have hb : IntKind.u64.wrap (bits BinOp.and IntKind.u64 16 (IntKind.u64.wrap (-16)) * 285870213051353865) / 288230376151711744 = 15 := by decide +kernel
  go_enter Tryz.func190, Tryz.ntmps190
  go_wp2
  go_ret
  exact ⟨rfl, rfl⟩
set_option maxRecDepth 100000 in
set_option maxHeartbeats 4000000 in
theorem tz_any (w : World) (h : w.cell? ⟨9, 15, none⟩ = some (.int .u8 4)) :
    Calls Tryz.prog 175 #[.int .u64 16] w fun e w' => e = .returned (.int .i64 4) ∧ w = w' := by
  go_enter Tryz.func175, Tryz.ntmps175
  go_wp2_with fail
  refine (tz64_any _ h).mono ?_
  rintro e w1 ⟨rfl, rfl⟩
  go_wp2
  go_ret
  exact ⟨rfl, rfl⟩
set_option maxRecDepth 100000 in
set_option maxHeartbeats 4000000 in
theorem pow2_any (w : World) :
    Calls Tryz.prog 174 #[.int .i64 16] w fun e w' => e = .returned (.bool true) ∧ w = w' := by
  have hb : bits BinOp.and IntKind.i64 16 15 = 0 := by decide +kernel
  go_enter Tryz.func174, Tryz.ntmps174
  go_wp2
  go_ret
  exact ⟨rfl, rfl⟩

theorem and15 (n : Nat) (h : n < 18446744073709551616) : bits BinOp.and IntKind.u64 (n : Int) 15 = ((n % 16 : Nat) : Int) := by
  have h := u64_and_nat n 15 h (by decide)
  have e : n &&& 15 = n % 16 := Nat.and_two_pow_sub_one_eq_mod n 4
  rw [e] at h
  exact h
def digZ : ByteArray := ⟨#[48, 49, 50, 51, 52, 53, 54, 55, 56, 57, 97, 98, 99, 100, 101, 102, 103, 104, 105, 106, 107, 108, 109, 110, 111, 112, 113, 114, 115, 116, 117, 118, 119, 120, 121, 122]⟩
theorem digZ_all : ∀ n : Fin 16, digZ.data[n.val]? = some (dig n.val) := by decide +kernel
theorem digZ_at (n : Nat) (h16 : n < 16) (h : n < digZ.size) : digZ[n]'h = dig n := by
  have h1 := digZ_all ⟨n, h16⟩
  have h2 : n < digZ.data.size := h
  rw [Array.getElem?_eq_getElem h2] at h1
  exact Option.some.inj h1

theorem drop_set {α : Type} (l : List α) (i : Nat) (x : α) (h : i < l.length) : (l.set i x).drop i = x :: l.drop (i + 1) := by
  induction l generalizing i with
  | nil => simp at h
  | cons a l ih =>
    cases i with
    | zero => rfl
    | succ i => simpa using ih i (by simpa using h)
set_option maxRecDepth 100000 in
set_option maxHeartbeats 8000000 in
theorem fbits_any (u : Nat) (hu : u < 18446744073709551616) (w : World) (h : w.cell? ⟨9, 15, none⟩ = some (.int .u8 4)) :
    Calls Tryz.prog 146 #[.slice none 0 0, .int .u64 u, .int .i64 16, .bool false, .bool false] w fun e w' => (∃ j, 1 ≤ j ∧ j ≤ 16 ∧ u < 16 ^ j ∧ e = .returned (.tuple #[.slice none 0 0, .string ⟨(hexTail u j).toArray⟩])) ∧ Below w.heap.size w w' := by
  have hg : 9 < w.heap.size := World.block_lt_of_cell? w ⟨9, 15, none⟩ h
  have hZ : Tryz.zeroCells205.size = 65 := by kernel_rfl
  have HN : Hid ((w.alloc (.cells Tryz.zeroCells205 205)).heap[w.heap.size]? = some (.cells Tryz.zeroCells205 205 (0, 0))) := heap_alloc_new _ _
  have HB : Hid (Below w.heap.size w (w.alloc (.cells Tryz.zeroCells205 205))) := (Below.refl _ _).alloc (Nat.le_refl _) _
  have HT : Hid ((w.alloc (.cells Tryz.zeroCells205 205)).cell? ⟨9, 15, none⟩ = some (.int .u8 4)) := (HB.out.cell (p := ⟨9, 15, none⟩) hg).trans h
  clear h
  go_enter Tryz.func146, Tryz.ntmps146
  go_upto_region 7 with fail
  generalize Tryz.zeroCells205 = arr at *
  generalize w.alloc (.cells arr 205) = wa at *
  go_wp2_with (first
    | (go_at_call 174; refine (pow2_any _).mono ?_; rintro e w' ⟨rfl, rfl⟩)
    | (go_at_call 175; refine (tz_any _ HT.out).mono ?_; rintro e w' ⟨rfl, rfl⟩))
  have hpow : ∀ k : Nat, 0 < 16 ^ k := fun k => Nat.pow_pos (by decide)
  have HU16 : Hid (u < 16 ^ 16) := by rw [Hid]; exact hu
  go_loopw [1, 13] (fun vu vi w' => ∃ j v i : Nat, j ≤ 15 ∧ i + j = 65 ∧ vu = .int .u64 v ∧ vi = .int .i64 (i : Int) ∧ v < 18446744073709551616 ∧ Hid (v = u / 16 ^ j ∧ (j = 0 ∨ 0 < v)) ∧ Hid (∃ ar, ar.size = 65 ∧ w'.heap[w.heap.size]? = some (.cells ar 205 (0, 0)) ∧ ar.toList.drop i = u8s (hexTail u j)) ∧ Hid (Chg (fun k => k = w.heap.size) wa w')) (fun _ vi _ => (intOf vi).toNat)
  case atStart => exact ⟨0, u, 65, by omega, rfl, rfl, rfl, hu, ⟨by simp, .inl rfl⟩, ⟨arr, hZ, HN.out, by rw [List.drop_eq_nil_of_le (by simp [hZ])]; rfl⟩, Chg.refl _ _⟩
  case round =>
    obtain ⟨j, v, i, hj, hij, rfl, rfl, hv, HV, HA, HC⟩ := hrel
    obtain ⟨ar, har, hN, hdr⟩ := HA.out
    have HDR := Lib.hid hdr
    have HSZ := Lib.hid har
    have HBK := Lib.hid hN
    have hi1 : ((i : Int) - 1).toNat = i - 1 := by omega
    have hi65 : i - 1 < 65 := by omega
    have hf := freeAt HBK.out (i - 1)
    have hy := cellAt HBK.out (i - 1) (v := ar[i - 1]'(by omega)) (Array.getElem?_eq_getElem (by omega))
    have ha15 := and15 v hv
    have hm16 : v % 16 < 16 := Nat.mod_lt _ (by decide)
    have HBE : Hid (Below w.heap.size w wr) := HB.out.trans (HC.out.toBelow HB.out.size (fun n hn h => by omega))
    generalize ar[i - 1]'(by omega) = y at hy
    have hlo : 0 ≤ (i : Int) - 1 := by omega
    have hhi : (i : Int) - 1 < 65 := by omega
    have HIJ := Lib.hid hij
    clear HA hdr hN har hij
    by_cases hge : 16 ≤ v
    · have hj14 : j ≤ 14 := by
        rcases Nat.lt_or_ge j 15 with h | h
        · omega
        · exfalso
          have : j = 15 := by omega
          subst this
          have h1 := HV.out.1
          have h2 : u / 16 ^ 15 < 16 := Nat.div_lt_of_lt_mul (by have := HU16.out; omega)
          omega
      have hdz := digZ_at (v % 16) hm16
      unfold digZ at hdz
      have HVE : Hid (v / 16 = u / 16 ^ (j + 1)) := by rw [Hid, HV.out.1, Nat.pow_succ, Nat.div_div_eq_div_mul]
      have HVD : Hid (v % 16 = u / 16 ^ j % 16) := by rw [Hid, HV.out.1]
      go_wp2_with fail
      have hij := HIJ.out
      refine ⟨⟨j + 1, v / 16, i - 1, by omega, by omega, by go_num, by go_num, by omega, ⟨HVE.out, .inr (by omega)⟩, ⟨_, ?_, heap_store HBK.out _ _, ?_⟩, HC.out.setCell (.inl rfl) _⟩, by simp [intOf]; omega⟩
      · simp [HSZ.out]
      · rw [Array.toList_setIfInBounds, drop_set _ _ _ (by have := HSZ.out; simp; omega), show i - 1 + 1 = i by omega, HDR.out, hexTail, ← HVD.out]
        rfl
    · have hv16 : v < 16 := by omega
      have hdz := digZ_at v hv16
      unfold digZ at hdz
      have HVE : Hid (u < 16 ^ (j + 1)) := by
        have h1 := HV.out.1
        rw [Hid, Nat.pow_succ]
        have h2 := hpow j
        have h3 : u / 16 ^ j < 16 := by omega
        rw [Nat.div_lt_iff_lt_mul h2] at h3
        rwa [Nat.mul_comm] at h3
      have HVD : Hid (v = u / 16 ^ j % 16) := by have := HV.out.1; rw [Hid]; omega
      have hst := heap_store HBK.out (i - 1) (.int .u8 ((dig v).toNat : Int))
      have hcs : (ar.setIfInBounds (i - 1) (.int .u8 ((dig v).toNat : Int))).toList.drop (i - 1) = u8s (hexTail u (j + 1)) := by
        rw [Array.toList_setIfInBounds, drop_set _ _ _ (by have := HSZ.out; simp; omega), show i - 1 + 1 = i by omega, HDR.out, hexTail, ← HVD.out]
        rfl
      have hlen : (hexTail u (j + 1)).length = j + 1 := hexTail_length u (j + 1)
      have hcv := run_convert_bytes_back (P := Tryz.prog) (wr.setCell ⟨w.heap.size, i - 1, none⟩ (.int .u8 ((dig v).toNat : Int))) 33 9 5 ⟨w.heap.size, i - 1, none⟩ (j + 1) (hexTail u (j + 1)) Tryz.underlying33 Tryz.underlying5 Tryz.underlying9 (fun k hk => by
        rw [Addr.add_lit]
        refine cellAt hst (i - 1 + k) ?_
        have h2 := congrArg (fun l => l[k]?) hcs
        simp only [List.getElem?_drop] at h2
        rw [← Array.getElem?_toList, h2, u8s, List.getElem?_map, List.getElem?_eq_getElem hk]; rfl)
      rw [hlen] at hcv
      have hn65 : (65 : Int) - ((i : Int) - 1) = ((j + 1 : Nat) : Int) := by have := HIJ.out; omega
      have hn65' : 65 - (i - 1) = j + 1 := by have := HIJ.out; omega
      have HBF : Hid (Below w.heap.size w (wr.setCell ⟨w.heap.size, i - 1, none⟩ (.int .u8 ((dig v).toNat : Int)))) := HB.out.trans ((HC.out.setCell (.inl rfl) _).toBelow HB.out.size (fun n hn h => by omega))
      have HLEN := Lib.hid hlen
      have hsl : ∀ W, (Instr.sliceAt 205 (.pointer (some ⟨w.heap.size, 0, none⟩)) (some (.int .i64 ((i : Int) - 1))) none none).run Tryz.prog W = .ok (.slice (some ⟨w.heap.size, i - 1, none⟩) (j + 1) (j + 1)) W := fun W => by
        have hal : Tryz.prog.arrayLen 205 = 65 := by kernel_rfl
        have hsz : ∀ W, (sizeOf (Tryz.prog.elem 205)).run Tryz.prog W = .ok 1 W := fun _ => by kernel_rfl
        rw [run_sliceAt_array_l W 205 ⟨w.heap.size, 0, none⟩ (by kernel_rfl) .i64 ((i : Int) - 1) hlo (by rw [hal]; omega), hsz, hal, hi1]
        simp only [Result.andThen, slicedAt, Nat.mul_one]
        rw [if_neg (by omega), Addr.add_lit, Nat.zero_add, hn65']
      clear hst hcs hlen
      go_upto_region 30 with fail
      generalize wr.setCell ⟨w.heap.size, i - 1, none⟩ (.int .u8 ((dig v).toNat : Int)) = wf at *
      go_wp2
      go_ret2
      exact ⟨⟨j + 1, by omega, by omega, HVE.out, rfl⟩, HBF.out⟩

set_option maxRecDepth 100000 in
set_option maxHeartbeats 4000000 in
theorem fu16_any (u : Nat) (hu : u < 18446744073709551616) (w : World) (h : w.cell? ⟨9, 15, none⟩ = some (.int .u8 4)) :
    Calls Tryz.prog 162 #[.int .u64 u, .int .i64 16] w fun e w' => (∃ j, 1 ≤ j ∧ j ≤ 16 ∧ u < 16 ^ j ∧ e = .returned (.string ⟨(hexTail u j).toArray⟩)) ∧ Below w.heap.size w w' := by
  have HI : Hid (Calls Tryz.prog 184 #[.int .u64 u, .int .i64 16] w fun e w' => (∃ j, 1 ≤ j ∧ j ≤ 16 ∧ u < 16 ^ j ∧ e = .returned (.string ⟨(hexTail u j).toArray⟩)) ∧ Below w.heap.size w w') := by
    have HF := Lib.hid (fbits_any u hu w h)
    clear h
    go_enter Tryz.func184, Tryz.ntmps184
    go_wp2_with fail
    refine HF.out.mono ?_
    rintro e w1 ⟨⟨j, h1, h2, h3, rfl⟩, hb⟩
    have HB := Lib.hid hb
    clear hb
    go_wp2
    go_ret
    exact ⟨⟨j, h1, h2, h3, rfl⟩, HB.out⟩
  clear h
  go_enter Tryz.func162, Tryz.ntmps162
  go_wp2_with fail
  refine HI.out.mono ?_
  rintro e w1 ⟨⟨j, h1, h2, h3, rfl⟩, hb⟩
  have HB := Lib.hid hb
  clear hb
  go_wp2
  go_ret
  exact ⟨⟨j, h1, h2, h3, rfl⟩, HB.out⟩
end Go.Proofs.YtpijpeocdlnhiaaGreatDoor
