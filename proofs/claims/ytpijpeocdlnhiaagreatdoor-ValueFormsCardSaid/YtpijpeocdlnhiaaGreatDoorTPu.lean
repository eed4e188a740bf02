/- strconv.ParseUint at base 16, at every string. -/
import Derived.Test.YtpijpeocdlnhiaaGreatDoorTPlainA
import Derived.Test.YtpijpeocdlnhiaaGreatDoorShelf
import Derived.Shelf.Strconv.ToErrorRange
import Derived.Lib.ConvBytes
import Derived.Lib.AtoiErrMem
import Derived.Laws.Strings3
import Derived.Laws.Closers25
import Derived.Laws.Closers25b
import Derived.BigCall
import Derived.BigGuard
namespace Go.Proofs.YtpijpeocdlnhiaaGreatDoor
set_option linter.unusedVariables false
set_option linter.unusedSimpArgs false
open Go.RowKit

def puTup (M : Nat) : Lib.NumEnd Nat → Value
  | .ok u => .tuple #[.int .u64 u, .nilIface]
  | .range => .tuple #[.int .u64 M, .iface 185 (.int .i64 1)]
  | _ => .tuple #[.int .u64 0, .iface 185 (.int .i64 2)]
def lowN (n : Nat) : Nat := if n / 32 % 2 = 0 then n + 32 else n
theorem low_all : ∀ n : Fin 256, bits BinOp.or IntKind.u8 ((n.val : Nat) : Int) 32 = ((lowN n.val : Nat) : Int) := by decide +kernel
theorem low_at (c : UInt8) : bits BinOp.or IntKind.u8 (c.toNat : Int) 32 = ((lowN c.toNat : Nat) : Int) := low_all ⟨c.toNat, c.toNat_lt⟩

set_option maxRecDepth 100000 in
set_option maxHeartbeats 32000000 in
theorem ipu16_ne8 (t : ByteArray) (hne : t.size ≠ 0) (hmax : t.size ≤ 9223372036854775806) (w : World) :
    Calls Tryz.prog 138 #[.string t, .int .i64 16, .int .i64 8] w fun e w' => e = .returned (puTup 255 (hexU 255 0 t.data.toList)) ∧ w' = Lib.bytesWorld w 5 t := by
  have hemp : t.toList.isEmpty = false := by
    rw [← decide_eq_emptyBytes]
    exact decide_eq_false (fun h => hne (by rw [h]; rfl))
  have hcv := Lib.run_convert_string_bytes (P := Tryz.prog) w 9 33 5 t (u := .string) Tryz.underlying9 Tryz.underlying33 Tryz.underlying5
  have hB : ∀ j, j < t.size → (Lib.bytesWorld w 5 t).cell? ⟨w.heap.size, j, none⟩ = some (.int .u8 (t.data.toList.getD j 0).toNat) := fun j hj => Lib.bytesWorld_cell w 5 t j hj
  obtain ⟨W1, hW1⟩ : ∃ W1, W1 = Lib.bytesWorld w 5 t := ⟨_, rfl⟩
  rw [← hW1] at hcv hB ⊢
  clear hW1
  obtain ⟨bs, hL⟩ : ∃ bs, bs = t.data.toList := ⟨_, rfl⟩
  have hLn : bs.length = t.size := by rw [hL, Lib.size_eq]
  rw [← hL] at hB ⊢
  clear hL
  go_enter Tryz.func138, Tryz.ntmps138
  go_wp2
  go_loop [12, 13, 101] (fun vu vn vi => ∃ (k acc : Nat) (a : Int), vu = .bool false ∧ vn = .int .u64 a ∧ vi = .int .i64 k ∧ k ≤ t.size ∧ Hid (a = (acc : Int) ∧ acc ≤ 255 ∧ hexU 255 0 bs = hexU 255 acc (bs.drop k)))
    (fun _ _ vi => t.size - (intOf vi).toNat)
  case atStart => exact ⟨0, 0, 0, rfl, rfl, rfl, by omega, rfl, by omega, rfl⟩
  case round =>
    obtain ⟨k, acc, a, rfl, rfl, rfl, hk, hh⟩ := hrel
    obtain ⟨ha, hacc, hdec⟩ := hh.out
    clear hh
    have a0 : 0 ≤ a := by omega
    have a1 : a ≤ 255 := by omega
    by_cases hkn : k < t.size
    · have hc := hB k hkn
      have hdrop : bs.drop k = bs[k]'(by omega) :: bs.drop (k + 1) := List.drop_eq_getElem_cons (by omega)
      have hget : bs.getD k 0 = bs[k]'(by omega) := by simp [List.getD, List.getElem?_eq_getElem (show k < bs.length by omega)]
      rw [hdrop] at hdec
      rw [hget] at hc
      generalize bs[k]'(by omega) = c at hc hdec
      have hc256 : c.toNat < 256 := c.toNat_lt
      have HLOW := Lib.hid (low_at c)
      clear hB hdrop hget
      by_cases hdig : 48 ≤ c.toNat ∧ c.toNat ≤ 57
      · obtain ⟨hd0, hd1⟩ := hdig
        have hx : hexC c = some (c.toNat - 48) := by unfold hexC; rw [if_pos ⟨hd0, hd1⟩]
        rw [hexU, hx] at hdec
        simp only [] at hdec
        clear hx HLOW
        by_cases hcut : 1152921504606846976 ≤ acc
        · rw [if_pos hcut] at hdec
          have icut : 1152921504606846976 ≤ a := by omega
          clear hcut hacc ha
          first
          | omega
          | (go_wp2
             go_ret2
             first | exact ⟨rfl, rfl⟩ | exact ⟨by rw [hdec]; rfl, rfl⟩)
        · rw [if_neg hcut] at hdec
          have icut : a < 1152921504606846976 := by omega
          by_cases hov : 255 < acc * 16 + (c.toNat - 48)
          · rw [if_pos hov] at hdec
            have iov : 255 < a * 16 + ((c.toNat : Int) - 48) := by omega
            clear hcut hacc hov ha
            first
            | omega
            | (go_wp2
               go_ret2
               first | exact ⟨rfl, rfl⟩ | exact ⟨by rw [hdec]; rfl, rfl⟩)
          · rw [if_neg hov] at hdec
            have HN : Hid (a * 16 + ((c.toNat : Int) - 48) = ((acc * 16 + (c.toNat - 48) : Nat) : Int) ∧ acc * 16 + (c.toNat - 48) ≤ 255 ∧ hexU 255 0 bs = hexU 255 (acc * 16 + (c.toNat - 48)) (bs.drop (k + 1))) := Lib.hid ⟨by omega, by omega, hdec⟩
            have iov : a * 16 + ((c.toNat : Int) - 48) ≤ 255 := by omega
            clear hcut hacc hov hdec ha
            go_wp2
            refine ⟨⟨k + 1, acc * 16 + (c.toNat - 48), a * 16 + ((c.toNat : Int) - 48), rfl, (by first | rfl | (congr 1 <;> omega)), (by first | rfl | (congr 1 <;> omega)), by omega, HN⟩, by simp [intOf]; omega⟩
      · have hb95 : bits BinOp.or IntKind.u8 95 32 = 127 := by decide
        by_cases hlet : (97 ≤ c.toNat ∧ c.toNat ≤ 102) ∨ (65 ≤ c.toNat ∧ c.toNat ≤ 70)
        · obtain ⟨lv, hlv⟩ : ∃ lv, lv = lowN c.toNat := ⟨_, rfl⟩
          have hl1 : 97 ≤ lv ∧ lv ≤ 102 := by rw [hlv]; unfold lowN; split <;> omega
          have hx : hexC c = some (lv - 87) := by
            unfold hexC
            rw [if_neg hdig]
            rcases hlet with h | h
            · rw [if_pos h, hlv]; unfold lowN; rw [if_neg (by omega)]
            · rw [if_neg (by omega), if_pos h, hlv]; unfold lowN; rw [if_pos (by omega)]; try (congr 1 <;> omega)
          have HLV : Hid (bits BinOp.or IntKind.u8 (c.toNat : Int) 32 = (lv : Int)) := by rw [Hid, hlv]; exact HLOW.out
          have hndig : ¬ ((c.toNat : Int) ≤ 57) := by omega
          have h95 : ((c.toNat : Int) == 95) = false := by rw [beq_eq_false_iff_ne]; omega
          rw [hexU, hx] at hdec
          simp only [] at hdec
          clear hx HLOW hlv hdig hlet
          obtain ⟨hl0, hl1⟩ := hl1
          by_cases hcut : 1152921504606846976 ≤ acc
          · rw [if_pos hcut] at hdec
            have icut : 1152921504606846976 ≤ a := by omega
            clear hcut hacc ha
            first
            | omega
            | (go_wp2_with (go_at_call 167; refine (Tryz.internal_strconv_lower _ _).mono ?_; rintro e w' ⟨rfl, rfl⟩; rw [HLV.out])
               go_ret2
               first | exact ⟨rfl, rfl⟩ | exact ⟨by rw [hdec]; rfl, rfl⟩)
          · rw [if_neg hcut] at hdec
            have icut : a < 1152921504606846976 := by omega
            by_cases hov : 255 < acc * 16 + (lv - 87)
            · rw [if_pos hov] at hdec
              have iov : 255 < a * 16 + ((lv : Int) - 97 + 10) := by omega
              clear hcut hacc hov ha
              first
              | omega
              | (go_wp2_with (go_at_call 167; refine (Tryz.internal_strconv_lower _ _).mono ?_; rintro e w' ⟨rfl, rfl⟩; rw [HLV.out])
                 go_ret2
                 first | exact ⟨rfl, rfl⟩ | exact ⟨by rw [hdec]; rfl, rfl⟩)
            · rw [if_neg hov] at hdec
              have HN : Hid (a * 16 + ((lv : Int) - 97 + 10) = ((acc * 16 + (lv - 87) : Nat) : Int) ∧ acc * 16 + (lv - 87) ≤ 255 ∧ hexU 255 0 bs = hexU 255 (acc * 16 + (lv - 87)) (bs.drop (k + 1))) := Lib.hid ⟨by omega, by omega, hdec⟩
              have iov : a * 16 + ((lv : Int) - 97 + 10) ≤ 255 := by omega
              clear hcut hacc hov hdec ha
              go_wp2_with (go_at_call 167; refine (Tryz.internal_strconv_lower _ _).mono ?_; rintro e w' ⟨rfl, rfl⟩; rw [HLV.out])
              refine ⟨⟨k + 1, acc * 16 + (lv - 87), a * 16 + ((lv : Int) - 97 + 10), rfl, (by first | rfl | (congr 1 <;> omega)), (by first | rfl | (congr 1 <;> omega)), by omega, HN⟩, by simp [intOf]; omega⟩
        · have hx : hexC c = none := by
            unfold hexC
            rw [if_neg hdig, if_neg (by omega), if_neg (by omega)]
          rw [hexU, hx] at hdec
          simp only [] at hdec
          have hlv : ¬ (97 ≤ lowN c.toNat ∧ lowN c.toNat ≤ 102) := by unfold lowN; split <;> omega
          have hl256 : lowN c.toNat < 256 := by unfold lowN; split <;> omega
          generalize lowN c.toNat = lv at *
          clear hx hacc ha hlet
          by_cases hz : 97 ≤ lv ∧ lv ≤ 122
          · obtain ⟨hz0, hz1⟩ := hz
            have hz2 : 103 ≤ lv := by omega
            clear hlv
            go_wp2_with (go_at_call 167; refine (Tryz.internal_strconv_lower _ _).mono ?_; rintro e w' ⟨rfl, rfl⟩; first | rw [HLOW.out] | rw [hb95])
            all_goals go_ret2
            all_goals first | exact ⟨rfl, rfl⟩ | exact ⟨by rw [hdec]; rfl, rfl⟩
          · clear hlv
            go_wp2_with (go_at_call 167; refine (Tryz.internal_strconv_lower _ _).mono ?_; rintro e w' ⟨rfl, rfl⟩; first | rw [HLOW.out] | rw [hb95])
            all_goals go_ret2
            all_goals first | exact ⟨rfl, rfl⟩ | exact ⟨by rw [hdec]; rfl, rfl⟩
    · have hkk : k = t.size := by omega
      subst hkk
      have hF : hexU 255 acc (bs.drop t.size) = .ok acc := by rw [List.drop_eq_nil_of_le (by omega)]; rfl
      rw [hF] at hdec
      subst ha
      clear hacc hF a0 a1
      go_wp2
      go_ret2
      first | exact ⟨rfl, rfl⟩ | exact ⟨by rw [hdec]; rfl, rfl⟩
set_option maxRecDepth 100000 in
set_option maxHeartbeats 32000000 in
theorem ipu16_ne64 (t : ByteArray) (hne : t.size ≠ 0) (hmax : t.size ≤ 9223372036854775806) (w : World) :
    Calls Tryz.prog 138 #[.string t, .int .i64 16, .int .i64 64] w fun e w' => e = .returned (puTup 18446744073709551615 (hexU 18446744073709551615 0 t.data.toList)) ∧ w' = Lib.bytesWorld w 5 t := by
  have hemp : t.toList.isEmpty = false := by
    rw [← decide_eq_emptyBytes]
    exact decide_eq_false (fun h => hne (by rw [h]; rfl))
  have hcv := Lib.run_convert_string_bytes (P := Tryz.prog) w 9 33 5 t (u := .string) Tryz.underlying9 Tryz.underlying33 Tryz.underlying5
  have hB : ∀ j, j < t.size → (Lib.bytesWorld w 5 t).cell? ⟨w.heap.size, j, none⟩ = some (.int .u8 (t.data.toList.getD j 0).toNat) := fun j hj => Lib.bytesWorld_cell w 5 t j hj
  obtain ⟨W1, hW1⟩ : ∃ W1, W1 = Lib.bytesWorld w 5 t := ⟨_, rfl⟩
  rw [← hW1] at hcv hB ⊢
  clear hW1
  obtain ⟨bs, hL⟩ : ∃ bs, bs = t.data.toList := ⟨_, rfl⟩
  have hLn : bs.length = t.size := by rw [hL, Lib.size_eq]
  rw [← hL] at hB ⊢
  clear hL
  have hmv : IntKind.u64.wrap (IntKind.u64.wrap 18446744073709551616 - 1) = 18446744073709551615 := by
    rw [IntKind.wrap_u64, IntKind.wrap_u64]
    decide
  go_enter Tryz.func138, Tryz.ntmps138
  go_wp2
  go_loop [12, 13, 101] (fun vu vn vi => ∃ (k acc : Nat) (a : Int), vu = .bool false ∧ vn = .int .u64 a ∧ vi = .int .i64 k ∧ k ≤ t.size ∧ Hid (a = (acc : Int) ∧ acc ≤ 18446744073709551615 ∧ hexU 18446744073709551615 0 bs = hexU 18446744073709551615 acc (bs.drop k)))
    (fun _ _ vi => t.size - (intOf vi).toNat)
  case atStart => exact ⟨0, 0, 0, rfl, rfl, rfl, by omega, rfl, by omega, rfl⟩
  case round =>
    obtain ⟨k, acc, a, rfl, rfl, rfl, hk, hh⟩ := hrel
    obtain ⟨ha, hacc, hdec⟩ := hh.out
    clear hh
    have a0 : 0 ≤ a := by omega
    have a1 : a ≤ 18446744073709551615 := by omega
    by_cases hkn : k < t.size
    · have hc := hB k hkn
      have hdrop : bs.drop k = bs[k]'(by omega) :: bs.drop (k + 1) := List.drop_eq_getElem_cons (by omega)
      have hget : bs.getD k 0 = bs[k]'(by omega) := by simp [List.getD, List.getElem?_eq_getElem (show k < bs.length by omega)]
      rw [hdrop] at hdec
      rw [hget] at hc
      generalize bs[k]'(by omega) = c at hc hdec
      have hc256 : c.toNat < 256 := c.toNat_lt
      have HLOW := Lib.hid (low_at c)
      clear hB hdrop hget
      by_cases hdig : 48 ≤ c.toNat ∧ c.toNat ≤ 57
      · obtain ⟨hd0, hd1⟩ := hdig
        have hx : hexC c = some (c.toNat - 48) := by unfold hexC; rw [if_pos ⟨hd0, hd1⟩]
        rw [hexU, hx] at hdec
        simp only [] at hdec
        clear hx HLOW
        by_cases hcut : 1152921504606846976 ≤ acc
        · rw [if_pos hcut] at hdec
          have icut : 1152921504606846976 ≤ a := by omega
          clear hcut hacc ha
          first
          | omega
          | (go_wp2
             go_ret2
             first | exact ⟨rfl, rfl⟩ | exact ⟨by rw [hdec]; rfl, rfl⟩)
        · rw [if_neg hcut] at hdec
          have icut : a < 1152921504606846976 := by omega
          by_cases hov : 18446744073709551615 < acc * 16 + (c.toNat - 48)
          · rw [if_pos hov] at hdec
            have iov : 18446744073709551615 < a * 16 + ((c.toNat : Int) - 48) := by omega
            clear hcut hacc hov ha
            first
            | omega
            | (go_wp2
               go_ret2
               first | exact ⟨rfl, rfl⟩ | exact ⟨by rw [hdec]; rfl, rfl⟩)
          · rw [if_neg hov] at hdec
            have HN : Hid (a * 16 + ((c.toNat : Int) - 48) = ((acc * 16 + (c.toNat - 48) : Nat) : Int) ∧ acc * 16 + (c.toNat - 48) ≤ 18446744073709551615 ∧ hexU 18446744073709551615 0 bs = hexU 18446744073709551615 (acc * 16 + (c.toNat - 48)) (bs.drop (k + 1))) := Lib.hid ⟨by omega, by omega, hdec⟩
            have iov : a * 16 + ((c.toNat : Int) - 48) ≤ 18446744073709551615 := by omega
            clear hcut hacc hov hdec ha
            go_wp2
            refine ⟨⟨k + 1, acc * 16 + (c.toNat - 48), a * 16 + ((c.toNat : Int) - 48), rfl, (by first | rfl | (congr 1 <;> omega)), (by first | rfl | (congr 1 <;> omega)), by omega, HN⟩, by simp [intOf]; omega⟩
      · have hb95 : bits BinOp.or IntKind.u8 95 32 = 127 := by decide
        by_cases hlet : (97 ≤ c.toNat ∧ c.toNat ≤ 102) ∨ (65 ≤ c.toNat ∧ c.toNat ≤ 70)
        · obtain ⟨lv, hlv⟩ : ∃ lv, lv = lowN c.toNat := ⟨_, rfl⟩
          have hl1 : 97 ≤ lv ∧ lv ≤ 102 := by rw [hlv]; unfold lowN; split <;> omega
          have hx : hexC c = some (lv - 87) := by
            unfold hexC
            rw [if_neg hdig]
            rcases hlet with h | h
            · rw [if_pos h, hlv]; unfold lowN; rw [if_neg (by omega)]
            · rw [if_neg (by omega), if_pos h, hlv]; unfold lowN; rw [if_pos (by omega)]; try (congr 1 <;> omega)
          have HLV : Hid (bits BinOp.or IntKind.u8 (c.toNat : Int) 32 = (lv : Int)) := by rw [Hid, hlv]; exact HLOW.out
          have hndig : ¬ ((c.toNat : Int) ≤ 57) := by omega
          have h95 : ((c.toNat : Int) == 95) = false := by rw [beq_eq_false_iff_ne]; omega
          rw [hexU, hx] at hdec
          simp only [] at hdec
          clear hx HLOW hlv hdig hlet
          obtain ⟨hl0, hl1⟩ := hl1
          by_cases hcut : 1152921504606846976 ≤ acc
          · rw [if_pos hcut] at hdec
            have icut : 1152921504606846976 ≤ a := by omega
            clear hcut hacc ha
            first
            | omega
            | (go_wp2_with (go_at_call 167; refine (Tryz.internal_strconv_lower _ _).mono ?_; rintro e w' ⟨rfl, rfl⟩; rw [HLV.out])
               go_ret2
               first | exact ⟨rfl, rfl⟩ | exact ⟨by rw [hdec]; rfl, rfl⟩)
          · rw [if_neg hcut] at hdec
            have icut : a < 1152921504606846976 := by omega
            by_cases hov : 18446744073709551615 < acc * 16 + (lv - 87)
            · rw [if_pos hov] at hdec
              have iov : 18446744073709551615 < a * 16 + ((lv : Int) - 97 + 10) := by omega
              clear hcut hacc hov ha
              first
              | omega
              | (go_wp2_with (go_at_call 167; refine (Tryz.internal_strconv_lower _ _).mono ?_; rintro e w' ⟨rfl, rfl⟩; rw [HLV.out])
                 go_ret2
                 first | exact ⟨rfl, rfl⟩ | exact ⟨by rw [hdec]; rfl, rfl⟩)
            · rw [if_neg hov] at hdec
              have HN : Hid (a * 16 + ((lv : Int) - 97 + 10) = ((acc * 16 + (lv - 87) : Nat) : Int) ∧ acc * 16 + (lv - 87) ≤ 18446744073709551615 ∧ hexU 18446744073709551615 0 bs = hexU 18446744073709551615 (acc * 16 + (lv - 87)) (bs.drop (k + 1))) := Lib.hid ⟨by omega, by omega, hdec⟩
              have iov : a * 16 + ((lv : Int) - 97 + 10) ≤ 18446744073709551615 := by omega
              clear hcut hacc hov hdec ha
              go_wp2_with (go_at_call 167; refine (Tryz.internal_strconv_lower _ _).mono ?_; rintro e w' ⟨rfl, rfl⟩; rw [HLV.out])
              refine ⟨⟨k + 1, acc * 16 + (lv - 87), a * 16 + ((lv : Int) - 97 + 10), rfl, (by first | rfl | (congr 1 <;> omega)), (by first | rfl | (congr 1 <;> omega)), by omega, HN⟩, by simp [intOf]; omega⟩
        · have hx : hexC c = none := by
            unfold hexC
            rw [if_neg hdig, if_neg (by omega), if_neg (by omega)]
          rw [hexU, hx] at hdec
          simp only [] at hdec
          have hlv : ¬ (97 ≤ lowN c.toNat ∧ lowN c.toNat ≤ 102) := by unfold lowN; split <;> omega
          have hl256 : lowN c.toNat < 256 := by unfold lowN; split <;> omega
          generalize lowN c.toNat = lv at *
          clear hx hacc ha hlet
          by_cases hz : 97 ≤ lv ∧ lv ≤ 122
          · obtain ⟨hz0, hz1⟩ := hz
            have hz2 : 103 ≤ lv := by omega
            clear hlv
            go_wp2_with (go_at_call 167; refine (Tryz.internal_strconv_lower _ _).mono ?_; rintro e w' ⟨rfl, rfl⟩; first | rw [HLOW.out] | rw [hb95])
            all_goals go_ret2
            all_goals first | exact ⟨rfl, rfl⟩ | exact ⟨by rw [hdec]; rfl, rfl⟩
          · clear hlv
            go_wp2_with (go_at_call 167; refine (Tryz.internal_strconv_lower _ _).mono ?_; rintro e w' ⟨rfl, rfl⟩; first | rw [HLOW.out] | rw [hb95])
            all_goals go_ret2
            all_goals first | exact ⟨rfl, rfl⟩ | exact ⟨by rw [hdec]; rfl, rfl⟩
    · have hkk : k = t.size := by omega
      subst hkk
      have hF : hexU 18446744073709551615 acc (bs.drop t.size) = .ok acc := by rw [List.drop_eq_nil_of_le (by omega)]; rfl
      rw [hF] at hdec
      subst ha
      clear hacc hF a0 a1
      go_wp2
      go_ret2
      first | exact ⟨rfl, rfl⟩ | exact ⟨by rw [hdec]; rfl, rfl⟩

theorem ipu16_8 (t : ByteArray) (hmax : t.size ≤ 9223372036854775806) (w : World) :
    Calls Tryz.prog 138 #[.string t, .int .i64 16, .int .i64 8] w fun e w' => e = .returned (puTup 255 (puE 255 t.data.toList)) ∧ Below w.heap.size w w' := by
  unfold puE
  by_cases h0 : t.size = 0
  · obtain rfl : t = ⟨#[]⟩ := by
      apply ByteArray.ext
      exact Array.eq_empty_of_size_eq_zero h0
    rw [if_pos (by rfl)]
    exact (Tryz.internal_strconv_ParseUint_empty 16 8 w).mono fun e w' ⟨he, hw⟩ => ⟨he, hw ▸ Below.refl _ _⟩
  · rw [if_neg (by intro h; apply h0; have := congrArg List.length h; rw [← Lib.size_eq] at this; exact this)]
    exact (ipu16_ne8 t h0 hmax w).mono fun e w' ⟨he, hw⟩ => ⟨he, hw ▸ Lib.bytesWorld_below _ _ _⟩
theorem ipu16_64 (t : ByteArray) (hmax : t.size ≤ 9223372036854775806) (w : World) :
    Calls Tryz.prog 138 #[.string t, .int .i64 16, .int .i64 64] w fun e w' => e = .returned (puTup 18446744073709551615 (puE 18446744073709551615 t.data.toList)) ∧ Below w.heap.size w w' := by
  unfold puE
  by_cases h0 : t.size = 0
  · obtain rfl : t = ⟨#[]⟩ := by
      apply ByteArray.ext
      exact Array.eq_empty_of_size_eq_zero h0
    rw [if_pos (by rfl)]
    exact (Tryz.internal_strconv_ParseUint_empty 16 64 w).mono fun e w' ⟨he, hw⟩ => ⟨he, hw ▸ Below.refl _ _⟩
  · rw [if_neg (by intro h; apply h0; have := congrArg List.length h; rw [← Lib.size_eq] at this; exact this)]
    exact (ipu16_ne64 t h0 hmax w).mono fun e w' ⟨he, hw⟩ => ⟨he, hw ▸ Lib.bytesWorld_below _ _ _⟩

/-- ParseUint at base 16: the number, and an error that is nil just if there is one. -/
def puPost (M : Nat) (l : List UInt8) (e : Ending) : Prop := ∃ err, e = .returned (.tuple #[.int .u64 (puV M l), err]) ∧ ((∃ v, puE M l = .ok v) ∧ err = .nilIface ∨ (¬ ∃ v, puE M l = .ok v) ∧ ∃ N, err = .iface 186 (.pointer (some ⟨N, 0, none⟩)))
/-- The two errors of the package lie where the program laid them. -/
structure Errs (w : World) : Prop where
  syn : ∃ ev, w.cell? ⟨4, 0, none⟩ = some ev ∧ (ev = .nilIface ∨ ∃ te pe, ev = .iface te pe)
  ran : ∃ ev, w.cell? ⟨5, 0, none⟩ = some ev ∧ (ev = .nilIface ∨ ∃ te pe, ev = .iface te pe)
theorem Errs.later {w w' : World} (h : Errs w) (hb : Below w.heap.size w w') : Errs w' := by
  obtain ⟨⟨a, h1, h2⟩, ⟨b, h3, h4⟩⟩ := h
  exact ⟨⟨a, (hb.cell (p := ⟨4, 0, none⟩) (Lib.lt_of_cell h1)).trans h1, h2⟩, ⟨b, (hb.cell (p := ⟨5, 0, none⟩) (Lib.lt_of_cell h3)).trans h3, h4⟩⟩

set_option maxRecDepth 100000 in
set_option maxHeartbeats 4000000 in
theorem pu16_8 (t : ByteArray) (hlim : t.size ≤ 281474976710656) (w : World) (hE : Errs w) :
    Calls Tryz.prog 106 #[.string t, .int .i64 16, .int .i64 8] w fun e w' => puPost 255 t.data.toList e ∧ Below w.heap.size w w' := by
  obtain ⟨⟨evs, hs1, hs2⟩, ⟨evr, hr1, hr2⟩⟩ := hE
  have hI := ipu16_8 t (by omega) w
  obtain ⟨l, hl⟩ : ∃ l, l = t.data.toList := ⟨_, rfl⟩
  rw [← hl] at hI ⊢
  clear hl
  have HP : ∀ v, puE 255 l = .ok v → puV 255 l = v := by intro v h; unfold puV; rw [h]
  have HS : puE 255 l = badN → puV 255 l = 0 := by intro h; unfold puV; rw [h]; rfl
  have HR : puE 255 l = .range → puV 255 l = 255 := by intro h; unfold puV; rw [h]
  unfold puPost
  generalize puV 255 l = pv at *
  generalize puE 255 l = r at *
  cases r with
  | ok v =>
    have hv := HP v rfl
    subst hv
    clear HP HS HR hs1 hs2 hr1 hr2
    simp only [puTup] at hI
    have HI := Lib.hid hI
    clear hI
    go_enter Tryz.func106, Tryz.ntmps106
    go_wp2_with fail
    refine HI.out.mono ?_
    rintro e w1 ⟨rfl, hb⟩
    have HB := Lib.hid hb
    clear hb
    go_wp2
    go_ret2
    exact ⟨⟨_, rfl, .inl ⟨⟨_, rfl⟩, rfl⟩⟩, HB.out⟩
  | range =>
    have hv := HR rfl
    subst hv
    simp only [puTup] at hI
    have HI := Lib.hid hI
    have HX := Lib.hid (And.intro hr1 hr2)
    clear hI HP HS HR hs1 hs2 hr1 hr2
    go_enter Tryz.func106, Tryz.ntmps106
    go_wp2_with fail
    refine HI.out.mono ?_
    rintro e w1 ⟨rfl, hb⟩
    have HB := Lib.hid hb
    have HV := Lib.hid ((hb.cell (p := ⟨5, 0, none⟩) (Lib.lt_of_cell HX.out.1)).trans HX.out.1)
    clear hb
    go_wp2_with fail
    refine (Tryz.strconv_toError_range _ t 16 8 evr _ hlim HV.out HX.out.2).mono ?_
    rintro e w2 ⟨N, rfl, h1, h2, h3⟩
    have HB2 := Lib.hid (HB.out.trans (h3.mono HB.out.size))
    clear h1 h2 h3
    go_wp2
    go_ret2
    exact ⟨⟨_, rfl, .inr ⟨(by rintro ⟨v, h⟩; cases h), N, rfl⟩⟩, HB2.out⟩

  | _ =>
    have hv := HS rfl
    subst hv
    simp only [puTup] at hI
    have HI := Lib.hid hI
    have HX := Lib.hid (And.intro hs1 hs2)
    clear hI HP HS HR hs1 hs2 hr1 hr2
    go_enter Tryz.func106, Tryz.ntmps106
    go_wp2_with fail
    refine HI.out.mono ?_
    rintro e w1 ⟨rfl, hb⟩
    have HB := Lib.hid hb
    have HV := Lib.hid ((hb.cell (p := ⟨4, 0, none⟩) (Lib.lt_of_cell HX.out.1)).trans HX.out.1)
    clear hb
    go_wp2_with fail
    refine (Tryz.strconv_toError_syntax _ t 16 8 evs _ hlim HV.out HX.out.2).mono ?_
    rintro e w2 ⟨N, rfl, h1, h2, h3⟩
    have HB2 := Lib.hid (HB.out.trans (h3.mono HB.out.size))
    clear h1 h2 h3
    go_wp2
    go_ret2
    exact ⟨⟨_, rfl, .inr ⟨(by rintro ⟨v, h⟩; cases h), N, rfl⟩⟩, HB2.out⟩
set_option maxRecDepth 100000 in
set_option maxHeartbeats 4000000 in
theorem pu16_64 (t : ByteArray) (hlim : t.size ≤ 281474976710656) (w : World) (hE : Errs w) :
    Calls Tryz.prog 106 #[.string t, .int .i64 16, .int .i64 64] w fun e w' => puPost 18446744073709551615 t.data.toList e ∧ Below w.heap.size w w' := by
  obtain ⟨⟨evs, hs1, hs2⟩, ⟨evr, hr1, hr2⟩⟩ := hE
  have hI := ipu16_64 t (by omega) w
  obtain ⟨l, hl⟩ : ∃ l, l = t.data.toList := ⟨_, rfl⟩
  rw [← hl] at hI ⊢
  clear hl
  have HP : ∀ v, puE 18446744073709551615 l = .ok v → puV 18446744073709551615 l = v := by intro v h; unfold puV; rw [h]
  have HS : puE 18446744073709551615 l = badN → puV 18446744073709551615 l = 0 := by intro h; unfold puV; rw [h]; rfl
  have HR : puE 18446744073709551615 l = .range → puV 18446744073709551615 l = 18446744073709551615 := by intro h; unfold puV; rw [h]
  unfold puPost
  generalize puV 18446744073709551615 l = pv at *
  generalize puE 18446744073709551615 l = r at *
  cases r with
  | ok v =>
    have hv := HP v rfl
    subst hv
    clear HP HS HR hs1 hs2 hr1 hr2
    simp only [puTup] at hI
    have HI := Lib.hid hI
    clear hI
    go_enter Tryz.func106, Tryz.ntmps106
    go_wp2_with fail
    refine HI.out.mono ?_
    rintro e w1 ⟨rfl, hb⟩
    have HB := Lib.hid hb
    clear hb
    go_wp2
    go_ret2
    exact ⟨⟨_, rfl, .inl ⟨⟨_, rfl⟩, rfl⟩⟩, HB.out⟩
  | range =>
    have hv := HR rfl
    subst hv
    simp only [puTup] at hI
    have HI := Lib.hid hI
    have HX := Lib.hid (And.intro hr1 hr2)
    clear hI HP HS HR hs1 hs2 hr1 hr2
    go_enter Tryz.func106, Tryz.ntmps106
    go_wp2_with fail
    refine HI.out.mono ?_
    rintro e w1 ⟨rfl, hb⟩
    have HB := Lib.hid hb
    have HV := Lib.hid ((hb.cell (p := ⟨5, 0, none⟩) (Lib.lt_of_cell HX.out.1)).trans HX.out.1)
    clear hb
    go_wp2_with fail
    refine (Tryz.strconv_toError_range _ t 16 64 evr _ hlim HV.out HX.out.2).mono ?_
    rintro e w2 ⟨N, rfl, h1, h2, h3⟩
    have HB2 := Lib.hid (HB.out.trans (h3.mono HB.out.size))
    clear h1 h2 h3
    go_wp2
    go_ret2
    exact ⟨⟨_, rfl, .inr ⟨(by rintro ⟨v, h⟩; cases h), N, rfl⟩⟩, HB2.out⟩
  | _ =>
    have hv := HS rfl
    subst hv
    simp only [puTup] at hI
    have HI := Lib.hid hI
    have HX := Lib.hid (And.intro hs1 hs2)
    clear hI HP HS HR hs1 hs2 hr1 hr2
    go_enter Tryz.func106, Tryz.ntmps106
    go_wp2_with fail
    refine HI.out.mono ?_
    rintro e w1 ⟨rfl, hb⟩
    have HB := Lib.hid hb
    have HV := Lib.hid ((hb.cell (p := ⟨4, 0, none⟩) (Lib.lt_of_cell HX.out.1)).trans HX.out.1)
    clear hb
    go_wp2_with fail
    refine (Tryz.strconv_toError_syntax _ t 16 64 evs _ hlim HV.out HX.out.2).mono ?_
    rintro e w2 ⟨N, rfl, h1, h2, h3⟩
    have HB2 := Lib.hid (HB.out.trans (h3.mono HB.out.size))
    clear h1 h2 h3
    go_wp2
    go_ret2
    exact ⟨⟨_, rfl, .inr ⟨(by rintro ⟨v, h⟩; cases h), N, rfl⟩⟩, HB2.out⟩
end Go.Proofs.YtpijpeocdlnhiaaGreatDoor
