/- Texts for programTexts_holds, joined: TPu, TNumP, TRefA. -/
import Derived.Test.YtpijpeocdlnhiaaGreatDoorTp09
import Derived.Test.YtpijpeocdlnhiaaGreatDoorTp04
import Derived.Shelf.Strconv.ToErrorRange
import Derived.Lib.ConvBytes
import Derived.Lib.AtoiErrMem
import Derived.Laws.Strings3
import Derived.Laws.Closers25
import Derived.Laws.Closers25b
import Derived.BigCall
import Derived.BigGuard
import Derived.Test.YtpijpeocdlnhiaaGreatDoorTp10
set_option linter.unusedVariables false
set_option linter.unusedSimpArgs false
namespace Go.Proofs.YtpijpeocdlnhiaaGreatDoor
open Go.RowKit
def puTup (M : Nat) : Lib.NumEnd Nat → Value
  | .ok u => .tuple #[.int .u64 u, .nilIface]
  | .range => .tuple #[.int .u64 M, .iface 185 (.int .i64 1)]
  | _ => .tuple #[.int .u64 0, .iface 185 (.int .i64 2)]
def lowN (n : Nat) : Nat := if n / 32 % 2 = 0 then n + 32 else n
theorem low_all : ∀ n : Fin 256, bits BinOp.or IntKind.u8 ((n.val : Nat) : Int) 32 = ((lowN n.val : Nat) : Int) := by decide +kernel
theorem low_at (c : UInt8) : bits BinOp.or IntKind.u8 (c.toNat : Int) 32 = ((lowN c.toNat : Nat) : Int) := low_all ⟨c.toNat, c.toNat_lt⟩
set_option maxRecDepth 100000 in
set_option maxHeartbeats 32000000 in
theorem ipu16_ne8 (t : ByteArray) (hne : t.size ≠ 0) (hmax : t.size ≤ 9223372036854775806) (w : World) :
    Calls Tryz.prog 138 #[.string t, .int .i64 16, .int .i64 8] w fun e w' => e = .returned (puTup 255 (hexU 255 0 t.data.toList)) ∧ w' = Lib.bytesWorld w 5 t := by
  have hemp : t.toList.isEmpty = false := by
    rw [← decide_eq_emptyBytes]
    exact decide_eq_false (fun h => hne (by rw [h]; rfl))
  have hcv := Lib.run_convert_string_bytes (P := Tryz.prog) w 9 33 5 t (u := .string) Tryz.underlying9 Tryz.underlying33 Tryz.underlying5
  have hB : ∀ j, j < t.size → (Lib.bytesWorld w 5 t).cell? ⟨w.heap.size, j, none⟩ = some (.int .u8 (t.data.toList.getD j 0).toNat) := fun j hj => Lib.bytesWorld_cell w 5 t j hj
  obtain ⟨W1, hW1⟩ : ∃ W1, W1 = Lib.bytesWorld w 5 t := ⟨_, rfl⟩
  rw [← hW1] at hcv hB ⊢
  clear hW1
  obtain ⟨bs, hL⟩ : ∃ bs, bs = t.data.toList := ⟨_, rfl⟩
  have hLn : bs.length = t.size := by rw [hL, Lib.size_eq]
  rw [← hL] at hB ⊢
  clear hL
  go_enter Tryz.func138, Tryz.ntmps138
  go_wp2
  go_loop [12, 13, 101] (fun vu vn vi => ∃ (k acc : Nat) (a : Int), vu = .bool false ∧ vn = .int .u64 a ∧ vi = .int .i64 k ∧ k ≤ t.size ∧ Hid (a = (acc : Int) ∧ acc ≤ 255 ∧ hexU 255 0 bs = hexU 255 acc (bs.drop k)))
    (fun _ _ vi => t.size - (intOf vi).toNat)
  case atStart => exact ⟨0, 0, 0, rfl, rfl, rfl, by omega, rfl, by omega, rfl⟩
  case round =>
    obtain ⟨k, acc, a, rfl, rfl, rfl, hk, hh⟩ := hrel
    obtain ⟨ha, hacc, hdec⟩ := hh.out
    clear hh
    have a0 : 0 ≤ a := by omega
    have a1 : a ≤ 255 := by omega
    by_cases hkn : k < t.size
    · have hc := hB k hkn
      have hdrop : bs.drop k = bs[k]'(by omega) :: bs.drop (k + 1) := List.drop_eq_getElem_cons (by omega)
      have hget : bs.getD k 0 = bs[k]'(by omega) := by simp [List.getD, List.getElem?_eq_getElem (show k < bs.length by omega)]
      rw [hdrop] at hdec
      rw [hget] at hc
      generalize bs[k]'(by omega) = c at hc hdec
      have hc256 : c.toNat < 256 := c.toNat_lt
      have HLOW := Lib.hid (low_at c)
      clear hB hdrop hget
      by_cases hdig : 48 ≤ c.toNat ∧ c.toNat ≤ 57
      · obtain ⟨hd0, hd1⟩ := hdig
        have hx : hexC c = some (c.toNat - 48) := by unfold hexC; rw [if_pos ⟨hd0, hd1⟩]
        rw [hexU, hx] at hdec
        simp only [] at hdec
        clear hx HLOW
        by_cases hcut : 1152921504606846976 ≤ acc
        · rw [if_pos hcut] at hdec
          have icut : 1152921504606846976 ≤ a := by omega
          clear hcut hacc ha
          first
          | omega
          | (go_wp2
             go_ret2
             first | exact ⟨rfl, rfl⟩ | exact ⟨by rw [hdec]; rfl, rfl⟩)
        · rw [if_neg hcut] at hdec
          have icut : a < 1152921504606846976 := by omega
          by_cases hov : 255 < acc * 16 + (c.toNat - 48)
          · rw [if_pos hov] at hdec
            have iov : 255 < a * 16 + ((c.toNat : Int) - 48) := by omega
            clear hcut hacc hov ha
            first
            | omega
            | (go_wp2
               go_ret2
               first | exact ⟨rfl, rfl⟩ | exact ⟨by rw [hdec]; rfl, rfl⟩)
          · rw [if_neg hov] at hdec
            have HN : Hid (a * 16 + ((c.toNat : Int) - 48) = ((acc * 16 + (c.toNat - 48) : Nat) : Int) ∧ acc * 16 + (c.toNat - 48) ≤ 255 ∧ hexU 255 0 bs = hexU 255 (acc * 16 + (c.toNat - 48)) (bs.drop (k + 1))) := Lib.hid ⟨by omega, by omega, hdec⟩
            have iov : a * 16 + ((c.toNat : Int) - 48) ≤ 255 := by omega
            clear hcut hacc hov hdec ha
            go_wp2
            refine ⟨⟨k + 1, acc * 16 + (c.toNat - 48), a * 16 + ((c.toNat : Int) - 48), rfl, (by first | rfl | (congr 1 <;> omega)), (by first | rfl | (congr 1 <;> omega)), by omega, HN⟩, by simp [intOf]; omega⟩
      · have hb95 : bits BinOp.or IntKind.u8 95 32 = 127 := by decide
        by_cases hlet : (97 ≤ c.toNat ∧ c.toNat ≤ 102) ∨ (65 ≤ c.toNat ∧ c.toNat ≤ 70)
        · obtain ⟨lv, hlv⟩ : ∃ lv, lv = lowN c.toNat := ⟨_, rfl⟩
          have hl1 : 97 ≤ lv ∧ lv ≤ 102 := by rw [hlv]; unfold lowN; split <;> omega
          have hx : hexC c = some (lv - 87) := by
            unfold hexC
            rw [if_neg hdig]
            rcases hlet with h | h
            · rw [if_pos h, hlv]; unfold lowN; rw [if_neg (by omega)]
            · rw [if_neg (by omega), if_pos h, hlv]; unfold lowN; rw [if_pos (by omega)]; try (congr 1 <;> omega)
          have HLV : Hid (bits BinOp.or IntKind.u8 (c.toNat : Int) 32 = (lv : Int)) := by rw [Hid, hlv]; exact HLOW.out
          have hndig : ¬ ((c.toNat : Int) ≤ 57) := by omega
          have h95 : ((c.toNat : Int) == 95) = false := by rw [beq_eq_false_iff_ne]; omega
          rw [hexU, hx] at hdec
          simp only [] at hdec
          clear hx HLOW hlv hdig hlet
          obtain ⟨hl0, hl1⟩ := hl1
          by_cases hcut : 1152921504606846976 ≤ acc
          · rw [if_pos hcut] at hdec
            have icut : 1152921504606846976 ≤ a := by omega
            clear hcut hacc ha
            first
            | omega
            | (go_wp2_with (go_at_call 167; refine (Tryz.internal_strconv_lower _ _).mono ?_; rintro e w' ⟨rfl, rfl⟩; rw [HLV.out])
               go_ret2
               first | exact ⟨rfl, rfl⟩ | exact ⟨by rw [hdec]; rfl, rfl⟩)
          · rw [if_neg hcut] at hdec
            have icut : a < 1152921504606846976 := by omega
            by_cases hov : 255 < acc * 16 + (lv - 87)
            · rw [if_pos hov] at hdec
              have iov : 255 < a * 16 + ((lv : Int) - 97 + 10) := by omega
              clear hcut hacc hov ha
              first
              | omega
              | (go_wp2_with (go_at_call 167; refine (Tryz.internal_strconv_lower _ _).mono ?_; rintro e w' ⟨rfl, rfl⟩; rw [HLV.out])
                 go_ret2
                 first | exact ⟨rfl, rfl⟩ | exact ⟨by rw [hdec]; rfl, rfl⟩)
            · rw [if_neg hov] at hdec
              have HN : Hid (a * 16 + ((lv : Int) - 97 + 10) = ((acc * 16 + (lv - 87) : Nat) : Int) ∧ acc * 16 + (lv - 87) ≤ 255 ∧ hexU 255 0 bs = hexU 255 (acc * 16 + (lv - 87)) (bs.drop (k + 1))) := Lib.hid ⟨by omega, by omega, hdec⟩
              have iov : a * 16 + ((lv : Int) - 97 + 10) ≤ 255 := by omega
              clear hcut hacc hov hdec ha
              go_wp2_with (go_at_call 167; refine (Tryz.internal_strconv_lower _ _).mono ?_; rintro e w' ⟨rfl, rfl⟩; rw [HLV.out])
              refine ⟨⟨k + 1, acc * 16 + (lv - 87), a * 16 + ((lv : Int) - 97 + 10), rfl, (by first | rfl | (congr 1 <;> omega)), (by first | rfl | (congr 1 <;> omega)), by omega, HN⟩, by simp [intOf]; omega⟩
        · have hx : hexC c = none := by
            unfold hexC
            rw [if_neg hdig, if_neg (by omega), if_neg (by omega)]
          rw [hexU, hx] at hdec
          simp only [] at hdec
          have hlv : ¬ (97 ≤ lowN c.toNat ∧ lowN c.toNat ≤ 102) := by unfold lowN; split <;> omega
          have hl256 : lowN c.toNat < 256 := by unfold lowN; split <;> omega
          generalize lowN c.toNat = lv at *
          clear hx hacc ha hlet
          by_cases hz : 97 ≤ lv ∧ lv ≤ 122
          · obtain ⟨hz0, hz1⟩ := hz
            have hz2 : 103 ≤ lv := by omega
            clear hlv
            go_wp2_with (go_at_call 167; refine (Tryz.internal_strconv_lower _ _).mono ?_; rintro e w' ⟨rfl, rfl⟩; first | rw [HLOW.out] | rw [hb95])
            all_goals go_ret2
            all_goals first | exact ⟨rfl, rfl⟩ | exact ⟨by rw [hdec]; rfl, rfl⟩
          · clear hlv
            go_wp2_with (go_at_call 167; refine (Tryz.internal_strconv_lower _ _).mono ?_; rintro e w' ⟨rfl, rfl⟩; first | rw [HLOW.out] | rw [hb95])
            all_goals go_ret2
            all_goals first | exact ⟨rfl, rfl⟩ | exact ⟨by rw [hdec]; rfl, rfl⟩
    · have hkk : k = t.size := by omega
      subst hkk
      have hF : hexU 255 acc (bs.drop t.size) = .ok acc := by rw [List.drop_eq_nil_of_le (by omega)]; rfl
      rw [hF] at hdec
      subst ha
      clear hacc hF a0 a1
      go_wp2
      go_ret2
      first | exact ⟨rfl, rfl⟩ | exact ⟨by rw [hdec]; rfl, rfl⟩
set_option maxRecDepth 100000 in
set_option maxHeartbeats 32000000 in
theorem ipu16_ne64 (t : ByteArray) (hne : t.size ≠ 0) (hmax : t.size ≤ 9223372036854775806) (w : World) :
    Calls Tryz.prog 138 #[.string t, .int .i64 16, .int .i64 64] w fun e w' => e = .returned (puTup 18446744073709551615 (hexU 18446744073709551615 0 t.data.toList)) ∧ w' = Lib.bytesWorld w 5 t := by
  have hemp : t.toList.isEmpty = false := by
    rw [← decide_eq_emptyBytes]
    exact decide_eq_false (fun h => hne (by rw [h]; rfl))
  have hcv := Lib.run_convert_string_bytes (P := Tryz.prog) w 9 33 5 t (u := .string) Tryz.underlying9 Tryz.underlying33 Tryz.underlying5
  have hB : ∀ j, j < t.size → (Lib.bytesWorld w 5 t).cell? ⟨w.heap.size, j, none⟩ = some (.int .u8 (t.data.toList.getD j 0).toNat) := fun j hj => Lib.bytesWorld_cell w 5 t j hj
  obtain ⟨W1, hW1⟩ : ∃ W1, W1 = Lib.bytesWorld w 5 t := ⟨_, rfl⟩
  rw [← hW1] at hcv hB ⊢
  clear hW1
  obtain ⟨bs, hL⟩ : ∃ bs, bs = t.data.toList := ⟨_, rfl⟩
  have hLn : bs.length = t.size := by rw [hL, Lib.size_eq]
  rw [← hL] at hB ⊢
  clear hL
  have hmv : IntKind.u64.wrap (IntKind.u64.wrap 18446744073709551616 - 1) = 18446744073709551615 := by
    rw [IntKind.wrap_u64, IntKind.wrap_u64]
    decide
  go_enter Tryz.func138, Tryz.ntmps138
  go_wp2
  go_loop [12, 13, 101] (fun vu vn vi => ∃ (k acc : Nat) (a : Int), vu = .bool false ∧ vn = .int .u64 a ∧ vi = .int .i64 k ∧ k ≤ t.size ∧ Hid (a = (acc : Int) ∧ acc ≤ 18446744073709551615 ∧ hexU 18446744073709551615 0 bs = hexU 18446744073709551615 acc (bs.drop k)))
    (fun _ _ vi => t.size - (intOf vi).toNat)
  case atStart => exact ⟨0, 0, 0, rfl, rfl, rfl, by omega, rfl, by omega, rfl⟩
  case round =>
    obtain ⟨k, acc, a, rfl, rfl, rfl, hk, hh⟩ := hrel
    obtain ⟨ha, hacc, hdec⟩ := hh.out
    clear hh
    have a0 : 0 ≤ a := by omega
    have a1 : a ≤ 18446744073709551615 := by omega
    by_cases hkn : k < t.size
    · have hc := hB k hkn
      have hdrop : bs.drop k = bs[k]'(by omega) :: bs.drop (k + 1) := List.drop_eq_getElem_cons (by omega)
      have hget : bs.getD k 0 = bs[k]'(by omega) := by simp [List.getD, List.getElem?_eq_getElem (show k < bs.length by omega)]
      rw [hdrop] at hdec
      rw [hget] at hc
      generalize bs[k]'(by omega) = c at hc hdec
      have hc256 : c.toNat < 256 := c.toNat_lt
      have HLOW := Lib.hid (low_at c)
      clear hB hdrop hget
      by_cases hdig : 48 ≤ c.toNat ∧ c.toNat ≤ 57
      · obtain ⟨hd0, hd1⟩ := hdig
        have hx : hexC c = some (c.toNat - 48) := by unfold hexC; rw [if_pos ⟨hd0, hd1⟩]
        rw [hexU, hx] at hdec
        simp only [] at hdec
        clear hx HLOW
        by_cases hcut : 1152921504606846976 ≤ acc
        · rw [if_pos hcut] at hdec
          have icut : 1152921504606846976 ≤ a := by omega
          clear hcut hacc ha
          first
          | omega
          | (go_wp2
             go_ret2
             first | exact ⟨rfl, rfl⟩ | exact ⟨by rw [hdec]; rfl, rfl⟩)
        · rw [if_neg hcut] at hdec
          have icut : a < 1152921504606846976 := by omega
          by_cases hov : 18446744073709551615 < acc * 16 + (c.toNat - 48)
          · rw [if_pos hov] at hdec
            have iov : 18446744073709551615 < a * 16 + ((c.toNat : Int) - 48) := by omega
            clear hcut hacc hov ha
            first
            | omega
            | (go_wp2
               go_ret2
               first | exact ⟨rfl, rfl⟩ | exact ⟨by rw [hdec]; rfl, rfl⟩)
          · rw [if_neg hov] at hdec
            have HN : Hid (a * 16 + ((c.toNat : Int) - 48) = ((acc * 16 + (c.toNat - 48) : Nat) : Int) ∧ acc * 16 + (c.toNat - 48) ≤ 18446744073709551615 ∧ hexU 18446744073709551615 0 bs = hexU 18446744073709551615 (acc * 16 + (c.toNat - 48)) (bs.drop (k + 1))) := Lib.hid ⟨by omega, by omega, hdec⟩
            have iov : a * 16 + ((c.toNat : Int) - 48) ≤ 18446744073709551615 := by omega
            clear hcut hacc hov hdec ha
            go_wp2
            refine ⟨⟨k + 1, acc * 16 + (c.toNat - 48), a * 16 + ((c.toNat : Int) - 48), rfl, (by first | rfl | (congr 1 <;> omega)), (by first | rfl | (congr 1 <;> omega)), by omega, HN⟩, by simp [intOf]; omega⟩
      · have hb95 : bits BinOp.or IntKind.u8 95 32 = 127 := by decide
        by_cases hlet : (97 ≤ c.toNat ∧ c.toNat ≤ 102) ∨ (65 ≤ c.toNat ∧ c.toNat ≤ 70)
        · obtain ⟨lv, hlv⟩ : ∃ lv, lv = lowN c.toNat := ⟨_, rfl⟩
          have hl1 : 97 ≤ lv ∧ lv ≤ 102 := by rw [hlv]; unfold lowN; split <;> omega
          have hx : hexC c = some (lv - 87) := by
            unfold hexC
            rw [if_neg hdig]
            rcases hlet with h | h
            · rw [if_pos h, hlv]; unfold lowN; rw [if_neg (by omega)]
            · rw [if_neg (by omega), if_pos h, hlv]; unfold lowN; rw [if_pos (by omega)]; try (congr 1 <;> omega)
          have HLV : Hid (bits BinOp.or IntKind.u8 (c.toNat : Int) 32 = (lv : Int)) := by rw [Hid, hlv]; exact HLOW.out
          have hndig : ¬ ((c.toNat : Int) ≤ 57) := by omega
          have h95 : ((c.toNat : Int) == 95) = false := by rw [beq_eq_false_iff_ne]; omega
          rw [hexU, hx] at hdec
          simp only [] at hdec
          clear hx HLOW hlv hdig hlet
          obtain ⟨hl0, hl1⟩ := hl1
          by_cases hcut : 1152921504606846976 ≤ acc
          · rw [if_pos hcut] at hdec
            have icut : 1152921504606846976 ≤ a := by omega
            clear hcut hacc ha
            first
            | omega
            | (go_wp2_with (go_at_call 167; refine (Tryz.internal_strconv_lower _ _).mono ?_; rintro e w' ⟨rfl, rfl⟩; rw [HLV.out])
               go_ret2
               first | exact ⟨rfl, rfl⟩ | exact ⟨by rw [hdec]; rfl, rfl⟩)
          · rw [if_neg hcut] at hdec
            have icut : a < 1152921504606846976 := by omega
            by_cases hov : 18446744073709551615 < acc * 16 + (lv - 87)
            · rw [if_pos hov] at hdec
              have iov : 18446744073709551615 < a * 16 + ((lv : Int) - 97 + 10) := by omega
              clear hcut hacc hov ha
              first
              | omega
              | (go_wp2_with (go_at_call 167; refine (Tryz.internal_strconv_lower _ _).mono ?_; rintro e w' ⟨rfl, rfl⟩; rw [HLV.out])
                 go_ret2
                 first | exact ⟨rfl, rfl⟩ | exact ⟨by rw [hdec]; rfl, rfl⟩)
            · rw [if_neg hov] at hdec
              have HN : Hid (a * 16 + ((lv : Int) - 97 + 10) = ((acc * 16 + (lv - 87) : Nat) : Int) ∧ acc * 16 + (lv - 87) ≤ 18446744073709551615 ∧ hexU 18446744073709551615 0 bs = hexU 18446744073709551615 (acc * 16 + (lv - 87)) (bs.drop (k + 1))) := Lib.hid ⟨by omega, by omega, hdec⟩
              have iov : a * 16 + ((lv : Int) - 97 + 10) ≤ 18446744073709551615 := by omega
              clear hcut hacc hov hdec ha
              go_wp2_with (go_at_call 167; refine (Tryz.internal_strconv_lower _ _).mono ?_; rintro e w' ⟨rfl, rfl⟩; rw [HLV.out])
              refine ⟨⟨k + 1, acc * 16 + (lv - 87), a * 16 + ((lv : Int) - 97 + 10), rfl, (by first | rfl | (congr 1 <;> omega)), (by first | rfl | (congr 1 <;> omega)), by omega, HN⟩, by simp [intOf]; omega⟩
        · have hx : hexC c = none := by
            unfold hexC
            rw [if_neg hdig, if_neg (by omega), if_neg (by omega)]
          rw [hexU, hx] at hdec
          simp only [] at hdec
          have hlv : ¬ (97 ≤ lowN c.toNat ∧ lowN c.toNat ≤ 102) := by unfold lowN; split <;> omega
          have hl256 : lowN c.toNat < 256 := by unfold lowN; split <;> omega
          generalize lowN c.toNat = lv at *
          clear hx hacc ha hlet
          by_cases hz : 97 ≤ lv ∧ lv ≤ 122
          · obtain ⟨hz0, hz1⟩ := hz
            have hz2 : 103 ≤ lv := by omega
            clear hlv
            go_wp2_with (go_at_call 167; refine (Tryz.internal_strconv_lower _ _).mono ?_; rintro e w' ⟨rfl, rfl⟩; first | rw [HLOW.out] | rw [hb95])
            all_goals go_ret2
            all_goals first | exact ⟨rfl, rfl⟩ | exact ⟨by rw [hdec]; rfl, rfl⟩
          · clear hlv
            go_wp2_with (go_at_call 167; refine (Tryz.internal_strconv_lower _ _).mono ?_; rintro e w' ⟨rfl, rfl⟩; first | rw [HLOW.out] | rw [hb95])
            all_goals go_ret2
            all_goals first | exact ⟨rfl, rfl⟩ | exact ⟨by rw [hdec]; rfl, rfl⟩
    · have hkk : k = t.size := by omega
      subst hkk
      have hF : hexU 18446744073709551615 acc (bs.drop t.size) = .ok acc := by rw [List.drop_eq_nil_of_le (by omega)]; rfl
      rw [hF] at hdec
      subst ha
      clear hacc hF a0 a1
      go_wp2
      go_ret2
      first | exact ⟨rfl, rfl⟩ | exact ⟨by rw [hdec]; rfl, rfl⟩
theorem ipu16_8 (t : ByteArray) (hmax : t.size ≤ 9223372036854775806) (w : World) :
    Calls Tryz.prog 138 #[.string t, .int .i64 16, .int .i64 8] w fun e w' => e = .returned (puTup 255 (puE 255 t.data.toList)) ∧ Below w.heap.size w w' := by
  unfold puE
  by_cases h0 : t.size = 0
  · obtain rfl : t = ⟨#[]⟩ := by
      apply ByteArray.ext
      exact Array.eq_empty_of_size_eq_zero h0
    rw [if_pos (by rfl)]
    exact (Tryz.internal_strconv_ParseUint_empty 16 8 w).mono fun e w' ⟨he, hw⟩ => ⟨he, hw ▸ Below.refl _ _⟩
  · rw [if_neg (by intro h; apply h0; have := congrArg List.length h; rw [← Lib.size_eq] at this; exact this)]
    exact (ipu16_ne8 t h0 hmax w).mono fun e w' ⟨he, hw⟩ => ⟨he, hw ▸ Lib.bytesWorld_below _ _ _⟩
theorem ipu16_64 (t : ByteArray) (hmax : t.size ≤ 9223372036854775806) (w : World) :
    Calls Tryz.prog 138 #[.string t, .int .i64 16, .int .i64 64] w fun e w' => e = .returned (puTup 18446744073709551615 (puE 18446744073709551615 t.data.toList)) ∧ Below w.heap.size w w' := by
  unfold puE
  by_cases h0 : t.size = 0
  · obtain rfl : t = ⟨#[]⟩ := by
      apply ByteArray.ext
      exact Array.eq_empty_of_size_eq_zero h0
    rw [if_pos (by rfl)]
    exact (Tryz.internal_strconv_ParseUint_empty 16 64 w).mono fun e w' ⟨he, hw⟩ => ⟨he, hw ▸ Below.refl _ _⟩
  · rw [if_neg (by intro h; apply h0; have := congrArg List.length h; rw [← Lib.size_eq] at this; exact this)]
    exact (ipu16_ne64 t h0 hmax w).mono fun e w' ⟨he, hw⟩ => ⟨he, hw ▸ Lib.bytesWorld_below _ _ _⟩
def puPost (M : Nat) (l : List UInt8) (e : Ending) : Prop := ∃ err, e = .returned (.tuple #[.int .u64 (puV M l), err]) ∧ ((∃ v, puE M l = .ok v) ∧ err = .nilIface ∨ (¬ ∃ v, puE M l = .ok v) ∧ ∃ N, err = .iface 186 (.pointer (some ⟨N, 0, none⟩)))
structure Errs (w : World) : Prop where
  syn : ∃ ev, w.cell? ⟨4, 0, none⟩ = some ev ∧ (ev = .nilIface ∨ ∃ te pe, ev = .iface te pe)
  ran : ∃ ev, w.cell? ⟨5, 0, none⟩ = some ev ∧ (ev = .nilIface ∨ ∃ te pe, ev = .iface te pe)
theorem Errs.later {w w' : World} (h : Errs w) (hb : Below w.heap.size w w') : Errs w' := by
  obtain ⟨⟨a, h1, h2⟩, ⟨b, h3, h4⟩⟩ := h
  exact ⟨⟨a, (hb.cell (p := ⟨4, 0, none⟩) (Lib.lt_of_cell h1)).trans h1, h2⟩, ⟨b, (hb.cell (p := ⟨5, 0, none⟩) (Lib.lt_of_cell h3)).trans h3, h4⟩⟩
set_option maxRecDepth 100000 in
set_option maxHeartbeats 4000000 in
theorem pu16_8 (t : ByteArray) (hlim : t.size ≤ 281474976710656) (w : World) (hE : Errs w) :
    Calls Tryz.prog 106 #[.string t, .int .i64 16, .int .i64 8] w fun e w' => puPost 255 t.data.toList e ∧ Below w.heap.size w w' := by
  obtain ⟨⟨evs, hs1, hs2⟩, ⟨evr, hr1, hr2⟩⟩ := hE
  have hI := ipu16_8 t (by omega) w
  obtain ⟨l, hl⟩ : ∃ l, l = t.data.toList := ⟨_, rfl⟩
  rw [← hl] at hI ⊢
  clear hl
  have HP : ∀ v, puE 255 l = .ok v → puV 255 l = v := by intro v h; unfold puV; rw [h]
  have HS : puE 255 l = badN → puV 255 l = 0 := by intro h; unfold puV; rw [h]; rfl
  have HR : puE 255 l = .range → puV 255 l = 255 := by intro h; unfold puV; rw [h]
  unfold puPost
  generalize puV 255 l = pv at *
  generalize puE 255 l = r at *
  cases r with
  | ok v =>
    have hv := HP v rfl
    subst hv
    clear HP HS HR hs1 hs2 hr1 hr2
    simp only [puTup] at hI
    have HI := Lib.hid hI
    clear hI
    go_enter Tryz.func106, Tryz.ntmps106
    go_wp2_with fail
    refine HI.out.mono ?_
    rintro e w1 ⟨rfl, hb⟩
    have HB := Lib.hid hb
    clear hb
    go_wp2
    go_ret2
    exact ⟨⟨_, rfl, .inl ⟨⟨_, rfl⟩, rfl⟩⟩, HB.out⟩
  | range =>
    have hv := HR rfl
    subst hv
    simp only [puTup] at hI
    have HI := Lib.hid hI
    have HX := Lib.hid (And.intro hr1 hr2)
    clear hI HP HS HR hs1 hs2 hr1 hr2
    go_enter Tryz.func106, Tryz.ntmps106
    go_wp2_with fail
    refine HI.out.mono ?_
    rintro e w1 ⟨rfl, hb⟩
    have HB := Lib.hid hb
    have HV := Lib.hid ((hb.cell (p := ⟨5, 0, none⟩) (Lib.lt_of_cell HX.out.1)).trans HX.out.1)
    clear hb
    go_wp2_with fail
    refine (Tryz.strconv_toError_range _ t 16 8 evr _ hlim HV.out HX.out.2).mono ?_
    rintro e w2 ⟨N, rfl, h1, h2, h3⟩
    have HB2 := Lib.hid (HB.out.trans (h3.mono HB.out.size))
    clear h1 h2 h3
    go_wp2
    go_ret2
    exact ⟨⟨_, rfl, .inr ⟨(by rintro ⟨v, h⟩; cases h), N, rfl⟩⟩, HB2.out⟩
  | _ =>
    have hv := HS rfl
    subst hv
    simp only [puTup] at hI
    have HI := Lib.hid hI
    have HX := Lib.hid (And.intro hs1 hs2)
    clear hI HP HS HR hs1 hs2 hr1 hr2
    go_enter Tryz.func106, Tryz.ntmps106
    go_wp2_with fail
    refine HI.out.mono ?_
    rintro e w1 ⟨rfl, hb⟩
    have HB := Lib.hid hb
    have HV := Lib.hid ((hb.cell (p := ⟨4, 0, none⟩) (Lib.lt_of_cell HX.out.1)).trans HX.out.1)
    clear hb
    go_wp2_with fail
    refine (Tryz.strconv_toError_syntax _ t 16 8 evs _ hlim HV.out HX.out.2).mono ?_
    rintro e w2 ⟨N, rfl, h1, h2, h3⟩
    have HB2 := Lib.hid (HB.out.trans (h3.mono HB.out.size))
    clear h1 h2 h3
    go_wp2
    go_ret2
    exact ⟨⟨_, rfl, .inr ⟨(by rintro ⟨v, h⟩; cases h), N, rfl⟩⟩, HB2.out⟩
set_option maxRecDepth 100000 in
set_option maxHeartbeats 4000000 in
theorem pu16_64 (t : ByteArray) (hlim : t.size ≤ 281474976710656) (w : World) (hE : Errs w) :
    Calls Tryz.prog 106 #[.string t, .int .i64 16, .int .i64 64] w fun e w' => puPost 18446744073709551615 t.data.toList e ∧ Below w.heap.size w w' := by
  obtain ⟨⟨evs, hs1, hs2⟩, ⟨evr, hr1, hr2⟩⟩ := hE
  have hI := ipu16_64 t (by omega) w
  obtain ⟨l, hl⟩ : ∃ l, l = t.data.toList := ⟨_, rfl⟩
  rw [← hl] at hI ⊢
  clear hl
  have HP : ∀ v, puE 18446744073709551615 l = .ok v → puV 18446744073709551615 l = v := by intro v h; unfold puV; rw [h]
  have HS : puE 18446744073709551615 l = badN → puV 18446744073709551615 l = 0 := by intro h; unfold puV; rw [h]; rfl
  have HR : puE 18446744073709551615 l = .range → puV 18446744073709551615 l = 18446744073709551615 := by intro h; unfold puV; rw [h]
  unfold puPost
  generalize puV 18446744073709551615 l = pv at *
  generalize puE 18446744073709551615 l = r at *
  cases r with
  | ok v =>
    have hv := HP v rfl
    subst hv
    clear HP HS HR hs1 hs2 hr1 hr2
    simp only [puTup] at hI
    have HI := Lib.hid hI
    clear hI
    go_enter Tryz.func106, Tryz.ntmps106
    go_wp2_with fail
    refine HI.out.mono ?_
    rintro e w1 ⟨rfl, hb⟩
    have HB := Lib.hid hb
    clear hb
    go_wp2
    go_ret2
    exact ⟨⟨_, rfl, .inl ⟨⟨_, rfl⟩, rfl⟩⟩, HB.out⟩
  | range =>
    have hv := HR rfl
    subst hv
    simp only [puTup] at hI
    have HI := Lib.hid hI
    have HX := Lib.hid (And.intro hr1 hr2)
    clear hI HP HS HR hs1 hs2 hr1 hr2
    go_enter Tryz.func106, Tryz.ntmps106
    go_wp2_with fail
    refine HI.out.mono ?_
    rintro e w1 ⟨rfl, hb⟩
    have HB := Lib.hid hb
    have HV := Lib.hid ((hb.cell (p := ⟨5, 0, none⟩) (Lib.lt_of_cell HX.out.1)).trans HX.out.1)
    clear hb
    go_wp2_with fail
    refine (Tryz.strconv_toError_range _ t 16 64 evr _ hlim HV.out HX.out.2).mono ?_
    rintro e w2 ⟨N, rfl, h1, h2, h3⟩
    have HB2 := Lib.hid (HB.out.trans (h3.mono HB.out.size))
    clear h1 h2 h3
    go_wp2
    go_ret2
    exact ⟨⟨_, rfl, .inr ⟨(by rintro ⟨v, h⟩; cases h), N, rfl⟩⟩, HB2.out⟩
  | _ =>
    have hv := HS rfl
    subst hv
    simp only [puTup] at hI
    have HI := Lib.hid hI
    have HX := Lib.hid (And.intro hs1 hs2)
    clear hI HP HS HR hs1 hs2 hr1 hr2
    go_enter Tryz.func106, Tryz.ntmps106
    go_wp2_with fail
    refine HI.out.mono ?_
    rintro e w1 ⟨rfl, hb⟩
    have HB := Lib.hid hb
    have HV := Lib.hid ((hb.cell (p := ⟨4, 0, none⟩) (Lib.lt_of_cell HX.out.1)).trans HX.out.1)
    clear hb
    go_wp2_with fail
    refine (Tryz.strconv_toError_syntax _ t 16 64 evs _ hlim HV.out HX.out.2).mono ?_
    rintro e w2 ⟨N, rfl, h1, h2, h3⟩
    have HB2 := Lib.hid (HB.out.trans (h3.mono HB.out.size))
    clear h1 h2 h3
    go_wp2
    go_ret2
    exact ⟨⟨_, rfl, .inr ⟨(by rintro ⟨v, h⟩; cases h), N, rfl⟩⟩, HB2.out⟩
section
variable {κ : Type} [DecidableEq κ] {P : Program} {t kt e : TypeId} {enc : κ → Value}
theorem wpList_ins (K : KeyOk P kt κ enc) (ht : P.underlying t = some (.map kt e)) {w : World} {ops : Array Oper} {rest : List Oper} {o : Oper} {a : Act} {Q : Exit → Act → World → Prop} (hg : o.guard = none) {m x v : Operand} (hop : o.op = Op.insert t m x v)
    {b : Nat} {F : κ → Option Value} (hm : a.eval m = .map (some b)) (h : MapFn w enc b F) {k : κ} (hx : a.eval x = enc k) {val : Value} (hv : a.eval v = val)
    (hK : ∀ w', MapFn w' enc b (fun y => if y = k then some val else F y) → Chg (fun n => n = b) w w' → w'.heap.size = w.heap.size → wpList P ops Q rest (a.put o.dst undef) w') : wpList P ops Q (o :: rest) a w := by
  refine wpList_plain hg fun K' hK' => ?_
  obtain ⟨w', hrun, r1, r2, r3⟩ := run_update_fn K ht h k val
  unfold Oper.wp
  simp [execOp, hop, hm, hx, hv, hrun, Result.andThen]
  exact hK' _ _ (hK w' r1 r2 r3)
end
theorem keyS : KeyOk Tryz.prog 9 ByteArray Value.string := keyString Tryz.underlying9
set_option maxRecDepth 100000 in
set_option maxHeartbeats 1000000 in
theorem nan_any (w : World) : Calls Tryz.prog 156 #[] w fun e w' => e = .returned (.float .f64 9221120237041090561) ∧ w = w' := by
  have hb : ∀ (w : World), (callFunc 110 #[.int .u64 9221120237041090561]).run Tryz.prog w = .ok (.value (.float .f64 9221120237041090561)) w := call_bits2 9221120237041090561
  go_enter Tryz.func156, Tryz.ntmps156
  go_wp2
  go_ret
  exact ⟨rfl, rfl⟩
set_option maxRecDepth 100000 in
set_option maxHeartbeats 1000000 in
theorem inf_any (w : World) : Calls Tryz.prog 157 #[.int .i64 1] w fun e w' => e = .returned (.float .f64 9218868437227405312) ∧ w = w' := by
  have hb : ∀ (w : World), (callFunc 110 #[.int .u64 9218868437227405312]).run Tryz.prog w = .ok (.value (.float .f64 9218868437227405312)) w := call_bits2 9218868437227405312
  go_enter Tryz.func157, Tryz.ntmps157
  go_wp2
  go_ret
  exact ⟨rfl, rfl⟩
set_option maxRecDepth 100000 in
set_option maxHeartbeats 1000000 in
theorem minf_any (w : World) : Calls Tryz.prog 157 #[.int .i64 (-1)] w fun e w' => e = .returned (.float .f64 18442240474082181120) ∧ w = w' := by
  have hb : ∀ (w : World), (callFunc 110 #[.int .u64 18442240474082181120]).run Tryz.prog w = .ok (.value (.float .f64 18442240474082181120)) w := call_bits2 18442240474082181120
  go_enter Tryz.func157, Tryz.ntmps157
  go_wp2
  go_ret
  exact ⟨rfl, rfl⟩
set_option maxRecDepth 100000 in
set_option maxHeartbeats 1000000 in
theorem cps_any (w : World) : Calls Tryz.prog 158 #[.float .f64 0, .float .f64 13830554455654793216] w fun e w' => e = .returned (.float .f64 9223372036854775808) ∧ w = w' := by
  have hb0 : ∀ (w : World), (callFunc 73 #[.float .f64 0]).run Tryz.prog w = .ok (.value (.int .u64 0)) w := call_bits 0
  have hb1 : ∀ (w : World), (callFunc 73 #[.float .f64 13830554455654793216]).run Tryz.prog w = .ok (.value (.int .u64 13830554455654793216)) w := call_bits 13830554455654793216
  have h1 : bits BinOp.andNot IntKind.u64 0 9223372036854775808 = 0 := by decide +kernel
  have h2 : bits BinOp.and IntKind.u64 13830554455654793216 9223372036854775808 = 9223372036854775808 := by decide +kernel
  have h3 : bits BinOp.or IntKind.u64 0 9223372036854775808 = 9223372036854775808 := by decide +kernel
  have hb : ∀ (w : World), (callFunc 110 #[.int .u64 9223372036854775808]).run Tryz.prog w = .ok (.value (.float .f64 9223372036854775808)) w := call_bits2 9223372036854775808
  go_enter Tryz.func158, Tryz.ntmps158
  go_wp2
  go_ret
  exact ⟨rfl, rfl⟩
theorem ba_data' (s : ByteArray) : (⟨s.data.toList.toArray⟩ : ByteArray) = s := by cases s; simp
def specF (s : ByteArray) : Option Value := (special s.data.toList).map fun f => .float .f64 f
theorem ba_eq_iff (s : ByteArray) (l : List UInt8) : s = ⟨l.toArray⟩ ↔ s.data.toList = l := by
  constructor
  · rintro rfl; rfl
  · rintro rfl; exact (ba_data' s).symm
theorem specF_eq : specF = (fun y => if y = ⟨#[45, 48]⟩ then some (.float .f64 9223372036854775808) else if y = ⟨#[48]⟩ then some (.float .f64 0) else if y = ⟨#[45, 105, 110, 102]⟩ then some (.float .f64 18442240474082181120) else if y = ⟨#[105, 110, 102]⟩ then some (.float .f64 9218868437227405312) else if y = ⟨#[110, 97, 110]⟩ then some (.float .f64 9221120237041090561) else none) := by
  funext s
  unfold specF special
  have h1 := ba_eq_iff s nanL
  have h2 := ba_eq_iff s infL
  have h3 := ba_eq_iff s minfL
  have h4 := ba_eq_iff s zeroL
  have h5 := ba_eq_iff s mzeroL
  have d12 : nanL ≠ infL := by decide
  have d13 : nanL ≠ minfL := by decide
  have d14 : nanL ≠ zeroL := by decide
  have d15 : nanL ≠ mzeroL := by decide
  have d23 : infL ≠ minfL := by decide
  have d24 : infL ≠ zeroL := by decide
  have d25 : infL ≠ mzeroL := by decide
  have d34 : minfL ≠ zeroL := by decide
  have d35 : minfL ≠ mzeroL := by decide
  have d45 : zeroL ≠ mzeroL := by decide
  show _ = (if s = ⟨mzeroL.toArray⟩ then _ else if s = ⟨zeroL.toArray⟩ then _ else if s = ⟨minfL.toArray⟩ then _ else if s = ⟨infL.toArray⟩ then _ else if s = ⟨nanL.toArray⟩ then _ else _)
  simp only [h1, h2, h3, h4, h5]
  generalize s.data.toList = l at *
  clear h1 h2 h3 h4 h5
  by_cases e1 : l = nanL
  · subst e1
    rw [if_pos rfl, if_neg d15, if_neg d14, if_neg d13, if_neg d12, if_pos rfl]; rfl
  rw [if_neg e1]
  by_cases e2 : l = infL
  · subst e2
    rw [if_pos rfl, if_neg d25, if_neg d24, if_neg d23, if_pos rfl]; rfl
  rw [if_neg e2]
  by_cases e3 : l = minfL
  · subst e3
    rw [if_pos rfl, if_neg d35, if_neg d34, if_pos rfl]; rfl
  rw [if_neg e3]
  by_cases e4 : l = zeroL
  · subst e4
    rw [if_pos rfl, if_neg d45, if_pos rfl]; rfl
  rw [if_neg e4]
  by_cases e5 : l = mzeroL
  · subst e5
    rw [if_pos rfl, if_pos rfl]; rfl
  rw [if_neg e5, if_neg e5, if_neg e4, if_neg e3, if_neg e2, if_neg e1]; rfl
set_option maxRecDepth 100000 in
set_option maxHeartbeats 4000000 in
theorem special_any (w : World) :
    Calls Tryz.prog 129 #[] w fun e w' => e = .returned (.map (some w.heap.size)) ∧ MapFn w' Value.string w.heap.size specF ∧ Below w.heap.size w w' := by
  have HM := MapFn.made w Value.string
  have HC : Hid (Below w.heap.size w (w.alloc (.map #[] 0))) := (Below.refl _ _).alloc (Nat.le_refl _) _
  have hcn : canonB 9221120237041090561 = 9221120237041090561 := by decide
  have HCN := fun W => canon_any 9221120237041090561 (by decide) W
  rw [hcn] at HCN
  have hmm := @run_makeMap Tryz.prog
  go_enter Tryz.func129, Tryz.ntmps129
  go_wp2_with (first
    | (go_at_call 156; refine (nan_any _).mono ?_; rintro e w1 ⟨rfl, rfl⟩)
    | (go_at_call 74; refine (HCN _).mono ?_; rintro e w1 ⟨rfl, rfl⟩)
    | (go_at_call 158; refine (cps_any _).mono ?_; rintro e w1 ⟨rfl, rfl⟩)
    | (go_at_call 157; first | (refine (inf_any _).mono ?_; rintro e w1 ⟨rfl, rfl⟩) | (refine (minf_any _).mono ?_; rintro e w1 ⟨rfl, rfl⟩))
    | (refine wpList_ins keyS Tryz.underlying170 rfl rfl (b := w.heap.size) rfl (by assumption) rfl rfl ?_; intro w1 hm1 hc1 hs1; replace HC := Lib.hid (HC.out.trans (hc1.toBelow HC.out.size (fun n hn h => by omega))); clear hc1 hs1))
  go_ret
  refine ⟨rfl, ?_, HC.out⟩
  have hF : specF = _ := specF_eq
  rw [hF]
  exact hm1
theorem zeroF (w : World) : (zeroValue 23).run Tryz.prog w = .ok (.float .f64 0) w := by kernel_rfl
theorem puV_ok {M : Nat} {l : List UInt8} {v : Nat} (h : puE M l = .ok v) : puV M l = v := by unfold puV; rw [h]
set_option maxRecDepth 100000 in
set_option maxHeartbeats 4000000 in
theorem nparse_any (s : ByteArray) (hs : s.size ≤ 1000000) (w : World) (hE : Errs w) (hT : w.cell? ⟨9, 15, none⟩ = some (.int .u8 4)) :
    Calls Tryz.prog 104 #[.string s] w fun e w' => (∃ ok, e = .returned (.tuple #[.float .f64 (numParseF s.data.toList), .bool ok])) ∧ Below w.heap.size w w' := by
  have HE := Lib.hid hE
  have HT := Lib.hid hT
  have hg : 9 < w.heap.size := World.block_lt_of_cell? w ⟨9, 15, none⟩ hT
  clear hE hT
  cases hsp : special s.data.toList with
  | some f =>
    have hF : specF s = some (.float .f64 f) := by unfold specF; rw [hsp]; rfl
    have hN : numParseF s.data.toList = f := by unfold numParseF; rw [hsp]
    rw [hN]
    clear hN hsp
    go_enter Tryz.func104, Tryz.ntmps104
    go_wp2_with fail
    refine (special_any _).mono ?_
    rintro e w1 ⟨rfl, hm, hb⟩
    have hlk := run_lookup_fn keyS Tryz.underlying170 (zeroF w1) hm s true
    rw [hF] at hlk
    simp only [Option.getD_some, Option.isSome_some, if_true] at hlk
    have HB := Lib.hid hb
    clear hb hm hF
    go_wp2
    go_ret2
    exact ⟨⟨_, rfl⟩, HB.out⟩
  | none =>
    have hF : specF s = none := by unfold specF; rw [hsp]; rfl
    have HSZ : s.size = s.data.toList.length := by rw [← Lib.size_eq]
    have HCP := fun W => Tryz.strings_CutPrefix s ⟨#[120]⟩ W
    by_cases hx : ∃ r, s.data.toList = 120 :: r
    · obtain ⟨r, hr⟩ := hx
      have hpre : Lib.hasPrefix s.data.toList [120] = true := by rw [hr]; rfl
      have htp : Lib.trimPrefix s.data.toList [120] = r := by unfold Lib.trimPrefix; rw [hpre, if_pos rfl, hr]; rfl
      have HCP : Hid (∀ W, Calls Tryz.prog 130 #[.string s, .string ⟨#[120]⟩] W fun e w' => e = .returned (.tuple #[.string ⟨r.toArray⟩, .bool true]) ∧ w' = W) := by
        intro W
        have h := HCP W
        rw [show (⟨#[120]⟩ : ByteArray).data.toList = [120] from rfl, hpre, htp] at h
        exact h
      have hrl : r.length ≤ 1000000 := by rw [hr, List.length_cons] at HSZ; omega
      have HPF : Hid (numParseF s.data.toList = (match puE 18446744073709551615 r with | .ok b => if numTextL b = s.data.toList then b else 0 | _ => 0)) := by
        rw [Hid]; unfold numParseF; rw [hsp]; simp only [hr, if_pos]; rfl
      obtain ⟨rb, hrb⟩ : ∃ rb : ByteArray, rb = ⟨r.toArray⟩ := ⟨_, rfl⟩
      have hrb2 : rb.data.toList = r := by rw [hrb]
      have hrsz : rb.size ≤ 1000000 := by rw [Lib.size_eq, hrb2]; exact hrl
      rw [← hrb] at HCP
      have HRB := Lib.hid hrb2
      obtain ⟨F, hF0⟩ : ∃ F, F = numParseF s.data.toList := ⟨_, rfl⟩
      rw [← hF0] at HPF ⊢
      obtain ⟨sl, hsl⟩ : ∃ sl, sl = s.data.toList := ⟨_, rfl⟩
      rw [← hsl] at HPF
      have HSL := Lib.hid hsl
      clear hrb hrb2 hrl htp hpre hsp hr HSZ hF0 hsl
      go_enter Tryz.func104, Tryz.ntmps104
      go_wp2_with fail
      refine (special_any _).mono ?_
      rintro e w1 ⟨rfl, hm, hb⟩
      have hlk := run_lookup_fn keyS Tryz.underlying170 (zeroF w1) hm s true
      rw [hF] at hlk
      simp only [Option.getD_none, Option.isSome_none, if_true] at hlk
      have HB := Lib.hid hb
      have HE1 := Lib.hid (HE.out.later hb)
      have HT1 : Hid (w1.cell? ⟨9, 15, none⟩ = some (.int .u8 4)) := (hb.cell (p := ⟨9, 15, none⟩) hg).trans HT.out
      clear hb hm hF HE HT
      have hg1 : 9 < w1.heap.size := Nat.lt_of_lt_of_le hg HB.out.size
      go_wp2_with fail
      refine (HCP.out _).mono ?_
      rintro e w2 ⟨rfl, rfl⟩
      clear hlk HCP
      go_wp2_with fail
      refine (pu16_64 rb (by omega) _ HE1.out).mono ?_
      rintro e w3 ⟨⟨err, rfl, herr⟩, hb3⟩
      have HB3 := Lib.hid (HB.out.trans (hb3.mono HB.out.size))
      have HT3 : Hid (w3.cell? ⟨9, 15, none⟩ = some (.int .u8 4)) := (hb3.cell (p := ⟨9, 15, none⟩) hg1).trans HT1.out
      have hpl := puV_le 18446744073709551615 rb.data.toList
      rw [HRB.out] at herr hpl ⊢
      have HPV : Hid (∀ v, puE 18446744073709551615 r = .ok v → puV 18446744073709551615 r = v) := fun v h => puV_ok h
      clear hb3 HE1 HT1 HRB
      generalize puV 18446744073709551615 r = pv at *
      rcases herr with ⟨⟨v, hv⟩, rfl⟩ | ⟨hno, N, rfl⟩
      · have hvv := HPV.out v hv
        subst hvv
        rw [Hid, hv] at HPF
        simp only [] at HPF
        have HPF2 := Lib.hid HPF
        have hb2 : ∀ (w : World), (callFunc 110 #[.int .u64 pv]).run Tryz.prog w = .ok (.value (.float .f64 pv)) w := call_bits2 pv
        have HNT := Lib.hid (ntext_any pv (by omega) w3 HT3.out)
        clear hv HPF HPV HT3
        go_wp2_with fail
        refine HNT.out.mono ?_
        rintro e w4 ⟨rfl, hb4⟩
        have HB4 := Lib.hid (HB3.out.trans (hb4.mono HB3.out.size))
        clear hb4 HNT
        obtain ⟨tb, htb⟩ : ∃ tb : ByteArray, tb = ⟨(numTextL pv).toArray⟩ := ⟨_, rfl⟩
        have htb2 : tb.data.toList = numTextL pv := by rw [htb]
        rw [← htb]
        by_cases he : tb = s
        · have : F = pv := by rw [HPF2.out, if_pos]; rw [HSL.out, ← he, htb2]
          subst this
          have HT := Lib.hid htb
          clear htb htb2 HPF2
          subst he
          go_wp2
          go_ret2
          exact ⟨⟨_, rfl⟩, HB4.out⟩
        · have : F = 0 := by
            rw [HPF2.out, if_neg]
            intro h
            apply he
            rw [HSL.out, ← htb2] at h
            rw [← ba_data' tb, h, ba_data']
          subst this
          have hne := ba_beq tb s
          rw [decide_eq_false he] at hne
          have hne2 := beq_toListBytes tb s
          rw [hne] at hne2
          have hne3 := hne2.symm
          clear htb htb2 HPF2 hne hne2
          go_wp2
          go_ret2
          exact ⟨⟨_, rfl⟩, HB4.out⟩
      · have h0 : F = 0 := by
          rw [HPF.out]
          cases hh : puE 18446744073709551615 r with
          | ok v => exact absurd ⟨v, hh⟩ hno
          | range => rfl
          | _ => rfl
        subst h0
        clear HPF HPV hno HT3
        go_wp2
        go_ret2
        exact ⟨⟨_, rfl⟩, HB3.out⟩
    · have hpre : Lib.hasPrefix s.data.toList [120] = false := by
        cases hl : s.data.toList with
        | nil => rfl
        | cons c r =>
          have : c ≠ 120 := fun e => hx ⟨r, by rw [hl, e]⟩
          show (([120] : List UInt8).isPrefixOf (c :: r)) = false
          simp [List.isPrefixOf, Ne.symm this]
      have htp : Lib.trimPrefix s.data.toList [120] = s.data.toList := by unfold Lib.trimPrefix; rw [hpre]; rfl
      have HCP : Hid (∀ W, Calls Tryz.prog 130 #[.string s, .string ⟨#[120]⟩] W fun e w' => e = .returned (.tuple #[.string s, .bool false]) ∧ w' = W) := by
        intro W
        have h := HCP W
        rw [show (⟨#[120]⟩ : ByteArray).data.toList = [120] from rfl, hpre, htp, ba_data'] at h
        exact h
      have HPF : numParseF s.data.toList = 0 := by
        unfold numParseF; rw [hsp]
        cases hl : s.data.toList with
        | nil => rfl
        | cons c r =>
          have : c ≠ 120 := fun e => hx ⟨r, by rw [hl, e]⟩
          simp only [if_neg this]
      rw [HPF]
      clear htp hpre hsp HSZ HPF hx
      go_enter Tryz.func104, Tryz.ntmps104
      go_wp2_with fail
      refine (special_any _).mono ?_
      rintro e w1 ⟨rfl, hm, hb⟩
      have hlk := run_lookup_fn keyS Tryz.underlying170 (zeroF w1) hm s true
      rw [hF] at hlk
      simp only [Option.getD_none, Option.isSome_none, if_true] at hlk
      have HB := Lib.hid hb
      have HE1 := Lib.hid (HE.out.later hb)
      clear hb hm hF HE HT
      go_wp2_with fail
      refine (HCP.out _).mono ?_
      rintro e w2 ⟨rfl, rfl⟩
      clear hlk HCP
      go_wp2_with fail
      refine (pu16_64 s (by omega) _ HE1.out).mono ?_
      rintro e w3 ⟨⟨err, rfl, herr⟩, hb3⟩
      have HB3 := Lib.hid (HB.out.trans (hb3.mono HB.out.size))
      clear hb3 HE1 herr
      generalize puV 18446744073709551615 s.data.toList = pv at *
      go_wp2
      go_ret2
      exact ⟨⟨_, rfl⟩, HB3.out⟩
abbrev digD : ByteArray := ⟨#[48, 49, 50, 51, 52, 53, 54, 55, 56, 57]⟩
theorem digD_all : ∀ n : Fin 10, (digD.extract n.val (n.val + 1)) = ⟨#[UInt8.ofNat (48 + n.val)]⟩ := by decide +kernel
theorem digD_at (n : Nat) (h : n < 10) : digD.extract n (n + 1) = ⟨#[UInt8.ofNat (48 + n)]⟩ := digD_all ⟨n, h⟩
theorem dec_len : ∀ (k u : Nat), u < 10 ^ (k + 1) → (Lib.decDigits u).length ≤ k + 1
  | 0, u, h => by rw [Lib.decDigits, dif_pos (by simpa using h)]; simp
  | k + 1, u, h => by
    rw [Lib.decDigits]
    split
    · simp
    · rw [List.length_append]
      have := dec_len k (u / 10) (by rw [Nat.div_lt_iff_lt_mul (by decide)]; exact h)
      simp; omega
def decPre (u : Nat) : List UInt8 := if u < 10 then [] else Lib.decDigits (u / 10)
theorem dec_split (u : Nat) : Lib.decDigits u = decPre u ++ [UInt8.ofNat (48 + u % 10)] := by
  rw [Lib.decDigits]
  unfold decPre
  split
  · rename_i h; rw [Nat.mod_eq_of_lt h]; rfl
  · rfl
set_option maxRecDepth 100000 in
set_option maxHeartbeats 1000000 in
theorem rdigits_any (n : Nat) (hn : n < 18446744073709551616) (w : World) :
    Calls Tryz.prog 111 #[.int .u64 n] w fun e w' => e = .returned (.string ⟨(Lib.decDigits n).toArray⟩) ∧ w = w' := by
  have hlen := dec_len 20 n (by omega)
  obtain ⟨D, hD⟩ : ∃ D, D = Lib.decDigits n := ⟨_, rfl⟩
  rw [← hD] at hlen ⊢
  have hm : n % 10 < 10 := Nat.mod_lt _ (by decide)
  have hx := digD_at (n % 10) hm
  have HD : Hid (D = decPre n ++ (digD.extract (n % 10) (n % 10 + 1)).data.toList) := by rw [Hid, hD, dec_split, hx]
  clear hD hx
  go_enter Tryz.func111, Tryz.ntmps111
  go_wp2_with fail
  go_loopw [0, 3] (fun a b w' => ∃ (m : Nat) (sm : ByteArray), a = .int .u64 m ∧ b = .string sm ∧ m < 18446744073709551616 ∧ Hid (D = decPre m ++ sm.data.toList) ∧ w' = w) (fun a _ _ => (RowKit.intOf a).toNat)
  case atStart => exact ⟨n, _, rfl, rfl, hn, HD.out, rfl⟩
  case round =>
    obtain ⟨m, sm, rfl, rfl, hm1, HM, rfl⟩ := hrel
    have hsm : sm.size ≤ 21 := by
      have h := congrArg List.length HM.out
      rw [List.length_append, ← Lib.size_eq] at h
      omega
    by_cases h10 : 10 ≤ m
    · have hm2 : m / 10 % 10 < 10 := Nat.mod_lt _ (by decide)
      have hx := digD_at (m / 10 % 10) hm2
      have HN : Hid (D = decPre (m / 10) ++ (digD.extract (m / 10 % 10) (m / 10 % 10 + 1) ++ sm).data.toList) := by
        rw [Hid, HM.out, hx]
        have h1 : decPre m = Lib.decDigits (m / 10) := by unfold decPre; rw [if_neg (by omega)]
        rw [h1, dec_split, ByteArray.data_append, Array.toList_append, List.append_assoc]
      have hxs : (digD.extract (m / 10 % 10) (m / 10 % 10 + 1)).size = 1 := by rw [hx]; rfl
      clear hx
      go_wp2_with fail
      refine ⟨⟨m / 10, _, by go_num, rfl, by omega, HN.out, trivial⟩, ?_⟩
      simp [RowKit.intOf]
      omega
    · have HF : Hid (D = sm.data.toList) := by
        rw [Hid, HM.out]; unfold decPre; rw [if_pos (by omega)]; rfl
      go_wp2_with fail
      go_ret
      exact ⟨by rw [HF.out, ba_data']; rfl, rfl⟩
set_option maxRecDepth 100000 in
set_option maxHeartbeats 1000000 in
theorem rdecimal_any (n : Int) (h0 : -9223372036854775808 ≤ n) (h1 : n ≤ 9223372036854775807) (w : World) :
    Calls Tryz.prog 78 #[.int .i64 n] w fun e w' => e = .returned (.string ⟨(Lib.itoa n).toArray⟩) ∧ w = w' := by
  by_cases hn : n < 0
  · obtain ⟨m, rfl⟩ : ∃ m : Nat, n = -(m : Int) := ⟨n.natAbs, by omega⟩
    have hi : Lib.itoa (-(m : Int)) = 45 :: Lib.decDigits m := Lib.itoa_neg m (by omega)
    have hlen := dec_len 20 m (by omega)
    have HDG := Lib.hid (rdigits_any m (by omega) w)
    obtain ⟨d, hd⟩ : ∃ d : ByteArray, d = ⟨(Lib.decDigits m).toArray⟩ := ⟨_, rfl⟩
    have hds : d.size ≤ 21 := by rw [hd]; show (Lib.decDigits m).toArray.size ≤ _; rw [List.size_toArray]; exact hlen
    have hcc : (⟨(45 :: Lib.decDigits m).toArray⟩ : ByteArray) = ⟨#[45]⟩ ++ d := by rw [hd]; exact (ba_app [45] _).symm
    rw [hi, hcc]
    rw [← hd] at HDG
    obtain ⟨q, hq⟩ : ∃ q : Int, q = -(m : Int) := ⟨_, rfl⟩
    rw [← hq] at hn ⊢
    have hw1 : IntKind.i64.wrap (q + 1) = q + 1 := by rw [IntKind.wrap_i64]; omega
    have hw2 : IntKind.i64.wrap (-(q + 1)) = -(q + 1) := by rw [IntKind.wrap_i64]; omega
    have hw3 : IntKind.u64.wrap (-(q + 1)) = -(q + 1) := by rw [IntKind.wrap_u64]; omega
    have hw4 : IntKind.u64.wrap (-(q + 1) + 1) = (m : Int) := by rw [IntKind.wrap_u64]; omega
    clear hi hcc hd hlen h0 h1 hq
    go_enter Tryz.func78, Tryz.ntmps78
    go_wp2_with fail
    refine HDG.out.mono ?_
    rintro e w2 ⟨rfl, rfl⟩
    go_wp2_with fail
    go_ret
    exact ⟨rfl, rfl⟩
  · obtain ⟨m, rfl⟩ : ∃ m : Nat, n = (m : Int) := ⟨n.toNat, by omega⟩
    have hi : Lib.itoa (m : Int) = Lib.decDigits m := Lib.itoa_nonneg m
    have HDG := Lib.hid (rdigits_any m (by omega) w)
    rw [hi]
    have hw3 : IntKind.u64.wrap (m : Int) = (m : Int) := by rw [IntKind.wrap_u64]; omega
    clear hi
    go_enter Tryz.func78, Tryz.ntmps78
    go_wp2_with fail
    refine HDG.out.mono ?_
    rintro e w2 ⟨rfl, rfl⟩
    go_wp2_with fail
    go_ret
    exact ⟨rfl, rfl⟩
end Go.Proofs.YtpijpeocdlnhiaaGreatDoor
