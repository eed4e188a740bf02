/- The reference's Calls. -/
import Derived.Test.YtccnmoicckjfbaaGreatDoorPSel
namespace Go.Proofs.YtccnmoicckjfbaaGreatDoor
set_option linter.unusedVariables false
set_option linter.unusedSimpArgs false
open Go.RowKit

theorem selS_row {k : Int} {P : List RT} {m q : Nat} (h : m < P.length) (hq : q < P[m].l.length) (ss : List Str) :
    addN ss (selS k (allS (P.take m) ++ P[m].l.take (q + 1))) = if P[m].l[q].k = k then insS (addN ss (selS k (allS (P.take m) ++ P[m].l.take q))) P[m].l[q].s.toList else addN ss (selS k (allS (P.take m) ++ P[m].l.take q)) := by
  rw [List.take_succ_eq_append_getElem hq, ← List.append_assoc, selS_snoc]
  split
  · rw [addN_snoc]
  · rw [List.append_nil]

theorem row_len {P : List RT} {m q : Nat} (h : m < P.length) (hq : q ≤ P[m].l.length) (k : Int) : (addN [] (selS k (allS (P.take m) ++ P[m].l.take q))).length ≤ (allS P).length := by
  have h1 := addN_len (selS k (allS (P.take m) ++ P[m].l.take q)) []
  have h2 := selS_len k (allS (P.take m) ++ P[m].l.take q)
  have h3 := allS_len h
  have h4 := allS_take P (m + 1)
  rw [List.length_append, List.length_take] at h2
  simp only [List.length_nil] at h1
  omega
theorem row_end {P : List RT} {m : Nat} (h : m < P.length) (k : Int) : selS k (allS (P.take m) ++ P[m].l.take P[m].l.length) = selS k (allS (P.take (m + 1))) := by
  rw [List.take_length, allS_succ h]

set_option maxRecDepth 100000 in
set_option maxHeartbeats 2000000 in
theorem rcalls_any (a : Option Addr) (c : Nat) (P : List RT) (k : Int) (w : World) (h : PrgU w (.slice a P.length c) P) (hs : (allS P).length ≤ 4398046600000) :
    Calls Tryz.prog 9 #[.slice a P.length c, .int .i64 k] w fun e w' => ∃ v, e = .returned v ∧ Reads w' v (namesL k (allS P)).length 1 (strV (namesL k (allS P))) ∧ Below w.heap.size w w' := by
  have HP := Lib.hid h
  have hll := h.lb
  clear h
  rw [namesL_eq]
  go_enter Tryz.func9, Tryz.ntmps9
  go_wp2_with fail
  go_loopw [5, 6] (fun out i w' => ∃ m : Nat, m ≤ P.length ∧ i = .int .i64 m ∧ Hid (Row w' 9 1 out (addN [] (selS k (allS (P.take m)))).length (strV (addN [] (selS k (allS (P.take m))))) (fun b => w.heap.size ≤ b)) ∧ Hid (Below w.heap.size w w')) (fun _ i _ => P.length - (RowKit.intOf i).toNat)
  case atStart => exact ⟨0, by omega, rfl, Row.nil _ _ _ _, Below.refl _ _⟩
  case round =>
    obtain ⟨m, hm, rfl, HO, HB⟩ := hrel
    by_cases hlt : m < P.length
    · obtain ⟨b, o, rfl, hle, hbl, hc⟩ := (HP.out.later HB.out).head hlt
      have HE := Lib.hid ((HP.out.later HB.out).each P[m] (List.getElem_mem hlt))
      have hl6 := HE.out.lb
      have HSR := Lib.hid (fun q (hq : q < P[m].l.length) => selS_row (k := k) hlt hq [])
      have HRL := Lib.hid (fun q (hq : q ≤ P[m].l.length) => row_len hlt hq k)
      have HRE := Lib.hid (row_end hlt k)
      obtain ⟨X, hX⟩ : ∃ X, X = allS (P.take m) := ⟨_, rfl⟩
      rw [← hX] at HSR HRL HRE HO
      clear hX
      obtain ⟨Y, hY⟩ : ∃ Y, Y = allS (P.take (m + 1)) := ⟨_, rfl⟩
      rw [← hY] at HRE
      have HY := Lib.hid hY
      clear hY
      generalize P[m] = r at *
      obtain ⟨rl, ra, rc⟩ := r
      simp only [RT.v] at *
      have hszr := HB.out.size
      obtain ⟨wo, rfl⟩ : ∃ wo : World, wo = wr := ⟨_, rfl⟩
      go_wp2_with fail
      go_loopw [5, 7] (fun out i w' => ∃ q : Nat, q ≤ rl.length ∧ i = .int .i64 q ∧ Hid (Row w' 9 1 out (addN [] (selS k (X ++ rl.take q))).length (strV (addN [] (selS k (X ++ rl.take q)))) (fun b => w.heap.size ≤ b)) ∧ Hid (Below w.heap.size w w') ∧ Hid (Below wo.heap.size wo w')) (fun _ i _ => rl.length - (RowKit.intOf i).toNat)
      case atStart => exact ⟨0, by omega, rfl, by rw [List.take_zero, List.append_nil]; exact HO, HB, Below.refl _ _⟩
      case round =>
        obtain ⟨q, hq, rfl, HO, HB, HB2⟩ := hrel
        have hc2 := (HB2.out.cell (p := ⟨b, o + m, none⟩) hbl).trans hc
        by_cases hlt2 : q < rl.length
        · obtain ⟨b2, o2, rfl, hle2, hb2, d0, d1, d2⟩ := RT.inw.cells (HE.out.later HB2.out) hlt2
          have HS1 := Lib.hid (HSR.out q hlt2)
          have hL1 := HRL.out q hq
          try simp only at HS1 hL1
          generalize rl[q] = x at *
          obtain ⟨xk, xn, xs⟩ := x
          try simp only at *
          by_cases hk : xk = k
          · subst hk
            rw [if_pos rfl] at HS1
            have HIN := Lib.hid (fun lv w0 (h0 : Row w0 9 1 lv (addN [] (selS xk (X ++ rl.take q))).length (strV (addN [] (selS xk (X ++ rl.take q)))) (fun b => w.heap.size ≤ b)) (hs0 : w.heap.size ≤ w0.heap.size) => rinsert_b lv (addN [] (selS xk (X ++ rl.take q))) xs w.heap.size w0 h0 hs0 (by omega))
            go_wp2_with fail
            refine (HIN.out _ _ HO.out HB.out.size).mono ?_
            rintro e w3 ⟨v3, rfl, hr3, hb3⟩
            rw [← HS1.out] at hr3
            have HR3 := Lib.hid hr3
            have HB3 := Lib.hid (HB.out.trans (hb3.mono HB.out.size))
            have HB23 := Lib.hid (HB2.out.trans (hb3.mono HB2.out.size))
            clear hr3 hb3
            go_wp2
            go_roundw
            case rel => exact ⟨q + 1, by omega, by go_num, HR3, HB3, HB23⟩
            case measure => simp [RowKit.intOf]; omega
          · have hke : (xk == k) = false := by simpa using hk
            rw [if_neg hk] at HS1
            go_wp2
            go_roundw
            case rel => exact ⟨q + 1, by omega, by go_num, by rw [HS1.out]; exact HO, HB, HB2⟩
            case measure => simp [RowKit.intOf]; omega
        · obtain rfl : q = rl.length := by omega
          rw [HRE.out] at HO
          go_wp2
          go_roundw
          case rel => exact ⟨m + 1, by omega, by go_num, by rw [← HY.out]; exact HO, HB⟩
          case measure => simp [RowKit.intOf]; omega
    · obtain rfl : m = P.length := by omega
      rw [List.take_length] at HO
      go_wp2
      go_ret
      exact ⟨_, rfl, HO.out.reads, HB.out⟩
end Go.Proofs.YtccnmoicckjfbaaGreatDoor
