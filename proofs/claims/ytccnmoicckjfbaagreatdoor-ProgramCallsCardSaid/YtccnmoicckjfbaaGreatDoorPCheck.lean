/- program.Check. -/
import Derived.Test.YtccnmoicckjfbaaGreatDoorPStep
import Derived.OwnWalk
namespace Go.Proofs.YtccnmoicckjfbaaGreatDoor
set_option linter.unusedVariables false
set_option linter.unusedSimpArgs false
open Go.RowKit

structure ST where
  k : Int
  n : Int
  s : ByteArray
abbrev stcells (x : ST) : List Value := [.int .i64 x.k, .int .i64 x.n, .string x.s]
def ST.val (x : ST) : Value := .agg #[.int .i64 x.k, .int .i64 x.n, .string x.s]
theorem stcells_len (x : ST) : (stcells x).length = 3 := rfl
/-- A routine, and where it lies. -/
structure RT where
  l : List ST
  a : Option Addr
  c : Nat
def RT.v (r : RT) : Value := .slice r.a r.l.length r.c
structure Prg (w : World) (v : Value) (P : List RT) : Prop where
  rd : Reads w v P.length 1 (P.map RT.v)
  each : ∀ r ∈ P, Reads w r.v r.l.length 3 (r.l.flatMap stcells)
  ll : ∀ r ∈ P, r.l.length ≤ 1000000
theorem Prg.later {w w' : World} {v : Value} {P : List RT} (h : Prg w v P) (hb : Below w.heap.size w w') : Prg w' v P :=
  ⟨h.rd.later hb, fun r hr => (h.each r hr).later hb, h.ll⟩

def fineR (rb : ST → Nat → Nat → Bool) (np : Nat) (r : RT) : Prop := r.l.length ≤ 200 ∧ ∀ x ∈ r.l, rb x np r.l.length = true
/-- The result of Check. -/
def Checked (rb : ST → Nat → Nat → Bool) (P : List RT) (i k : Int) (ok : Bool) : Prop :=
  ((P.length = 0 ∨ 20 < P.length) ∧ i = 0 ∧ k = 0 ∧ ok = false) ∨
  (1 ≤ P.length ∧ P.length ≤ 20 ∧ (((∀ r ∈ P, fineR rb P.length r) ∧ i = 0 ∧ k = 0 ∧ ok = true) ∨
    ∃ (m : Nat) (hm : m < P.length), i = m ∧ ok = false ∧ (∀ j (hj : j < m), fineR rb P.length (P[j]'(by omega))) ∧ ((200 < P[m].l.length ∧ k = 200) ∨ (P[m].l.length ≤ 200 ∧ ∃ (q : Nat) (hq : q < P[m].l.length), k = q ∧ rb P[m].l[q] P.length P[m].l.length = false))))
def CPost (w : World) (rb : ST → Nat → Nat → Bool) (P : List RT) : Ending → World → Prop := fun e w' => ∃ i k ok, e = .returned (.tuple #[.int .i64 i, .int .i64 k, .bool ok]) ∧ Checked rb P i k ok ∧ Below w.heap.size w w'

set_option maxRecDepth 100000 in
set_option maxHeartbeats 2000000 in
theorem check_any (rb : ST → Nat → Nat → Bool) (a : Option Addr) (c : Nat) (P : List RT) (w : World) (h : Prg w (.slice a P.length c) P) (hP : P.length ≤ 1000000)
    (hr : ∀ r ∈ P, ∀ x ∈ r.l, ∀ W, Calls Tryz.prog 21 #[x.val, .int .i64 P.length, .int .i64 r.l.length] W fun e w' => e = .returned (.bool (rb x P.length r.l.length)) ∧ Below W.heap.size W w') :
    Calls Tryz.prog 13 #[.slice a P.length c] w (CPost w rb P) := by
  have HP := Lib.hid h
  have HR := Lib.hid hr
  have HC1 : Hid (∀ i k ok w', Checked rb P i k ok → Below w.heap.size w w' → CPost w rb P (.returned (.tuple #[.int .i64 i, .int .i64 k, .bool ok])) w') := fun i k ok w' h1 h2 => ⟨i, k, ok, rfl, h1, h2⟩
  obtain ⟨Q, hQ⟩ : ∃ Q, Q = CPost w rb P := ⟨_, rfl⟩
  rw [← hQ] at HC1 ⊢
  clear h hr hQ
  by_cases h0 : P.length = 0
  · have HV := Lib.hid (HC1.out 0 0 false w (.inl ⟨.inl h0, rfl, rfl, rfl⟩) (Below.refl _ _))
    have h0' : ((P.length : Int) == 0) = true := by simp [h0]
    rw [h0]
    go_enter Tryz.func13, Tryz.ntmps13
    go_wp2
    refine bodyPost_ret (results_tmp3 rfl _ _ _) rfl ?_
    exact HV.out
  · by_cases h20 : 20 < P.length
    · have HV := Lib.hid (HC1.out 0 0 false w (.inl ⟨.inr h20, rfl, rfl, rfl⟩) (Below.refl _ _))
      have h0' : ((P.length : Int) == 0) = false := by rw [beq_eq_false_iff_ne]; omega
      have h20' : 20 < (P.length : Int) := by omega
      go_enter Tryz.func13, Tryz.ntmps13
      go_wp2
      refine bodyPost_ret (results_tmp3 rfl _ _ _) rfl ?_
      exact HV.out
    · have h0' : ((P.length : Int) == 0) = false := by rw [beq_eq_false_iff_ne]; omega
      have h20' : ¬ 20 < (P.length : Int) := by omega
      go_enter Tryz.func13, Tryz.ntmps13
      go_wp2_with fail
      go_loopw [19] (fun i w' => ∃ m : Nat, m ≤ P.length ∧ i = .int .i64 m ∧ Hid (∀ j (hj : j < P.length), j < m → fineR rb P.length P[j]) ∧ Hid (Below w.heap.size w w')) (fun i _ => P.length - (RowKit.intOf i).toNat)
      case atStart => exact ⟨0, by omega, rfl, fun j _ h => by omega, Below.refl _ _⟩
      case round =>
        obtain ⟨m, hm, rfl, HF, HB⟩ := hrel
        by_cases hlt : m < P.length
        · obtain ⟨b, o, c', hv, hle, hbl, hcell⟩ := (HP.out.later HB.out).rd.at (by omega)
          cases hv
          have hc := hcell m (RT.v P[m]) (by rw [List.getElem?_map, List.getElem?_eq_getElem hlt]; rfl)
          have HE := Lib.hid (HP.out.each P[m] (List.getElem_mem hlt))
          have hl6 := HP.out.ll P[m] (List.getElem_mem hlt)
          have HRM := Lib.hid (HR.out P[m] (List.getElem_mem hlt))
          have HBAD : Hid (∀ k : Int, (200 < P[m].l.length ∧ k = 200) ∨ (P[m].l.length ≤ 200 ∧ ∃ (q : Nat) (hq : q < P[m].l.length), k = q ∧ rb P[m].l[q] P.length P[m].l.length = false) → Checked rb P m k false) := fun k hk =>
            .inr ⟨by omega, by omega, .inr ⟨m, hlt, rfl, rfl, fun j hj => HF.out j (by omega) hj, hk⟩⟩
          have HNX : Hid (fineR rb P.length P[m] → ∀ j (hj : j < P.length), j < m + 1 → fineR rb P.length P[j]) := fun h j hj hjm => by
            rcases Nat.lt_or_ge j m with h1 | h1
            · exact HF.out j hj h1
            · have : j = m := by omega
              subst this; exact h
          clear hcell HF
          unfold RT.v at hc HE
          generalize hrr : P[m] = r at *
          clear hrr
          obtain ⟨rl, ra, rc⟩ := r
          simp only at *
          by_cases h200 : 200 < (rl.length : Int)
          · have HV := Lib.hid (HC1.out m 200 false wr (HBAD.out 200 (.inl ⟨by omega, rfl⟩)) HB.out)
            go_wp2
            refine bodyPost_ret (results_tmp3 rfl _ _ _) rfl ?_
            exact HV.out
          · go_wp2_with fail
            go_loopw [30] (fun i w' => ∃ q : Nat, q ≤ rl.length ∧ i = .int .i64 q ∧ Hid (∀ j (hj : j < rl.length), j < q → rb rl[j] P.length rl.length = true) ∧ Hid (Below w.heap.size w w')) (fun i _ => rl.length - (RowKit.intOf i).toNat)
            case atStart => exact ⟨0, by omega, rfl, fun j _ h => by omega, HB⟩
            case round =>
              obtain ⟨q, hq, rfl, HG, HB2⟩ := hrel
              by_cases hlt2 : q < rl.length
              · obtain ⟨b2, o2, hra, hle2, -, hb2, hcell2⟩ := (HE.out.later HB2.out).atN (by omega) (by decide)
                subst hra
                have d0 := hcell2 (q * 3) _ (by simpa using fm_get stcells_len (List.getElem?_eq_getElem hlt2) 0 _ rfl)
                have d1 := hcell2 (q * 3 + 1) _ (fm_get stcells_len (List.getElem?_eq_getElem hlt2) 1 _ rfl)
                have d2 := hcell2 (q * 3 + 2) _ (fm_get stcells_len (List.getElem?_eq_getElem hlt2) 2 _ rfl)
                rw [← Nat.add_assoc] at d1 d2
                have HRX := Lib.hid (HRM.out rl[q] (List.getElem_mem hlt2))
                have HBX : Hid (rb rl[q] P.length rl.length = false → Checked rb P m q false) := fun h => HBAD.out q (.inr ⟨by omega, q, hlt2, rfl, h⟩)
                have HGX : Hid (rb rl[q] P.length rl.length = true → ∀ j (hj : j < rl.length), j < q + 1 → rb rl[j] P.length rl.length = true) := fun h j hj hjq => by
                  rcases Nat.lt_or_ge j q with h1 | h1
                  · exact HG.out j hj h1
                  · have : j = q := by omega
                    subst this; exact h
                clear hcell2 HG
                generalize rl[q] = x at *
                have hsz := HB2.out.size
                have HBA : Hid (Below w.heap.size w (wr.alloc (.cells #[.int .i64 x.k, .int .i64 x.n, .string x.s] 37))) := HB2.out.alloc hsz _
                have HXA : Hid ((wr.alloc (.cells #[.int .i64 x.k, .int .i64 x.n, .string x.s] 37)).heap[wr.heap.size]? = some (.cells #[.int .i64 x.k, .int .i64 x.n, .string x.s] 37 (0, 0))) := heap_alloc_new _ _
                go_upto_region 11 with fail
                generalize wr.alloc (.cells #[.int .i64 x.k, .int .i64 x.n, .string x.s] 37) = wa at *
                clear d0 d1 d2
                have y0 := cellAt HXA.out 0 rfl
                have y1 := cellAt HXA.out 1 rfl
                have y2 := cellAt HXA.out 2 rfl
                have HRW := Lib.hid (HRX.out wa)
                unfold ST.val at HRW
                go_wp2_with fail
                refine HRW.out.mono ?_
                rintro e w4 ⟨rfl, hb4⟩
                have HB4 := Lib.hid (HBA.out.trans (hb4.mono HBA.out.size))
                clear hb4 y0 y1 y2 HRW HRX
                cases hbx : rb x P.length rl.length with
                | false =>
                  have HV := Lib.hid (HC1.out m q false w4 (HBX.out hbx) HB4.out)
                  go_wp2
                  refine bodyPost_ret (results_tmp3 rfl _ _ _) rfl ?_
                  exact HV.out
                | true =>
                  have HGN := Lib.hid (HGX.out hbx)
                  go_wp2
                  go_roundw
                  case rel => exact ⟨q + 1, by omega, by go_num, HGN, HB4⟩
                  case measure => simp [RowKit.intOf]; omega
              · obtain rfl : q = rl.length := by omega
                have HFN := Lib.hid (HNX.out ⟨by show rl.length ≤ 200; omega, fun x hx => by obtain ⟨j, hj, rfl⟩ := List.mem_iff_getElem.1 hx; exact HG.out j hj hj⟩)
                go_wp2
                go_roundw
                case rel => exact ⟨m + 1, by omega, by go_num, HFN, HB2⟩
                case measure => simp [RowKit.intOf]; omega
        · obtain rfl : m = P.length := by omega
          have HV := Lib.hid (HC1.out 0 0 true wr (.inr ⟨by omega, by omega, .inl ⟨fun r hr => by obtain ⟨j, hj, rfl⟩ := List.mem_iff_getElem.1 hr; exact HF.out j hj hj, rfl, rfl, rfl⟩⟩) HB.out)
          go_wp2
          refine bodyPost_ret (results_tmp3 rfl _ _ _) rfl ?_
          exact HV.out
end Go.Proofs.YtccnmoicckjfbaaGreatDoor
