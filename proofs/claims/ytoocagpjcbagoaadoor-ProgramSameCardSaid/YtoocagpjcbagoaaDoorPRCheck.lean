/- The reference's Check and Right. -/
import Derived.Test.YtoocagpjcbagoaaDoorPRef2
import Derived.Test.YtoocagpjcbagoaaDoorPSame
namespace Go.Proofs.YtoocagpjcbagoaaDoor
set_option linter.unusedVariables false
set_option linter.unusedSimpArgs false
open Go.RowKit

set_option maxRecDepth 100000 in
set_option maxHeartbeats 4000000 in
theorem rcheck_any (a : Option Addr) (c : Nat) (P : List RT) (w : World) (h : PrgU w (.slice a P.length c) P) :
    Calls Tryd.prog 16 #[.slice a P.length c] w (CPost w rightB P) := by
  have HP := Lib.hid h
  have hll := h.ll
  unfold maxLen at hll
  have HC1 : Hid (∀ i k ok w', Checked rightB P i k ok → Below w.heap.size w w' → CPost w rightB P (.returned (.tuple #[.int .i64 i, .int .i64 k, .bool ok])) w') := fun i k ok w' h1 h2 => ⟨i, k, ok, rfl, h1, h2⟩
  obtain ⟨Q, hQ⟩ : ∃ Q, Q = CPost w rightB P := ⟨_, rfl⟩
  rw [← hQ] at HC1 ⊢
  clear h hQ
  by_cases h0 : P.length = 0
  · have HV := Lib.hid (HC1.out 0 0 false w (.inl ⟨.inl h0, rfl, rfl, rfl⟩) (Below.refl _ _))
    rw [h0]
    go_enter Tryd.func16, Tryd.ntmps16
    go_wp2
    refine bodyPost_ret (results_tmp3 rfl _ _ _) rfl ?_
    exact HV.out
  by_cases h20 : 20 < P.length
  · have HV := Lib.hid (HC1.out 0 0 false w (.inl ⟨.inr h20, rfl, rfl, rfl⟩) (Below.refl _ _))
    have h0' : ¬ ((P.length : Int) < 1) := by omega
    have h20' : 20 < (P.length : Int) := by omega
    go_enter Tryd.func16, Tryd.ntmps16
    go_wp2
    refine bodyPost_ret (results_tmp3 rfl _ _ _) rfl ?_
    exact HV.out
  have h0' : ¬ ((P.length : Int) < 1) := by omega
  have h20' : ¬ 20 < (P.length : Int) := by omega
  go_enter Tryd.func16, Tryd.ntmps16
  go_wp2_with fail
  go_loopw [5, 6] (fun i _ w' => ∃ m : Nat, m ≤ P.length ∧ i = .int .i64 m ∧ Hid (∀ j (hj : j < P.length), j < m → fineR rightB P.length P[j]) ∧ Hid (Below w.heap.size w w')) (fun i _ _ => P.length - (RowKit.intOf i).toNat)
  case atStart => exact ⟨0, by omega, rfl, fun j _ h => by omega, Below.refl _ _⟩
  case round =>
    obtain ⟨m, hm, rfl, HF, HB⟩ := hrel
    by_cases hlt : m < P.length
    · obtain ⟨b, o, ha, hle, hbl, hc⟩ := (HP.out.later HB.out).head hlt
      have HPA : Hid (PrgU w (.slice (some ⟨b, o, none⟩) P.length c) P) := by rw [← ha]; exact HP.out
      subst ha
      have HRM : Hid (∀ (x : ST), x ∈ P[m].l → P[m].l.length ≤ 200 → ∀ W, Below w.heap.size w W → Calls Tryd.prog 24 #[.slice (some ⟨b, o, none⟩) P.length c, .int .i64 m, x.val] W fun e w' => e = .returned (.bool (rightB x P.length P[m].l.length)) ∧ Below W.heap.size W w') := fun x hx hl W hW =>
        rr_any P _ c m hlt x ((HP.out.each _ (List.getElem_mem hlt)).ok x hx) W (HP.out.later hW) (by omega) hl
      have HE := Lib.hid ((HP.out.later HB.out).each P[m] (List.getElem_mem hlt))
      have hl6 := HE.out.ll
      unfold maxLen at hl6
      have HBAD : Hid (∀ k : Int, (200 < P[m].l.length ∧ k = 200) ∨ (P[m].l.length ≤ 200 ∧ ∃ (q : Nat) (hq : q < P[m].l.length), k = q ∧ rightB P[m].l[q] P.length P[m].l.length = false) → Checked rightB P m k false) := fun k hk =>
        .inr ⟨by omega, by omega, .inr ⟨m, hlt, rfl, rfl, fun j hj => HF.out j (by omega) hj, hk⟩⟩
      have HNX : Hid (fineR rightB P.length P[m] → ∀ j (hj : j < P.length), j < m + 1 → fineR rightB P.length P[j]) := fun h j hj hjm => by
        rcases Nat.lt_or_ge j m with h1 | h1
        · exact HF.out j hj h1
        · have : j = m := by omega
          subst this; exact h
      clear HF
      have HC := Lib.hid hc
      generalize hrr : P[m] = r at *
      clear hrr
      obtain ⟨rl, ra, rc⟩ := r
      simp only [RT.v] at *
      by_cases h200 : 200 < (rl.length : Int)
      · have HV := Lib.hid (HC1.out m 200 false wr (HBAD.out 200 (.inl ⟨by omega, rfl⟩)) HB.out)
        go_wp2
        refine bodyPost_ret (results_tmp3 rfl _ _ _) rfl ?_
        exact HV.out
      · go_wp2_with fail
        clear hc
        have hbs : b < wr.heap.size := hbl
        go_loopw [6] (fun i w' => ∃ q : Nat, q ≤ rl.length ∧ i = .int .i64 q ∧ Hid (∀ j (hj : j < rl.length), j < q → rightB rl[j] P.length rl.length = true) ∧ Hid (Below w.heap.size w w') ∧ Hid (Below wr.heap.size wr w')) (fun i _ => rl.length - (RowKit.intOf i).toNat)
        case atStart => exact ⟨0, by omega, rfl, fun j _ h => by omega, HB, Below.refl _ _⟩
        case round =>
          obtain ⟨q, hq, rfl, HG, HB2, HB3⟩ := hrel
          have hc := (HB3.out.cell (p := ⟨b, o + m, none⟩) hbs).trans HC.out
          by_cases hlt2 : q < rl.length
          · obtain ⟨b2, o2, rfl, hle2, hb2, d0, d1, d2⟩ := RT.inw.cells (HE.out.later HB3.out) hlt2
            have HRX := Lib.hid (HRM.out rl[q] (List.getElem_mem hlt2) (by omega))
            have HBX : Hid (rightB rl[q] P.length rl.length = false → Checked rightB P m q false) := fun h => HBAD.out q (.inr ⟨by omega, q, hlt2, rfl, h⟩)
            have HGX : Hid (rightB rl[q] P.length rl.length = true → ∀ j (hj : j < rl.length), j < q + 1 → rightB rl[j] P.length rl.length = true) := fun h j hj hjq => by
              rcases Nat.lt_or_ge j q with h1 | h1
              · exact HG.out j hj h1
              · have : j = q := by omega
                subst this; exact h
            clear HG
            generalize rl[q] = x at *
            have HRW := Lib.hid (HRX.out _ HB2.out)
            clear HRX
            obtain ⟨xk, xn, xs⟩ := x
            simp only [ST.val] at *
            go_wp2_with fail
            refine HRW.out.mono ?_
            rintro e w4 ⟨rfl, hb4⟩
            have HB4 := Lib.hid (HB2.out.trans (hb4.mono HB2.out.size))
            have HB5 := Lib.hid (HB3.out.trans (hb4.mono HB3.out.size))
            clear hb4 hc d0 d1 d2 HRW
            cases hbx : rightB ⟨xk, xn, xs⟩ P.length rl.length with
            | false =>
              have HV := Lib.hid (HC1.out m q false w4 (HBX.out hbx) HB4.out)
              clear hbx
              go_wp2
              refine bodyPost_ret (results_tmp3 rfl _ _ _) rfl ?_
              exact HV.out
            | true =>
              have HGN := Lib.hid (HGX.out hbx)
              clear hbx
              go_wp2
              go_roundw
              case rel => exact ⟨q + 1, by omega, by go_num, HGN, HB4, HB5⟩
              case measure => simp [RowKit.intOf]; omega
          · obtain rfl : q = rl.length := by omega
            have HFN := Lib.hid (HNX.out ⟨by show rl.length ≤ 200; omega, fun x hx => by obtain ⟨j, hj, rfl⟩ := List.mem_iff_getElem.1 hx; exact HG.out j hj hj⟩)
            go_wp2
            go_roundw
            case rel => exact ⟨m + 1, by omega, by go_num, HFN, HB2⟩
            case measure => simp [RowKit.intOf]; omega
    · obtain rfl : m = P.length := by omega
      have HV := Lib.hid (HC1.out 0 0 true wr (.inr ⟨by omega, by omega, .inl ⟨fun r hr => by obtain ⟨j, hj, rfl⟩ := List.mem_iff_getElem.1 hr; exact HF.out j hj hj, rfl, rfl, rfl⟩⟩) HB.out)
      go_wp2
      refine bodyPost_ret (results_tmp3 rfl _ _ _) rfl ?_
      exact HV.out

/-- A right program. -/
def RightP (P : List RT) : Prop := 1 ≤ P.length ∧ P.length ≤ 20 ∧ ∀ r ∈ P, fineR rightB P.length r
theorem checked_iff {P : List RT} {i k : Int} {ok : Bool} (h : Checked rightB P i k ok) : ok = true ↔ RightP P := by
  rcases h with ⟨h1, _, _, rfl⟩ | ⟨h1, h2, ⟨h3, _, _, rfl⟩ | ⟨m, hm, _, rfl, _, h3⟩⟩
  · exact ⟨fun h => (by cases h), fun h => (by have := h.1; have := h.2.1; omega)⟩
  · exact ⟨fun _ => ⟨h1, h2, h3⟩, fun _ => rfl⟩
  · refine ⟨fun h => (by cases h), fun h => ?_⟩
    have hf := h.2.2 _ (List.getElem_mem hm)
    rcases h3 with ⟨h4, _⟩ | ⟨_, q, hq, _, h4⟩
    · have := hf.1; omega
    · have := hf.2 _ (List.getElem_mem hq)
      rw [this] at h4; cases h4

set_option maxRecDepth 100000 in
theorem rright_any (a : Option Addr) (c : Nat) (P : List RT) (w : World) (h : PrgU w (.slice a P.length c) P) :
    Calls Tryd.prog 11 #[.slice a P.length c] w (SPost w (RightP P)) := by
  have HE := Lib.hid (rcheck_any a c P w h)
  clear h
  go_enter Tryd.func11, Tryd.ntmps11
  go_wp2_with fail
  refine HE.out.mono ?_
  rintro e w4 ⟨i, k, ok, rfl, hc, hb4⟩
  have HR : Hid (SPost w (RightP P) (.returned (.bool ok)) w4) := ⟨ok, rfl, checked_iff hc, hb4⟩
  clear hc hb4
  generalize SPost w (RightP P) = Q at *
  go_wp2
  exact HR.out
end Go.Proofs.YtoocagpjcbagoaaDoor
