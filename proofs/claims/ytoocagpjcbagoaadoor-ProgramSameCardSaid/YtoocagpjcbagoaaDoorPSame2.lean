/- program.Same, and the reference's Same. -/
import Derived.Test.YtoocagpjcbagoaaDoorPSame
namespace Go.Proofs.YtoocagpjcbagoaaDoor
set_option linter.unusedVariables false
set_option linter.unusedSimpArgs false
open Go.RowKit

set_option maxRecDepth 100000 in
set_option maxHeartbeats 2000000 in
theorem eqfunc_any (a1 a2 : Option Addr) (c1 c2 : Nat) (P1 P2 : List RT) (w : World) (h1 : PrgU w (.slice a1 P1.length c1) P1) (h2 : PrgU w (.slice a2 P2.length c2) P2) :
    Calls Tryd.prog 14 #[.slice a1 P1.length c1, .slice a2 P2.length c2, .func (.func 15) #[] #[]] w (SPost w (P1.map RT.l = P2.map RT.l)) := by
  have H1 := Lib.hid h1
  have H2 := Lib.hid h2
  have hl1 := h1.ll
  have hl2 := h2.ll
  unfold maxLen at hl1 hl2
  clear h1 h2
  have HY : Hid (P1.map RT.l = P2.map RT.l → ∀ w', Below w.heap.size w w' → SPost w (P1.map RT.l = P2.map RT.l) (.returned (.bool true)) w') := fun h w' hb => SPost.yes h hb
  have HN : Hid (¬ P1.map RT.l = P2.map RT.l → ∀ w', Below w.heap.size w w' → SPost w (P1.map RT.l = P2.map RT.l) (.returned (.bool false)) w') := fun h w' hb => SPost.no h hb
  obtain ⟨Q, hQ⟩ : ∃ Q, Q = SPost w (P1.map RT.l = P2.map RT.l) := ⟨_, rfl⟩
  rw [← hQ] at HY HN ⊢
  clear hQ
  by_cases hle : P1.length = P2.length
  · obtain ⟨n, hn⟩ : ∃ n, n = P2.length := ⟨_, rfl⟩
    rw [hle, ← hn]
    have HL1 : Hid (P1.length = n) := by rw [hn]; exact hle
    have HL2 : Hid (P2.length = n) := hn.symm
    rw [← hn] at hl2
    clear hle hn hl1
    go_enter Tryd.func14, Tryd.ntmps14
    go_wp2_with fail
    go_loopw [17] (fun i w' => ∃ m : Nat, m ≤ n ∧ i = .int .i64 m ∧ Hid (∀ j (h1 : j < P1.length) (h2 : j < P2.length), j < m → P1[j].l = P2[j].l) ∧ Hid (Below w.heap.size w w')) (fun i _ => n - (RowKit.intOf i).toNat)
    case atStart => exact ⟨0, by omega, rfl, fun j _ _ h => by omega, Below.refl _ _⟩
    case round =>
      obtain ⟨m, hm, rfl, HF, HB⟩ := hrel
      by_cases hlt : m < n
      · have hm1 : m < P1.length := by rw [HL1.out]; exact hlt
        have hm2 : m < P2.length := by rw [HL2.out]; exact hlt
        obtain ⟨b, o, rfl, hc1, hb, d0⟩ := (H1.out.later HB.out).head hm1
        obtain ⟨b', o', rfl, hc2, hb', e0⟩ := (H2.out.later HB.out).head hm2
        rw [HL1.out] at hc1
        rw [HL2.out] at hc2
        have HE := Lib.hid (sequalP_any P1[m] P2[m] wr ((H1.out.later HB.out).each _ (List.getElem_mem hm1)) ((H2.out.later HB.out).each _ (List.getElem_mem hm2)))
        have HD : Hid (¬ P1[m].l = P2[m].l → ∀ w', Below w.heap.size w w' → Q (.returned (.bool false)) w') := fun h => HN.out (fun e => h (map_l_eq e hm1 hm2))
        have HS : Hid (P1[m].l = P2[m].l → ∀ j (h1 : j < P1.length) (h2 : j < P2.length), j < m + 1 → P1[j].l = P2[j].l) := fun h j h1 h2 hj => by
          rcases Nat.lt_or_ge j m with h3 | h3
          · exact HF.out j h1 h2 h3
          · obtain rfl : j = m := by omega
            exact h
        clear HF
        generalize P1[m] = x at *
        generalize P2[m] = y at *
        clear hm1 hm2
        generalize RT.v x = xv at *
        generalize RT.v y = yv at *
        go_wp2_with fail
        refine HE.out.mono ?_
        rintro e w4 ⟨bb, rfl, hbb, hb4⟩
        have HB4 := Lib.hid (HB.out.trans (hb4.mono HB.out.size))
        clear hb4 HE
        cases bb with
        | true =>
          have HS2 := Lib.hid (HS.out (hbb.1 rfl))
          clear hbb
          go_wp2
          go_roundw
          case rel => exact ⟨m + 1, by omega, by go_num, HS2, HB4⟩
          case measure => simp [RowKit.intOf]; omega
        | false =>
          have HD2 := Lib.hid (HD.out (fun e => by have := hbb.2 e; cases this) _ HB4.out)
          clear hbb
          go_wp2
          exact HD2.out
      · obtain rfl : m = n := by omega
        have HE := Lib.hid (HY.out (map_l_of (HL1.out.trans HL2.out.symm) (fun j h1 h2 => HF.out j h1 h2 (by rw [← HL1.out]; exact h1))) _ HB.out)
        go_wp2
        exact HE.out
  · have hle2 : ((P1.length : Int) != P2.length) = true := by rw [bne_iff_ne]; omega
    have HE := Lib.hid (HN.out (fun e => hle (map_l_len e)) w (Below.refl _ _))
    go_enter Tryd.func14, Tryd.ntmps14
    go_wp2
    exact HE.out

set_option maxRecDepth 100000 in
theorem psame_any (a1 a2 : Option Addr) (c1 c2 : Nat) (P1 P2 : List RT) (w : World) (h1 : PrgU w (.slice a1 P1.length c1) P1) (h2 : PrgU w (.slice a2 P2.length c2) P2) :
    Calls Tryd.prog 10 #[.slice a1 P1.length c1, .slice a2 P2.length c2] w (SPost w (P1.map RT.l = P2.map RT.l)) := by
  have HE := Lib.hid (eqfunc_any a1 a2 c1 c2 P1 P2 w h1 h2)
  generalize (P1.map RT.l = P2.map RT.l) = p at *
  clear h1 h2
  go_enter Tryd.func10, Tryd.ntmps10
  go_wp2_with fail
  refine HE.out.mono ?_
  rintro e w4 ⟨bb, rfl, hbb, hb4⟩
  have HR : Hid (SPost w p (.returned (.bool bb)) w4) := ⟨bb, rfl, hbb, hb4⟩
  clear hbb hb4
  generalize SPost w p = Q at *
  go_wp2
  exact HR.out

set_option maxRecDepth 100000 in
set_option maxHeartbeats 2000000 in
theorem rsame_any (a1 a2 : Option Addr) (c1 c2 : Nat) (P1 P2 : List RT) (w : World) (h1 : PrgU w (.slice a1 P1.length c1) P1) (h2 : PrgU w (.slice a2 P2.length c2) P2) :
    Calls Tryd.prog 8 #[.slice a1 P1.length c1, .slice a2 P2.length c2] w (SPost w (P1.map RT.l = P2.map RT.l)) := by
  have H1 := Lib.hid h1
  have H2 := Lib.hid h2
  have hl1 := h1.ll
  have hl2 := h2.ll
  unfold maxLen at hl1 hl2
  clear h1 h2
  have HY : Hid (P1.map RT.l = P2.map RT.l → ∀ w', Below w.heap.size w w' → SPost w (P1.map RT.l = P2.map RT.l) (.returned (.bool true)) w') := fun h w' hb => SPost.yes h hb
  have HN : Hid (¬ P1.map RT.l = P2.map RT.l → ∀ w', Below w.heap.size w w' → SPost w (P1.map RT.l = P2.map RT.l) (.returned (.bool false)) w') := fun h w' hb => SPost.no h hb
  obtain ⟨Q, hQ⟩ : ∃ Q, Q = SPost w (P1.map RT.l = P2.map RT.l) := ⟨_, rfl⟩
  rw [← hQ] at HY HN ⊢
  clear hQ
  by_cases hle : P1.length = P2.length
  · obtain ⟨n, hn⟩ : ∃ n, n = P2.length := ⟨_, rfl⟩
    rw [hle, ← hn]
    have HL1 : Hid (P1.length = n) := by rw [hn]; exact hle
    have HL2 : Hid (P2.length = n) := hn.symm
    rw [← hn] at hl2
    clear hle hn hl1
    go_enter Tryd.func8, Tryd.ntmps8
    go_wp2_with fail
    go_loopw [5, 6] (fun i _ w' => ∃ m : Nat, m ≤ n ∧ i = .int .i64 m ∧ Hid (∀ j (h1 : j < P1.length) (h2 : j < P2.length), j < m → P1[j].l = P2[j].l) ∧ Hid (Below w.heap.size w w')) (fun i _ _ => n - (RowKit.intOf i).toNat)
    case atStart => exact ⟨0, by omega, rfl, fun j _ _ h => by omega, Below.refl _ _⟩
    case round =>
      obtain ⟨m, hm, rfl, HF, HB⟩ := hrel
      by_cases hlt : m < n
      · have hm1 : m < P1.length := by rw [HL1.out]; exact hlt
        have hm2 : m < P2.length := by rw [HL2.out]; exact hlt
        obtain ⟨b, o, rfl, hc1, hb, d0⟩ := (H1.out.later HB.out).head hm1
        obtain ⟨b', o', rfl, hc2, hb', e0⟩ := (H2.out.later HB.out).head hm2
        rw [HL1.out] at hc1
        rw [HL2.out] at hc2
        have HX := Lib.hid ((H1.out.later HB.out).each _ (List.getElem_mem hm1))
        have HX2 := Lib.hid ((H2.out.later HB.out).each _ (List.getElem_mem hm2))
        have hx := HX.out.ll
        have hx2 := HX2.out.ll
        unfold maxLen at hx hx2
        have HD : Hid (¬ P1[m].l = P2[m].l → ∀ w', Below w.heap.size w w' → Q (.returned (.bool false)) w') := fun h => HN.out (fun e => h (map_l_eq e hm1 hm2))
        have HS : Hid (P1[m].l = P2[m].l → ∀ j (h1 : j < P1.length) (h2 : j < P2.length), j < m + 1 → P1[j].l = P2[j].l) := fun h j h1 h2 hj => by
          rcases Nat.lt_or_ge j m with h3 | h3
          · exact HF.out j h1 h2 h3
          · obtain rfl : j = m := by omega
            exact h
        clear HF
        generalize P1[m] = x at *
        generalize P2[m] = y at *
        clear hm1 hm2
        obtain ⟨l1, a1, k1⟩ := x
        obtain ⟨l2, a2, k2⟩ := y
        simp only [RT.v] at *
        by_cases hle : l1.length = l2.length
        · obtain ⟨n2, hn⟩ : ∃ n2, n2 = l2.length := ⟨_, rfl⟩
          rw [hle, ← hn] at d0
          rw [← hn] at e0
          have HL3 : Hid (l1.length = n2) := by rw [hn]; exact hle
          have HL4 : Hid (l2.length = n2) := hn.symm
          rw [← hn] at hx2
          clear hle hn hx
          go_wp2_with fail
          go_quiet (fail)
          have HBN := Lib.hid (below_drew HB.out nq)
          generalize hwq : wr.drewN nq = wq at *
          replace d0 : wq.cell? ⟨b, o + m, none⟩ = some (.slice a1 n2 k1) := by rw [← hwq]; exact d0
          replace e0 : wq.cell? ⟨b', o' + m, none⟩ = some (.slice a2 n2 k2) := by rw [← hwq]; exact e0
          have hbq : b < wq.heap.size := by rw [← hwq]; exact hb
          have hbq' : b' < wq.heap.size := by rw [← hwq]; exact hb'
          have D0 := Lib.hid d0
          have E0 := Lib.hid e0
          have HX3 : Hid (RT.inw ⟨l1, a1, k1⟩ wq) := by rw [← hwq]; exact HX.out.later (below_drew (Below.refl _ _) nq)
          have HX4 : Hid (RT.inw ⟨l2, a2, k2⟩ wq) := by rw [← hwq]; exact HX2.out.later (below_drew (Below.refl _ _) nq)
          clear hwq hb hb' HB HX HX2
          go_wp2_with fail
          clear d0 e0
          go_loopw [6] (fun i w' => ∃ q : Nat, q ≤ n2 ∧ i = .int .i64 q ∧ Hid (∀ j (h1 : j < l1.length) (h2 : j < l2.length), j < q → l1[j] = l2[j]) ∧ Hid (Below wq.heap.size wq w')) (fun i _ => n2 - (RowKit.intOf i).toNat)
          case atStart => exact ⟨0, by omega, rfl, fun j _ _ h => by omega, Below.refl _ _⟩
          case round =>
            obtain ⟨q, hq, rfl, HF2, HB2⟩ := hrel
            have d0 := (HB2.out.cell (p := ⟨b, o + m, none⟩) hbq).trans D0.out
            have e0 := (HB2.out.cell (p := ⟨b', o' + m, none⟩) hbq').trans E0.out
            by_cases hltq : q < n2
            · have hm1 : q < l1.length := by rw [HL3.out]; exact hltq
              have hm2 : q < l2.length := by rw [HL4.out]; exact hltq
              obtain ⟨b3, o3, rfl, hc3, hb3, d1, d2, d3⟩ := RT.inw.cells (HX3.out.later HB2.out) hm1
              obtain ⟨b4, o4, rfl, hc4, hb4, e1, e2, e3⟩ := RT.inw.cells (HX4.out.later HB2.out) hm2
              rw [HL3.out] at hc3
              rw [HL4.out] at hc4
              have HD3 : Hid (¬ l1[q] = l2[q] → ∀ w', Below w.heap.size w w' → Q (.returned (.bool false)) w') := fun h => HD.out (fun e => h (by subst e; rfl))
              have HS3 : Hid (l1[q] = l2[q] → ∀ j (h1 : j < l1.length) (h2 : j < l2.length), j < q + 1 → l1[j] = l2[j]) := fun h j h1 h2 hj => by
                rcases Nat.lt_or_ge j q with h3 | h3
                · exact HF2.out j h1 h2 h3
                · obtain rfl : j = q := by omega
                  exact h
              clear HF2
              generalize l1[q] = x at *
              generalize l2[q] = y at *
              clear hm1 hm2
              obtain ⟨xk, xn, xs⟩ := x
              obtain ⟨yk, yn, ys⟩ := y
              simp only at *
              have HB5 := Lib.hid (HBN.out.trans (HB2.out.mono HBN.out.size))
              by_cases h0 : xk = yk
              · subst h0
                by_cases h3 : xn = yn
                · subst h3
                  by_cases h4 : xs = ys
                  · subst h4
                    have HS2 := Lib.hid (HS3.out rfl)
                    go_wp2_with fail
                    go_quiet (fail)
                    have HB6 := Lib.hid (below_drew HB2.out nq)
                    go_wp2
                    go_roundw
                    case rel => exact ⟨q + 1, by omega, by go_num, HS2, HB6⟩
                    case measure => simp [RowKit.intOf]; omega
                  · have HD2 := Lib.hid (HD3.out (fun e => h4 (by injection e)))
                    have hs1 := (str_ne h4).1
                    have hs2 := (str_ne h4).2
                    clear h4
                    go_wp2_with fail
                    go_quiet (fail)
                    have HBN := Lib.hid (below_drew HB5.out nq)
                    go_wp2
                    exact HD2.out _ HBN.out
                · have HD2 := Lib.hid (HD3.out (fun e => h3 (by injection e)))
                  have h3' : (xn == yn) = false := by rw [beq_eq_false_iff_ne]; exact h3
                  clear h3
                  go_wp2_with fail
                  go_quiet (fail)
                  have HBN := Lib.hid (below_drew HB5.out nq)
                  go_wp2
                  exact HD2.out _ HBN.out
              · have HD2 := Lib.hid (HD3.out (fun e => h0 (by injection e)))
                have h0' : (xk == yk) = false := by rw [beq_eq_false_iff_ne]; exact h0
                clear h0
                go_wp2_with fail
                go_quiet (fail)
                have HBN := Lib.hid (below_drew HB5.out nq)
                go_wp2
                exact HD2.out _ HBN.out
            · obtain rfl : q = n2 := by omega
              have HE := Lib.hid (HS.out (List.ext_getElem (HL3.out.trans HL4.out.symm) (fun j h1 h2 => HF2.out j h1 h2 (by rw [← HL3.out]; exact h1))))
              have HB5 := Lib.hid (HBN.out.trans (HB2.out.mono HBN.out.size))
              go_wp2
              go_roundw
              case rel => exact ⟨m + 1, by omega, by go_num, HE, HB5⟩
              case measure => simp [RowKit.intOf]; omega
        · have hle2 : ((l1.length : Int) != l2.length) = true := by rw [bne_iff_ne]; omega
          have HE := Lib.hid (HD.out (fun e => hle (by rw [e])))
          clear hle
          go_wp2_with fail
          go_quiet (fail)
          have HBN := Lib.hid (below_drew HB.out nq)
          go_wp2
          exact HE.out _ HBN.out
      · obtain rfl : m = n := by omega
        have HE := Lib.hid (HY.out (map_l_of (HL1.out.trans HL2.out.symm) (fun j h1 h2 => HF.out j h1 h2 (by rw [← HL1.out]; exact h1))) _ HB.out)
        go_wp2
        exact HE.out
  · have hle2 : ((P1.length : Int) != P2.length) = true := by rw [bne_iff_ne]; omega
    have HE := Lib.hid (HN.out (fun e => hle (map_l_len e)) w (Below.refl _ _))
    go_enter Tryd.func8, Tryd.ntmps8
    go_wp2
    exact HE.out
end Go.Proofs.YtoocagpjcbagoaaDoor
