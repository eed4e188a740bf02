/- Few and Same of the reference; the comparisons of programs. -/
import Derived.Test.YtoocagpjcbagoaaDoorPRef1
import Derived.Test.YtoocagpjcbagoaaDoorPRight
namespace Go.Proofs.YtoocagpjcbagoaaDoor
set_option linter.unusedVariables false
set_option linter.unusedSimpArgs false
open Go.RowKit

/-- The header of a routine, in a program. -/
theorem PrgU.head {w : World} {a : Option Addr} {c : Nat} {P : List RT} (h : PrgU w (.slice a P.length c) P) {m : Nat} (hm : m < P.length) :
    ∃ b o, a = some ⟨b, o, none⟩ ∧ P.length ≤ c ∧ b < w.heap.size ∧ w.cell? ⟨b, o + m, none⟩ = some P[m].v := by
  obtain ⟨b, o, c', hv, hle, hbl, hcell⟩ := h.rd.at (by omega)
  cases hv
  exact ⟨b, o, rfl, hle, hbl, hcell m _ (by rw [List.getElem?_map, List.getElem?_eq_getElem hm]; rfl)⟩
theorem RT.inw.cells {w : World} {l : List ST} {a : Option Addr} {c : Nat} (h : RT.inw ⟨l, a, c⟩ w) {q : Nat} (hq : q < l.length) :
    ∃ b o, a = some ⟨b, o, none⟩ ∧ l.length ≤ c ∧ b < w.heap.size ∧ w.cell? ⟨b, o + q * 3, none⟩ = some (.int .i64 l[q].k) ∧ w.cell? ⟨b, o + q * 3 + 1, none⟩ = some (.int .i64 l[q].n) ∧ w.cell? ⟨b, o + q * 3 + 2, none⟩ = some (.string l[q].s) := by
  have hr : Reads w (.slice a l.length c) l.length 3 (l.flatMap stcells) := h.rd
  obtain ⟨b2, o2, hra, hle2, -, hb2, hcell2⟩ := hr.atN (by omega) (by decide)
  have d0 := hcell2 (q * 3) _ (by simpa using fm_get stcells_len (List.getElem?_eq_getElem hq) 0 _ rfl)
  have d1 := hcell2 (q * 3 + 1) _ (fm_get stcells_len (List.getElem?_eq_getElem hq) 1 _ rfl)
  have d2 := hcell2 (q * 3 + 2) _ (fm_get stcells_len (List.getElem?_eq_getElem hq) 2 _ rfl)
  rw [← Nat.add_assoc] at d1 d2
  exact ⟨b2, o2, hra, hle2, hb2, d0, d1, d2⟩

def FewPost (w : World) : Ending → World → Prop := fun e w' => (∃ b, e = .returned (.bool b)) ∧ w' = w

set_option maxRecDepth 100000 in
set_option maxHeartbeats 2000000 in
theorem rfew_any (a : Option Addr) (c : Nat) (P : List RT) (w : World) (h : PrgU w (.slice a P.length c) P) :
    Calls Tryd.prog 7 #[.slice a P.length c] w (FewPost w) := by
  have HP := Lib.hid h
  have hll := h.ll
  unfold maxLen at hll
  clear h
  go_enter Tryd.func7, Tryd.ntmps7
  go_wp2_with fail
  go_loopw [3, 4] (fun s i w' => ∃ (m : Nat) (N : Int), m ≤ P.length ∧ s = .int .i64 N ∧ i = .int .i64 m ∧ w' = w) (fun _ i _ => P.length - (RowKit.intOf i).toNat)
  case atStart => exact ⟨0, 0, by omega, rfl, rfl, rfl⟩
  case round =>
    obtain ⟨m, N, hm, rfl, rfl, rfl⟩ := hrel
    by_cases hlt : m < P.length
    · obtain ⟨b, o, rfl, hle, hb, hc⟩ := HP.out.head hlt
      have HE := Lib.hid (HP.out.each _ (List.getElem_mem hlt))
      have hl := HE.out.ll
      unfold maxLen at hl
      generalize P[m] = r at *
      obtain ⟨rl, ra, rc⟩ := r
      simp only [RT.v] at *
      go_wp2_with fail
      go_loopw [3, 5] (fun s i w' => ∃ (q : Nat) (N : Int), q ≤ rl.length ∧ s = .int .i64 N ∧ i = .int .i64 q ∧ w' = wr) (fun _ i _ => rl.length - (RowKit.intOf i).toNat)
      case atStart => exact ⟨0, _, by omega, rfl, rfl, rfl⟩
      case round =>
        obtain ⟨q, N2, hq, rfl, rfl, rfl⟩ := hrel
        by_cases hlt2 : q < rl.length ∧ (q : Int) < 300
        · obtain ⟨hlt2, h300⟩ := hlt2
          obtain ⟨b2, o2, rfl, hle2, hb2, d0, d1, d2⟩ := RT.inw.cells HE.out hlt2
          have hs := (HE.out.ok _ (List.getElem_mem hlt2)).2.2
          unfold maxLen at hs
          generalize rl[q] = x at *
          obtain ⟨xk, xn, xs⟩ := x
          simp only at *
          go_wp2_with fail
          go_roundw
          case rel => exact ⟨q + 1, _, by omega, rfl, by go_num, by trivial⟩
          case measure => simp [RowKit.intOf]; omega
        · rcases Nat.lt_or_ge q rl.length with hlt3 | hge
          · have h300 : ¬ (q : Int) < 300 := fun h => hlt2 ⟨hlt3, h⟩
            clear hlt2
            go_wp2_with fail
            go_roundw
            case rel => exact ⟨m + 1, _, by omega, rfl, by go_num, by trivial⟩
            case measure => simp [RowKit.intOf]; omega
          · obtain rfl : q = rl.length := by omega
            clear hlt2
            go_wp2_with fail
            go_roundw
            case rel => exact ⟨m + 1, _, by omega, rfl, by go_num, by trivial⟩
            case measure => simp [RowKit.intOf]; omega
    · obtain rfl : m = P.length := by omega
      by_cases h25 : (P.length : Int) ≤ 25
      · go_wp2
        go_ret
        exact ⟨⟨_, rfl⟩, rfl⟩
      · go_wp2
        go_ret
        exact ⟨⟨_, rfl⟩, rfl⟩

theorem map_l_eq {P Q : List RT} (h : P.map RT.l = Q.map RT.l) {m : Nat} (h1 : m < P.length) (h2 : m < Q.length) : P[m].l = Q[m].l := by
  have := congrArg (fun l => l[m]?) h
  simpa [h1, h2] using this
theorem map_l_len {P Q : List RT} (h : P.map RT.l = Q.map RT.l) : P.length = Q.length := by
  have := congrArg List.length h
  simpa using this
theorem map_l_of {P Q : List RT} (hl : P.length = Q.length) (h : ∀ j (h1 : j < P.length) (h2 : j < Q.length), P[j].l = Q[j].l) : P.map RT.l = Q.map RT.l := by
  apply List.ext_getElem (by simpa using hl)
  intro j h1 h2
  simp only [List.length_map] at h1 h2
  simpa using h j h1 h2

def SPost (w : World) (p : Prop) : Ending → World → Prop := fun e w' => ∃ b, e = .returned (.bool b) ∧ (b = true ↔ p) ∧ Below w.heap.size w w'
theorem SPost.yes {w w' : World} {p : Prop} (hp : p) (hb : Below w.heap.size w w') : SPost w p (.returned (.bool true)) w' := ⟨true, rfl, by simp [hp], hb⟩
theorem SPost.no {w w' : World} {p : Prop} (hp : ¬ p) (hb : Below w.heap.size w w') : SPost w p (.returned (.bool false)) w' := ⟨false, rfl, by simp [hp], hb⟩
theorem below_drew {B : Nat} {w w' : World} (h : Below B w w') (n : Nat) : Below B w (w'.drewN n) := ⟨h.os, h.tape, h.output, h.size, h.block⟩

set_option maxRecDepth 100000 in
set_option maxHeartbeats 2000000 in
theorem sequalP_any (r1 r2 : RT) (w : World) (h1 : r1.inw w) (h2 : r2.inw w) :
    Calls Tryd.prog 15 #[r1.v, r2.v] w (SPost w (r1.l = r2.l)) := by
  obtain ⟨l1, a1, c1⟩ := r1
  obtain ⟨l2, a2, c2⟩ := r2
  have H1 := Lib.hid h1
  have H2 := Lib.hid h2
  have hl1 := h1.ll
  have hl2 := h2.ll
  unfold maxLen at hl1 hl2
  clear h1 h2
  simp only [RT.v] at *
  have HY : Hid (l1 = l2 → ∀ w', Below w.heap.size w w' → SPost w (l1 = l2) (.returned (.bool true)) w') := fun h w' hb => SPost.yes h hb
  have HN : Hid (¬ l1 = l2 → ∀ w', Below w.heap.size w w' → SPost w (l1 = l2) (.returned (.bool false)) w') := fun h w' hb => SPost.no h hb
  obtain ⟨Q, hQ⟩ : ∃ Q, Q = SPost w (l1 = l2) := ⟨_, rfl⟩
  rw [← hQ] at HY HN ⊢
  clear hQ
  by_cases hle : l1.length = l2.length
  · obtain ⟨n, hn⟩ : ∃ n, n = l2.length := ⟨_, rfl⟩
    rw [hle, ← hn]
    have HL1 : Hid (l1.length = n) := by rw [hn]; exact hle
    have HL2 : Hid (l2.length = n) := hn.symm
    rw [← hn] at hl2
    clear hle hn hl1
    go_enter Tryd.func15, Tryd.ntmps15
    go_wp2_with fail
    go_loopw [13] (fun i w' => ∃ m : Nat, m ≤ n ∧ i = .int .i64 m ∧ Hid (∀ j (h1 : j < l1.length) (h2 : j < l2.length), j < m → l1[j] = l2[j]) ∧ Hid (Below w.heap.size w w')) (fun i _ => n - (RowKit.intOf i).toNat)
    case atStart => exact ⟨0, by omega, rfl, fun j _ _ h => by omega, Below.refl _ _⟩
    case round =>
      obtain ⟨m, hm, rfl, HF, HB⟩ := hrel
      by_cases hlt : m < n
      · have hm1 : m < l1.length := by rw [HL1.out]; exact hlt
        have hm2 : m < l2.length := by rw [HL2.out]; exact hlt
        obtain ⟨b, o, rfl, hc1, hb, d0, d1, d2⟩ := RT.inw.cells (H1.out.later HB.out) hm1
        obtain ⟨b', o', rfl, hc2, hb', e0, e1, e2⟩ := RT.inw.cells (H2.out.later HB.out) hm2
        rw [HL1.out] at hc1
        rw [HL2.out] at hc2
        have HD : Hid (¬ l1[m] = l2[m] → ∀ w', Below w.heap.size w w' → Q (.returned (.bool false)) w') := fun h => HN.out (fun e => h (by subst e; rfl))
        have HS : Hid (l1[m] = l2[m] → ∀ j (h1 : j < l1.length) (h2 : j < l2.length), j < m + 1 → l1[j] = l2[j]) := fun h j h1 h2 hj => by
          rcases Nat.lt_or_ge j m with h3 | h3
          · exact HF.out j h1 h2 h3
          · obtain rfl : j = m := by omega
            exact h
        clear HF
        generalize l1[m] = x at *
        generalize l2[m] = y at *
        clear hm1 hm2
        obtain ⟨xk, xn, xs⟩ := x
        obtain ⟨yk, yn, ys⟩ := y
        simp only at *
        by_cases h0 : xk = yk
        · subst h0
          by_cases h3 : xn = yn
          · subst h3
            by_cases h4 : xs = ys
            · subst h4
              have HS2 := Lib.hid (HS.out rfl)
              go_wp2_with fail
              go_quiet (fail)
              have HBN := Lib.hid (below_drew HB.out nq)
              go_wp2
              go_roundw
              case rel => exact ⟨m + 1, by omega, by go_num, HS2, HBN⟩
              case measure => simp [RowKit.intOf]; omega
            · have HD2 := Lib.hid (HD.out (fun e => h4 (by injection e)))
              have hs1 := (str_ne h4).1
              have hs2 := (str_ne h4).2
              clear h4
              go_wp2_with fail
              go_quiet (fail)
              have HBN := Lib.hid (below_drew HB.out nq)
              go_wp2
              exact HD2.out _ HBN.out
          · have HD2 := Lib.hid (HD.out (fun e => h3 (by injection e)))
            have h3' : (xn == yn) = false := by rw [beq_eq_false_iff_ne]; exact h3
            clear h3
            go_wp2_with fail
            go_quiet (fail)
            have HBN := Lib.hid (below_drew HB.out nq)
            go_wp2
            exact HD2.out _ HBN.out
        · have HD2 := Lib.hid (HD.out (fun e => h0 (by injection e)))
          have h0' : (xk == yk) = false := by rw [beq_eq_false_iff_ne]; exact h0
          clear h0
          go_wp2_with fail
          go_quiet (fail)
          have HBN := Lib.hid (below_drew HB.out nq)
          go_wp2
          exact HD2.out _ HBN.out
      · obtain rfl : m = n := by omega
        have HE := Lib.hid (HY.out (List.ext_getElem (HL1.out.trans HL2.out.symm) (fun j h1 h2 => HF.out j h1 h2 (by rw [← HL1.out]; exact h1))) _ HB.out)
        go_wp2
        exact HE.out
  · have hle2 : ((l1.length : Int) != l2.length) = true := by rw [bne_iff_ne]; omega
    have HE := Lib.hid (HN.out (fun e => hle (by rw [e])) w (Below.refl _ _))
    go_enter Tryd.func15, Tryd.ntmps15
    go_wp2
    exact HE.out
end Go.Proofs.YtoocagpjcbagoaaDoor
