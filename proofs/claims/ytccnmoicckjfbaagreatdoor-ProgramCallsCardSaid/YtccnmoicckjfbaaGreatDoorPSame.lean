/- Few of the reference. -/
import Derived.Test.YtccnmoicckjfbaaGreatDoorPRef1
import Derived.Test.YtccnmoicckjfbaaGreatDoorPRight
namespace Go.Proofs.YtccnmoicckjfbaaGreatDoor
set_option linter.unusedVariables false
set_option linter.unusedSimpArgs false
open Go.RowKit

/-- The header of a routine, in a program. -/
theorem PrgU.head {w : World} {a : Option Addr} {c : Nat} {P : List RT} (h : PrgU w (.slice a P.length c) P) {m : Nat} (hm : m < P.length) :
    ∃ b o, a = some ⟨b, o, none⟩ ∧ P.length ≤ c ∧ b < w.heap.size ∧ w.cell? ⟨b, o + m, none⟩ = some P[m].v := by
  obtain ⟨b, o, c', hv, hle, hbl, hcell⟩ := h.rd.at (by omega)
  cases hv
  exact ⟨b, o, rfl, hle, hbl, hcell m _ (by rw [List.getElem?_map, List.getElem?_eq_getElem hm]; rfl)⟩
theorem RT.inw.cells {w : World} {l : List ST} {a : Option Addr} {c : Nat} (h : RT.inw ⟨l, a, c⟩ w) {q : Nat} (hq : q < l.length) :
    ∃ b o, a = some ⟨b, o, none⟩ ∧ l.length ≤ c ∧ b < w.heap.size ∧ w.cell? ⟨b, o + q * 3, none⟩ = some (.int .i64 l[q].k) ∧ w.cell? ⟨b, o + q * 3 + 1, none⟩ = some (.int .i64 l[q].n) ∧ w.cell? ⟨b, o + q * 3 + 2, none⟩ = some (.string l[q].s) := by
  have hr : Reads w (.slice a l.length c) l.length 3 (l.flatMap stcells) := h.rd
  obtain ⟨b2, o2, hra, hle2, -, hb2, hcell2⟩ := hr.atN (by omega) (by decide)
  have d0 := hcell2 (q * 3) _ (by simpa using fm_get stcells_len (List.getElem?_eq_getElem hq) 0 _ rfl)
  have d1 := hcell2 (q * 3 + 1) _ (fm_get stcells_len (List.getElem?_eq_getElem hq) 1 _ rfl)
  have d2 := hcell2 (q * 3 + 2) _ (fm_get stcells_len (List.getElem?_eq_getElem hq) 2 _ rfl)
  rw [← Nat.add_assoc] at d1 d2
  exact ⟨b2, o2, hra, hle2, hb2, d0, d1, d2⟩

def minS (P : List RT) : Nat := (P.map fun r => min r.l.length 300).sum
theorem minS_succ {P : List RT} {m : Nat} (h : m < P.length) : minS (P.take (m + 1)) = minS (P.take m) + min P[m].l.length 300 := by
  unfold minS
  rw [List.take_succ_eq_append_getElem h, List.map_append, List.sum_append]; simp
def FewPost (w : World) (P : List RT) : Ending → World → Prop := fun e w' => (∃ b, e = .returned (.bool b) ∧ (b = true → minS P ≤ 400)) ∧ w' = w

set_option maxRecDepth 100000 in
set_option maxHeartbeats 2000000 in
theorem rfew_any (a : Option Addr) (c : Nat) (P : List RT) (w : World) (h : PrgU w (.slice a P.length c) P) :
    Calls Tryz.prog 4 #[.slice a P.length c] w (FewPost w P) := by
  have HP := Lib.hid h
  have hll := h.lb
  clear h
  go_enter Tryz.func4, Tryz.ntmps4
  go_wp2_with fail
  go_loopw [3, 4] (fun s i w' => ∃ (m : Nat) (N : Int), m ≤ P.length ∧ s = .int .i64 N ∧ i = .int .i64 m ∧ w' = w ∧ ((minS (P.take m) : Nat) : Int) ≤ N ∧ N ≤ 33300 * (m : Int)) (fun _ i _ => P.length - (RowKit.intOf i).toNat)
  case atStart => exact ⟨0, 0, by omega, rfl, rfl, rfl, by simp [minS], by omega⟩
  case round =>
    obtain ⟨m, N, hm, rfl, rfl, rfl, hN1, hN2⟩ := hrel
    by_cases hlt : m < P.length
    · obtain ⟨b, o, rfl, hle, hb, hc⟩ := HP.out.head hlt
      have HE := Lib.hid (HP.out.each _ (List.getElem_mem hlt))
      have hl := HE.out.ll
      unfold maxLen at hl
      have hmin := minS_succ hlt
      generalize P[m] = r at *
      obtain ⟨rl, ra, rc⟩ := r
      simp only [RT.v] at *
      go_wp2_with fail
      go_loopw [3, 5] (fun s i w' => ∃ (q : Nat) (N2 : Int), q ≤ rl.length ∧ s = .int .i64 N2 ∧ i = .int .i64 q ∧ w' = wr ∧ q ≤ 300 ∧ N + (min rl.length 300 : Nat) ≤ N2 ∧ N2 ≤ 33300 * (m : Int) + 300 + 110 * (q : Int)) (fun _ i _ => rl.length - (RowKit.intOf i).toNat)
      case atStart => exact ⟨0, _, by omega, rfl, rfl, rfl, by omega, by omega, by omega⟩
      case round =>
        obtain ⟨q, N2, hq, rfl, rfl, rfl, hq3, hN3, hN4⟩ := hrel
        by_cases hlt2 : q < rl.length ∧ (q : Int) < 300
        · obtain ⟨hlt2, h300⟩ := hlt2
          obtain ⟨b2, o2, rfl, hle2, hb2, d0, d1, d2⟩ := RT.inw.cells HE.out hlt2
          have hs := (HE.out.ok _ (List.getElem_mem hlt2)).2.2
          unfold maxLen at hs
          generalize rl[q] = x at *
          obtain ⟨xk, xn, xs⟩ := x
          simp only at *
          go_wp2_with fail
          go_roundw
          case rel => exact ⟨q + 1, _, by omega, rfl, by go_num, by trivial, by omega, by omega, by omega⟩
          case measure => simp [RowKit.intOf]; omega
        · rcases Nat.lt_or_ge q rl.length with hlt3 | hge
          · have h300 : ¬ (q : Int) < 300 := fun h => hlt2 ⟨hlt3, h⟩
            clear hlt2
            go_wp2_with fail
            go_roundw
            case rel => exact ⟨m + 1, N2, by omega, rfl, by go_num, by trivial, by rw [hmin]; omega, by omega⟩
            case measure => simp [RowKit.intOf]; omega
          · obtain rfl : q = rl.length := by omega
            clear hlt2
            go_wp2_with fail
            go_roundw
            case rel => exact ⟨m + 1, N2, by omega, rfl, by go_num, by trivial, by rw [hmin]; omega, by omega⟩
            case measure => simp [RowKit.intOf]; omega
    · obtain rfl : m = P.length := by omega
      rw [List.take_length] at hN1
      by_cases h25 : (P.length : Int) ≤ 25
      · by_cases h400 : N ≤ 400
        · go_wp2
          go_ret
          exact ⟨⟨_, rfl, fun _ => by omega⟩, rfl⟩
        · go_wp2
          go_ret
          exact ⟨⟨_, rfl, fun h => by simp at h⟩, rfl⟩
      · go_wp2
        go_ret
        exact ⟨⟨_, rfl, fun h => by simp at h⟩, rfl⟩

theorem map_l_eq {P Q : List RT} (h : P.map RT.l = Q.map RT.l) {m : Nat} (h1 : m < P.length) (h2 : m < Q.length) : P[m].l = Q[m].l := by
  have := congrArg (fun l => l[m]?) h
  simpa [h1, h2] using this
theorem map_l_len {P Q : List RT} (h : P.map RT.l = Q.map RT.l) : P.length = Q.length := by
  have := congrArg List.length h
  simpa using this
theorem map_l_of {P Q : List RT} (hl : P.length = Q.length) (h : ∀ j (h1 : j < P.length) (h2 : j < Q.length), P[j].l = Q[j].l) : P.map RT.l = Q.map RT.l := by
  apply List.ext_getElem (by simpa using hl)
  intro j h1 h2
  simp only [List.length_map] at h1 h2
  simpa using h j h1 h2

def SPost (w : World) (p : Prop) : Ending → World → Prop := fun e w' => ∃ b, e = .returned (.bool b) ∧ (b = true ↔ p) ∧ Below w.heap.size w w'
theorem SPost.yes {w w' : World} {p : Prop} (hp : p) (hb : Below w.heap.size w w') : SPost w p (.returned (.bool true)) w' := ⟨true, rfl, by simp [hp], hb⟩
theorem SPost.no {w w' : World} {p : Prop} (hp : ¬ p) (hb : Below w.heap.size w w') : SPost w p (.returned (.bool false)) w' := ⟨false, rfl, by simp [hp], hb⟩
theorem below_drew {B : Nat} {w w' : World} (h : Below B w w') (n : Nat) : Below B w (w'.drewN n) := ⟨h.os, h.tape, h.output, h.size, h.block⟩

end Go.Proofs.YtccnmoicckjfbaaGreatDoor
