/- The walk of the law on lists of segments: it returns true. -/
import Derived.Test.YtnpkjkbcmidbmaaDoorChecked
import Derived.Test.YtnpkjkbcmidbmaaDoorSegList
import Derived.Test.YtnpkjkbcmidbmaaDoorSegLaws
namespace Go.Proofs.YtnpkjkbcmidbmaaDoor
open Go.RowKit Go.Lib

set_option maxRecDepth 100000 in
set_option maxHeartbeats 1000000 in
theorem sorted_any (v : Value) (l : List Int) (w : World) (hr : Reads w v l.length 1 (ints l)) (hi : Inc l) (hs : l.length ≤ 100000) :
    Calls Tryd.prog 15 #[v] w fun e w' => e = .returned (.bool true) ∧ ∃ n, w' = w.drewN n := by
  have Hr := Lib.hid hr
  have HI := Lib.hid hi
  obtain ⟨-, ao, c, rfl, -, -, -⟩ := hr
  clear hi
  go_enter Tryd.func15, Tryd.ntmps15
  go_wp2
  go_loopw [3] (fun i w' => ∃ (k : Int) (n : Nat), -1 ≤ k ∧ k < l.length ∧ i = .int .i64 k ∧ w' = w.drewN n) (fun i _ => (RowKit.intOf i).toNat)
  case atStart => exact ⟨_, 0, by omega, by omega, rfl, rfl⟩
  case round =>
    obtain ⟨k, nq, hk, hk2, rfl, rfl⟩ := hrel
    by_cases hlt : 0 < k
    · obtain ⟨p, rfl⟩ : ∃ p : Nat, k = (p : Int) := ⟨k.toNat, by omega⟩
      obtain ⟨b, o, c', hv, hnc, -, hc⟩ := Hr.out.at (by omega)
      cases hv
      have hp1 : p < l.length := by omega
      obtain ⟨q, hq⟩ : ∃ q : Nat, p = q + 1 := ⟨p - 1, by omega⟩
      have hc1 : w.cell? ⟨b, o + p, none⟩ = some (.int .i64 (l[p])) := hc p _ (by simp [hp1])
      have hc0 : w.cell? ⟨b, o + q, none⟩ = some (.int .i64 (l[q])) := hc q _ (by rw [List.getElem?_map, List.getElem?_eq_getElem]; rfl)
      have hl : l[q] < l[p] := List.pairwise_iff_getElem.1 HI.out q p (by omega) hp1 (by omega)
      generalize l[p] = x at *
      generalize l[q] = y at *
      have hd : decide (x < y) = false := by simp; omega
      have hx := Tryd.cmp_Less_int2 x y
      rw [hd] at hx
      have HX := Lib.hid hx
      have HQ := Lib.hid hq
      have hpl : (p : Int) < (l.length : Int) := by omega
      have hql : (q : Int) < (l.length : Int) := by omega
      have hw1 : IntKind.i64.wrap ((p : Int) - 1) = (q : Int) := by rw [IntWalk.i64_in _ (by omega)]; omega
      have hge : 0 ≤ (p : Int) - 1 := by omega
      have hle : (p : Int) - 1 ≤ 100000 := by omega
      obtain ⟨W, hW⟩ : ∃ W, W = w.drewN nq := ⟨_, rfl⟩
      have hC1 : W.cell? ⟨b, o + p, none⟩ = some (.int .i64 x) := by rw [hW]; exact hc1
      have hC0 : W.cell? ⟨b, o + q, none⟩ = some (.int .i64 y) := by rw [hW]; exact hc0
      rw [← hW]
      have HW := Lib.hid hW
      clear hx hd hc hl hq hc1 hc0 hW
      go_wp2
      go_quiet ((go_at_call 22; exact Calls.quiet_of_same (HX.out _)))
      clear hw1
      go_wp2
      go_roundw
      case rel => exact ⟨(p : Int) - 1, _, by omega, by omega, rfl, by rw [HW.out, World.drewN_drewN]⟩
      case measure => simp [RowKit.intOf]; omega
    · go_wp2
      go_ret
      exact ⟨rfl, nq, rfl⟩

theorem equal_same (v1 v2 : Value) (l : List Int) (w : World) (h1 : Reads w v1 l.length 1 (ints l)) (h2 : Reads w v2 l.length 1 (ints l)) (hs : l.length ≤ 100000) :
    Calls Tryd.prog 13 #[v1, v2] w fun e w' => e = .returned (.bool true) ∧ ∃ q, w' = w.drewN q := by
  by_cases h0 : l.length = 0
  · obtain ⟨-, a1, c1, rfl, -, -, -⟩ := h1
    obtain ⟨-, a2, c2, rfl, -, -, -⟩ := h2
    rw [h0]
    refine (Tryd.slices_Equal_int_empty a1 a2 c1 0 c2 w (by omega)).mono ?_
    rintro e w' ⟨rfl, rfl⟩
    exact ⟨rfl, 0, rfl⟩
  · obtain ⟨b1, o1, c1, rfl, -, -, hc1⟩ := h1.at (by omega)
    obtain ⟨b2, o2, c2, rfl, -, -, hc2⟩ := h2.at (by omega)
    refine (Tryd.slices_Equal_int b1 o1 l.length c1 b2 o2 l.length c2 l l w (Nat.le_refl _) (Nat.le_refl _) (by omega) (by omega) (fun j hj => hc1 j _ (by simp [hj])) (fun j hj => hc2 j _ (by simp [hj]))).mono ?_
    rintro e w' ⟨rfl, hq⟩
    exact ⟨by simp, hq⟩

theorem below_drewN (w : World) (n : Nat) : Below w.heap.size w (w.drewN n) := ⟨rfl, rfl, rfl, Nat.le_refl _, fun _ _ => rfl⟩

set_option maxRecDepth 100000 in
set_option maxHeartbeats 1000000 in
theorem lists_any (v : Value) (ss : List ByteArray) (w : World) (htab : Tab w) (hr : Reads w v ss.length 1 (strsV ss)) (hs : ss.length ≤ 9223372036854775807) :
    Calls Tryd.prog 6 #[v] w fun e w' => e = .returned (.bool true) ∧ Below w.heap.size w w' := by
  have Hr := Lib.hid hr
  obtain ⟨-, ao, c, rfl, -, -, -⟩ := hr
  by_cases h60 : 60 < ss.length
  · go_enter Tryd.func6, Tryd.ntmps6
    go_wp2_with fail
    refine (alive_any w htab).mono ?_
    rintro e w1 ⟨rfl, hb⟩
    go_wp2
    go_ret
    exact ⟨rfl, hb⟩
  · have h60' : decide ((60 : Int) < (ss.length : Int)) = false := by simp; omega
    have HL1 := Lib.hid (list_any _ ss w Hr.out (by omega))
    have HI := Lib.hid (inc_refL ss)
    have hlen := refL_length ss
    go_enter Tryd.func6, Tryd.ntmps6
    go_wp2_with fail
    refine HL1.out.mono ?_
    rintro e w1 ⟨v1, rfl, hr1, hb1⟩
    have HR1 := Lib.hid hr1
    have HB1 := Lib.hid hb1
    clear hr1 hb1
    go_wp2_with fail
    refine (alive_any w1 (tab_below htab HB1.out)).mono ?_
    rintro e w2 ⟨rfl, hb2⟩
    have HR2 := Lib.hid (HR1.out.later hb2)
    have HB2 := Lib.hid (HB1.out.trans (hb2.mono HB1.out.size))
    clear hb2
    have HRef := Lib.hid (refList_any _ ss w2 (Hr.out.later HB2.out) (by omega))
    go_wp2_with fail
    refine HRef.out.mono ?_
    rintro e w3 ⟨v3, rfl, hown3, hb3⟩
    have HR3 := Lib.hid (reads_of_owns hown3)
    have HR3' := Lib.hid (HR2.out.later hb3)
    have HB3 := Lib.hid (HB2.out.trans (hb3.mono HB2.out.size))
    clear hown3 hb3
    go_wp2_with fail
    refine (equal_same _ _ _ _ HR3'.out HR3.out (by omega)).mono ?_
    rintro e w4 ⟨rfl, q, rfl⟩
    have HB4 := Lib.hid (HB3.out.trans ((below_drewN w3 q).mono HB3.out.size))
    go_wp2_with fail
    refine (sorted_any _ (refL ss) _ (HR3'.out.drewN q) HI.out (by omega)).mono ?_
    rintro e w5 ⟨rfl, q5, rfl⟩
    have HB5 := Lib.hid (HB4.out.trans ((below_drewN (w3.drewN q) q5).mono HB4.out.size))
    go_wp2
    go_ret
    have h5 := HB5.out
    rw [World.drewN_drewN] at h5
    exact ⟨rfl, h5⟩
end Go.Proofs.YtnpkjkbcmidbmaaDoor
