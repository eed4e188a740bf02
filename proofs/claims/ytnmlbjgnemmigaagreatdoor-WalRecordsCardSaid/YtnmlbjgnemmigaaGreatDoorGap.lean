/- segment.Gap of the numbers of segments that lie without a gap. -/
import Derived.Test.YtnmlbjgnemmigaaGreatDoorSegList
import Derived.Test.YtnmlbjgnemmigaaGreatDoorWRecs
namespace Go.Proofs.YtnmlbjgnemmigaaGreatDoor
set_option linter.unusedVariables false
set_option linter.unusedSimpArgs false
open Go.RowKit Go.Lib

set_option maxRecDepth 100000 in
set_option maxHeartbeats 1000000 in
theorem iclone_any (ao : Option Addr) (c : Nat) (l : List Int) (w : World) (h : Reads w (.slice ao l.length c) l.length 1 (ints l)) (hn : l.length ≤ 2000000000) :
    Calls Tryz.prog 48 #[.slice ao l.length c] w fun e w' => ∃ v', e = .returned v' ∧ w'.ownsRow w.heap.size 3 1 v' l.length (ints l) ∧ Below w.heap.size w w' := by
  cases ao with
  | none =>
    obtain ⟨hl, _, _, he, _, hnn, _⟩ := h
    cases he
    obtain ⟨hl0, rfl⟩ := hnn rfl
    obtain rfl : l = [] := List.eq_nil_of_length_eq_zero hl0
    have he : (binOp .eql 45 (.slice none 0 0) (.slice none 0 0)).run Tryz.prog w = .ok (.bool true) w := by kernel_rfl
    go_enter Tryz.func48, Tryz.ntmps48
    go_wp2
    go_ret
    exact ⟨_, rfl, World.ownsRow_nil _ _ _ _, Below.refl _ _⟩
  | some ad =>
    have he : ∀ W, (binOp .eql 45 (.slice (some ad) l.length c) (.slice none 0 0)).run Tryz.prog W = .ok (.bool false) W := fun W => Lib.run_eql_slice_nil W _ _ (some ad) l.length c 0 0 Tryz.underlying45
    have H := Lib.hid h
    have H1 : Hid (∀ u ∈ ints l, u.oneCell' = true) := fun u hu => by
      obtain ⟨x, -, rfl⟩ := List.mem_map.1 hu
      rfl
    clear h
    go_enter Tryz.func48, Tryz.ntmps48
    go_wp2_with (at_builtin; refine wpList_app elemInt rfl rfl (v := .slice (some ⟨w.heap.size, 0, none⟩) 0 0) (n := 0) (xs := []) rfl (base := w.heap.size) (owns_empty _ _ _ _ (Nat.le_refl _) rfl) (y := .slice (some ad) l.length c) (m := l.length) (news := ints l) rfl (H.out.later ((Below.refl _ _).alloc (Nat.le_refl _) _)) H1.out (by unfold maxLen; omega) (by omega) (by simp) ?_; intro v' w' hr hg _)
    go_ret
    refine ⟨_, rfl, ?_, ?_⟩
    · rw [Nat.zero_add, List.nil_append] at hr
      exact hr
    · exact ((Below.refl _ _).alloc (Nat.le_refl _) _).grown hg (by simp) (fun k hk => by cases hk; exact Nat.le_refl _)

theorem isort_any (v : Value) (l : List Int) (w : World) (base : Nat) (hown : w.ownsRow base 3 1 v l.length (ints l)) (hs : l.length ≤ 1000) (hbase : base ≤ w.heap.size) :
    Calls Tryz.prog 49 #[v] w fun e w1 => e = .returned (.tuple #[]) ∧ Below base w w1 ∧ Reads w1 v l.length 1 (ints (sortL l)) := by
  rcases hown.2 with ⟨rfl, hn⟩ | ⟨g, cap, cur, rfl, hbg, hg, hnc, hcm, hcs, htk⟩
  · obtain rfl : l = [] := List.eq_nil_of_length_eq_zero hn
    refine (Tryz.slices_Sort_int_none none 0 w).mono ?_
    rintro e w1 ⟨rfl, rfl⟩
    refine ⟨rfl, Below.refl _ _, ?_⟩
    have e0 : sortL [] = [] := by simp [sortL]
    rw [e0]
    exact Reads.nil _ _
  · have hgl := (Array.getElem?_eq_some_iff.1 hg).1
    have hlen : (sortL l).length = l.length := List.length_mergeSort _
    refine (Tryz.slices_Sort_int g 0 cap l w (Go.holds_of_blockI hg (by rw [Nat.mul_one] at htk; exact htk)) hgl (by omega)).mono ?_
    rintro e w1 ⟨rfl, n, os, hw1⟩
    have hown1 : w1.ownsRow base 3 1 (.slice (some ⟨g, 0, none⟩) l.length cap) l.length (ints (sortL l)) := by
      rw [hw1]; exact Go.ownsRow_sortedI hlen hbg hg hnc hcm hcs
    have hgr1 : w.grownBy w1 (some g) := by rw [hw1]; exact Go.grownBy_sortedI _
    exact ⟨rfl, (Below.refl _ _).grown hgr1 hbase (fun k hk => by cases hk; exact hbg), reads_of_owns hown1⟩

theorem sort_upto (i n : Nat) : sortL (upto i n) = upto i n := by
  unfold sortL
  refine List.mergeSort_of_pairwise ?_
  unfold upto
  rw [List.pairwise_map]
  exact (List.pairwise_lt_range (n := n)).imp (fun h => by simp; omega)

theorem upto_get (i : Nat) {n k : Nat} (h : k < n) : (upto i n)[k]? = some ((i + k + 1 : Nat) : Int) := by
  unfold upto
  rw [List.getElem?_map, List.getElem?_range h]; rfl

set_option maxRecDepth 100000 in
set_option maxHeartbeats 2000000 in
theorem gap_any (i n : Nat) (v : Value) (w : World) (h : Reads w v n 1 (ints (upto i n))) (hn : n ≤ 1000) (hi : i ≤ 1000000000) :
    Calls Tryz.prog 16 #[v] w fun e w' => e = .returned (.int .i64 0) ∧ Below w.heap.size w w' := by
  obtain ⟨-, ao, c, rfl, -⟩ := id h
  have HCL := Lib.hid (iclone_any ao c (upto i n) w (by rw [upto_length]; exact h) (by rw [upto_length]; omega))
  rw [upto_length] at HCL
  clear h
  go_enter Tryz.func16, Tryz.ntmps16
  go_wp2_with fail
  refine HCL.out.mono ?_
  rintro e w1 ⟨v1, rfl, hown1, hb1⟩
  have HSO := Lib.hid (isort_any v1 (upto i n) w1 w.heap.size (by rw [upto_length]; exact hown1) (by rw [upto_length]; omega) hb1.size)
  rw [sort_upto, upto_length] at HSO
  have HB1 := Lib.hid hb1
  obtain ⟨a1, c1, hv1⟩ : ∃ a c, v1 = .slice a n c := by
    obtain ⟨-, a, c, hv, -⟩ := reads_of_owns hown1
    exact ⟨a, c, hv⟩
  subst hv1
  clear hown1 hb1 HCL
  go_wp2_with fail
  refine HSO.out.mono ?_
  rintro e w2 ⟨rfl, hb2, hr2⟩
  have HB2 := Lib.hid (HB1.out.trans hb2)
  have HR2 := Lib.hid hr2
  clear hb2 hr2 HSO HB1
  obtain ⟨m, hm⟩ : ∃ m : Nat, m = n - 1 := ⟨_, rfl⟩
  have hmx : max ((n : Int) - 1) 0 = (m : Int) := by omega
  go_wp2_with fail
  go_loopw [3, 4, 13] (fun _ _ i w' => ∃ k : Nat, k ≤ m ∧ i = .int .i64 k ∧ w' = w2) (fun _ _ i _ => m - (RowKit.intOf i).toNat)
  case atStart => exact ⟨0, by omega, rfl, rfl⟩
  case round =>
    obtain ⟨k, hk, rfl, rfl⟩ := hrel
    by_cases hlt : k < m
    · obtain ⟨b, o, c', hv, hle, hb, hc⟩ := HR2.out.at (by omega)
      obtain ⟨rfl, rfl⟩ : a1 = some ⟨b, o, none⟩ ∧ c1 = c' := by cases hv; exact ⟨rfl, rfl⟩
      have hc1 : wr.cell? ⟨b, o + k, none⟩ = some (.int .i64 ((i + k + 1 : Nat) : Int)) := hc k _ (by show (ints (upto i n))[k]? = _; unfold ints; rw [List.getElem?_map, upto_get i (by omega)]; rfl)
      have hc2 : wr.cell? ⟨b, o + (k + 1), none⟩ = some (.int .i64 ((i + (k + 1) + 1 : Nat) : Int)) := hc (k + 1) _ (by show (ints (upto i n))[k + 1]? = _; unfold ints; rw [List.getElem?_map, upto_get i (by omega)]; rfl)
      clear hc hv
      have e1 : (((i + k + 1 : Nat) : Int) + 1 : Int) = ((i + (k + 1) + 1 : Nat) : Int) := by omega
      rw [← e1] at hc2
      have hn1 : ((i + k + 1 : Nat) : Int) ≤ 2000000000 := by omega
      have hn0 : (0 : Int) ≤ ((i + k + 1 : Nat) : Int) := by omega
      have hk1 : (k : Int) + 1 < (n : Int) := by omega
      have hk2 : (k : Int) < (n : Int) := by omega
      have hn3 : k + 1 < n := by omega
      generalize ((i + k + 1 : Nat) : Int) = nn at *
      clear hmx hm e1
      go_wp2
      go_roundw
      case rel => exact ⟨k + 1, by omega, by go_num, trivial⟩
      case measure => simp [RowKit.intOf]; omega
    · obtain rfl : k = m := by omega
      go_wp2
      go_ret
      exact ⟨rfl, HB2.out⟩
end Go.Proofs.YtnmlbjgnemmigaaGreatDoor
