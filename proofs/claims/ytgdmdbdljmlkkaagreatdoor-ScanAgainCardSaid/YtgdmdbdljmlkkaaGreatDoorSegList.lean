/- segment.List: the numbers of the names, sorted, each once; and whether a list is sorted; and whether two are equal. -/
import Derived.Test.YtgdmdbdljmlkkaaGreatDoorChecked
import Derived.Test.YtgdmdbdljmlkkaaGreatDoorBase
import Derived.Test.YtgdmdbdljmlkkaaGreatDoorShelf
import Derived.Test.YtgdmdbdljmlkkaaGreatDoorSegListRef
import Derived.Sort.OwnSortedInts
namespace Go.Proofs.YtgdmdbdljmlkkaaGreatDoor
set_option linter.unusedVariables false
set_option linter.unusedSimpArgs false
open Go.RowKit Go.Lib

theorem grow_none (w : World) : Sort.grow w #[] = w := by
  unfold Sort.grow; simp

/-- Sorting and dropping what is twice, on a row of the call's own. -/
theorem sort_compact (v : Value) (l : List Int) (w : World) (base : Nat) (hown : w.ownsRow base 3 1 v l.length (ints l)) (hs : l.length ≤ 1000) (hbase : base ≤ w.heap.size) :
    Calls Tryz.prog 114 #[v] w fun e w1 => e = .returned (.tuple #[]) ∧ Below base w w1 ∧
      Calls Tryz.prog 115 #[v] w1 fun e w2 => ∃ v', e = .returned v' ∧ Reads w2 v' (compact (sortL l)).length 1 (ints (compact (sortL l))) ∧ Below base w1 w2 := by
  rcases hown.2 with ⟨rfl, hn⟩ | ⟨g, cap, cur, rfl, hbg, hg, hnc, hcm, hcs, htk⟩
  · obtain rfl : l = [] := List.eq_nil_of_length_eq_zero hn
    refine (Tryz.slices_Sort_int_none none 0 w).mono ?_
    rintro e w1 ⟨rfl, rfl⟩
    refine ⟨rfl, Below.refl _ _, ?_⟩
    refine (Tryz.slices_Compact_int_empty none 0 _).mono ?_
    rintro e w2 ⟨rfl, rfl⟩
    have e0 : compact (sortL []) = [] := by simp [sortL, compact, compactUpTo]
    rw [e0]
    exact ⟨_, rfl, Reads.nil _ _, Below.refl _ _⟩
  · have hgl := (Array.getElem?_eq_some_iff.1 hg).1
    have hlen : (sortL l).length = l.length := List.length_mergeSort _
    refine (Tryz.slices_Sort_int g 0 cap l w (Go.holds_of_blockI hg (by rw [Nat.mul_one] at htk; exact htk)) hgl (by omega)).mono ?_
    rintro e w1 ⟨rfl, n, os, hw1⟩
    have hown1 : w1.ownsRow base 3 1 (.slice (some ⟨g, 0, none⟩) l.length cap) l.length (ints (sortL l)) := by
      rw [hw1]; exact Go.ownsRow_sortedI hlen hbg hg hnc hcm hcs
    have hgr1 : w.grownBy w1 (some g) := by rw [hw1]; exact Go.grownBy_sortedI _
    clear hw1
    refine ⟨rfl, (Below.refl _ _).grown hgr1 hbase (fun k hk => by cases hk; exact hbg), ?_⟩
    have h1 := hgr1.size
    rcases hown1.2 with ⟨h, _⟩ | ⟨g1, cap1, cur1, hv1, hbg1, hg1, hnc1, hcm1, hcs1, htk1⟩
    · cases h
    · cases hv1
      have hgl1 := (Array.getElem?_eq_some_iff.1 hg1).1
      rw [← hlen]
      refine (Tryz.slices_Compact_int g 0 cap (sortL l) w1 (Go.holds_of_blockI hg1 (by rw [Nat.mul_one, ← hlen] at htk1; exact htk1)) (by omega) (by omega)).mono ?_
      rintro e w2 ⟨rfl, q, hw2⟩
      have hcl : (compact (sortL l)).length ≤ (sortL l).length := by
        unfold compact compactUpTo
        rw [List.length_map]
        have := List.length_filter_le (keeps (sortL l).toArray) (List.range (sortL l).length)
        simpa using this
      have hown2 : w2.ownsRow base 3 1 (.slice (some ⟨g, 0, none⟩) (sortL l).length cap) (sortL l).length (ints (compact (sortL l) ++ List.replicate ((sortL l).length - (compact (sortL l)).length) 0)) := by
        rw [hw2, ← grow_none (Sort.putRow _ _ _ _ _)]
        exact Go.ownsRow_sortedI (by simp; omega) hbg1 hg1 (by omega) hcm1 hcs1
      have hgr2 : w1.grownBy w2 (some g) := by
        rw [hw2, ← grow_none (Sort.putRow _ _ _ _ _)]; exact Go.grownBy_sortedI _
      refine ⟨_, rfl, ?_, (Below.refl _ _).grown hgr2 (by omega) (fun k hk => by cases hk; exact hbg)⟩
      · have := (reads_of_owns hown2).take (compact (sortL l)).length hcl
        rw [← ints_take] at this
        simpa using this

set_option maxRecDepth 100000 in
set_option maxHeartbeats 2000000 in
theorem seglist_any (v : Value) (ss : List ByteArray) (w : World) (hr : Reads w v ss.length 1 (strsV ss)) (hs : ss.length ≤ 1000) :
    Calls Tryz.prog 55 #[v] w fun e w' => ∃ v', e = .returned v' ∧ Reads w' v' (refL ss).length 1 (ints (refL ss)) ∧ Below w.heap.size w w' := by
  have Hr := Lib.hid hr
  obtain ⟨-, ao, c, rfl, -, -, -⟩ := hr
  go_enter Tryz.func55, Tryz.ntmps55
  go_wp2
  go_loopw [3, 10] (fun out i w' => ∃ k : Nat, k ≤ ss.length ∧ i = .int .i64 k ∧ w'.ownsRow w.heap.size 3 1 out (numsL (ss.take k)).length (ints (numsL (ss.take k))) ∧ Below w.heap.size w w') (fun _ i _ => ss.length - (RowKit.intOf i).toNat)
  case atStart => exact ⟨0, by omega, rfl, World.ownsRow_nil _ _ _ _, Below.refl _ _⟩
  case round =>
    obtain ⟨k, hk, rfl, hown, hbel⟩ := hrel
    by_cases hlt : k < ss.length
    · obtain ⟨b, o, c', hv, hnc, -, hc⟩ := (Hr.out.later hbel).at (by omega)
      cases hv
      have hcell : wr.cell? ⟨b, o + k, none⟩ = some (.string (ss[k])) := hc k _ (by simp [hlt])
      have hsn := numsL_snoc (ss.take k) ss[k]
      rw [← take_snoc ss k hlt] at hsn
      have HS := Lib.hid hsn
      have hlen := numsL_length (ss.take k)
      have hlt60 : (ss.take k).length ≤ k := by rw [List.length_take]; omega
      clear hsn hc
      generalize ss[k] = s at *
      obtain ⟨l', hl'⟩ : ∃ l', l' = numsL (ss.take (k + 1)) := ⟨_, rfl⟩
      rw [← hl'] at HS
      have HL' := Lib.hid hl'
      clear hl'
      generalize numsL (ss.take k) = l at *
      have hl60 : l.length ≤ 1000 := by omega
      have HOWN := Lib.hid hown
      have HB := Lib.hid hbel
      clear hlt60 hlen hown hbel
      have hnum := number_any s
      unfold numOut at hnum
      have hnv := numV_le s.data.toList
      generalize numV s.data.toList = n at *
      have HNUM := Lib.hid hnum
      clear hnum
      by_cases h0 : 0 < n
      · rw [decide_eq_true h0] at HNUM
        have HS' : Hid (l' = l ++ [(n : Int)]) := by rw [Hid, HS.out, if_pos h0]
        clear HS
        go_wp2_with fail
        refine (HNUM.out _).mono ?_
        rintro e w1 ⟨rfl, hb1⟩
        have hsz := hb1.size
        have HB1 := Lib.hid (HB.out.trans (hb1.mono HB.out.size))
        have HOWN1 := Lib.hid (HOWN.out.kept (row := none) ⟨hb1.os, hb1.tape, hb1.output, hb1.size, fun k hk _ => hb1.block k hk⟩ (by cases h : u3.ownBlock <;> simp))
        have hbs : w.heap.size ≤ w1.heap.size := HB1.out.size
        clear hb1
        go_wp2_with (at_builtin; refine wpList_app elemInt rfl rfl (v := u3) (n := l.length) (xs := ints l) rfl (base := w.heap.size) (HOWN1.out.alloc _) (y := .slice (some ⟨_, 0, none⟩) 1 1) (m := 1) (news := [.int .i64 n]) rfl (reads_cell (by simp)) (one_of rfl) (by unfold maxLen; omega) (by omega) (by simp; omega) ?_; intro v2 w2 hown2 hgr2 _)
        have HFIN : Hid (w2.ownsRow w.heap.size 3 1 v2 l'.length (ints l')) := by
          rw [Hid, HS'.out]; simpa using hown2
        have HB2 := Lib.hid ((HB1.out.alloc hbs _).grown hgr2 (by simp; omega) (fun k hk => (HOWN1.out.lt k hk).1))
        clear hown2 hgr2
        go_wp2
        go_roundw
        case rel => exact ⟨k + 1, by omega, by go_num, by rw [← HL'.out]; exact HFIN.out, HB2.out⟩
        case measure => simp [RowKit.intOf]; omega
      · have hn0 : n = 0 := by omega
        subst hn0
        have HS' : Hid (l' = l) := by rw [Hid, HS.out, if_neg h0, List.append_nil]
        rw [show decide (0 < 0) = false from rfl] at HNUM
        clear HS h0
        go_wp2_with fail
        refine (HNUM.out _).mono ?_
        rintro e w1 ⟨rfl, hb1⟩
        have HB1 := Lib.hid (HB.out.trans (hb1.mono HB.out.size))
        have HOWN1 := Lib.hid (HOWN.out.kept (row := none) ⟨hb1.os, hb1.tape, hb1.output, hb1.size, fun k hk _ => hb1.block k hk⟩ (by cases h : u3.ownBlock <;> simp))
        clear hb1
        go_wp2
        go_roundw
        case rel => exact ⟨k + 1, by omega, by go_num, by rw [← HL'.out, HS'.out]; exact HOWN1.out, HB1.out⟩
        case measure => simp [RowKit.intOf]; omega
    · obtain rfl : k = ss.length := by omega
      rw [List.take_length] at hown
      have hn := numsL_length ss
      have HSC := Lib.hid (sort_compact u3 (numsL ss) wr w.heap.size hown (by omega) hbel.size)
      have HB := Lib.hid hbel
      have HLE := Lib.hid (list_eq ss)
      clear hown hbel hn
      go_wp2_with fail
      refine HSC.out.mono ?_
      rintro e w1 ⟨rfl, hb1, hcall⟩
      have HC := Lib.hid hcall
      have HB1 := Lib.hid (HB.out.trans hb1)
      clear hcall hb1
      go_wp2_with fail
      refine HC.out.mono ?_
      rintro e w2 ⟨v', rfl, hr2, hb2⟩
      rw [HLE.out] at hr2
      have HR2 := Lib.hid hr2
      have HB2 := Lib.hid (HB1.out.trans hb2)
      clear hr2 hb2
      go_wp2
      go_ret
      exact ⟨_, rfl, HR2.out, HB2.out⟩
end Go.Proofs.YtgdmdbdljmlkkaaGreatDoor
