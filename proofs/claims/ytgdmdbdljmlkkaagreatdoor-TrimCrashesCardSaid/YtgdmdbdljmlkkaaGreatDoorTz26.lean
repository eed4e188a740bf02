/- Scan3 -/
import Derived.Test.YtgdmdbdljmlkkaaGreatDoorTz25
import Derived.Sort.OwnSortedInts
import Derived.WalkMore
set_option maxRecDepth 100000
set_option linter.unusedVariables false
set_option linter.unusedSimpArgs false
namespace Go.Proofs.YtgdmdbdljmlkkaaGreatDoor
open Go.RowKit Go.Lib
theorem sort_compact2 (v : Value) (l : List Int) (w : World) (base : Nat) (hown : w.ownsRow base 3 1 v l.length (ints l)) (hs : l.length ≤ 1000) (hbase : base ≤ w.heap.size) :
   Calls Tryz.prog 114 #[v] w fun e w1 => e = .returned (.tuple #[]) ∧ Below base w w1 ∧
     Calls Tryz.prog 115 #[v] w1 fun e w2 => ∃ v', e = .returned v' ∧ Reads w2 v' (compact (sortL l)).length 1 (ints (compact (sortL l))) ∧ (∀ a n c, v' = .slice (some a) n c → base ≤ a.block) ∧ Below base w1 w2 := by
 rcases hown.2 with ⟨rfl, hn⟩ | ⟨g, cap, cur, rfl, hbg, hg, hnc, hcm, hcs, htk⟩
 · obtain rfl : l = [] := List.eq_nil_of_length_eq_zero hn
   refine (Tryz.slices_Sort_int_none none 0 w).mono ?_
   rintro e w1 ⟨rfl, rfl⟩
   refine ⟨rfl, Below.refl _ _, ?_⟩
   refine (Tryz.slices_Compact_int_empty none 0 _).mono ?_
   rintro e w2 ⟨rfl, rfl⟩
   have e0 : compact (sortL []) = [] := by simp [sortL, compact, compactUpTo]
   rw [e0]
   exact ⟨_, rfl, Reads.nil _ _, (by intro a n c h; cases h), Below.refl _ _⟩
 · have hgl := (Array.getElem?_eq_some_iff.1 hg).1
   have hlen : (sortL l).length = l.length := List.length_mergeSort _
   refine (Tryz.slices_Sort_int g 0 cap l w (Go.holds_of_blockI hg (by rw [Nat.mul_one] at htk; exact htk)) hgl (by omega)).mono ?_
   rintro e w1 ⟨rfl, n, os, hw1⟩
   have hown1 : w1.ownsRow base 3 1 (.slice (some ⟨g, 0, none⟩) l.length cap) l.length (ints (sortL l)) := by
     rw [hw1]; exact Go.ownsRow_sortedI hlen hbg hg hnc hcm hcs
   have hgr1 : w.grownBy w1 (some g) := by rw [hw1]; exact Go.grownBy_sortedI _
   clear hw1
   refine ⟨rfl, (Below.refl _ _).grown hgr1 hbase (fun k hk => by cases hk; exact hbg), ?_⟩
   have h1 := hgr1.size
   rcases hown1.2 with ⟨h, _⟩ | ⟨g1, cap1, cur1, hv1, hbg1, hg1, hnc1, hcm1, hcs1, htk1⟩
   · cases h
   · cases hv1
     have hgl1 := (Array.getElem?_eq_some_iff.1 hg1).1
     rw [← hlen]
     refine (Tryz.slices_Compact_int g 0 cap (sortL l) w1 (Go.holds_of_blockI hg1 (by rw [Nat.mul_one, ← hlen] at htk1; exact htk1)) (by omega) (by omega)).mono ?_
     rintro e w2 ⟨rfl, q, hw2⟩
     have hcl : (compact (sortL l)).length ≤ (sortL l).length := by
       unfold compact compactUpTo
       rw [List.length_map]
       have := List.length_filter_le (keeps (sortL l).toArray) (List.range (sortL l).length)
       simpa using this
     have hown2 : w2.ownsRow base 3 1 (.slice (some ⟨g, 0, none⟩) (sortL l).length cap) (sortL l).length (ints (compact (sortL l) ++ List.replicate ((sortL l).length - (compact (sortL l)).length) 0)) := by
       rw [hw2, ← grow_none (Sort.putRow _ _ _ _ _)]
       exact Go.ownsRow_sortedI (by simp; omega) hbg1 hg1 (by omega) hcm1 hcs1
     have hgr2 : w1.grownBy w2 (some g) := by
       rw [hw2, ← grow_none (Sort.putRow _ _ _ _ _)]; exact Go.grownBy_sortedI _
     refine ⟨_, rfl, ?_, (by intro a n c h; cases h; exact hbg), (Below.refl _ _).grown hgr2 (by omega) (fun k hk => by cases hk; exact hbg)⟩
     · have := (reads_of_owns hown2).take (compact (sortL l)).length hcl
       rw [← ints_take] at this
       simpa using this
set_option maxHeartbeats 2000000 in
theorem seglist2_any (v : Value) (ss : List ByteArray) (w : World) (hr : Reads w v ss.length 1 (strsV ss)) (hs : ss.length ≤ 1000) :
   Calls Tryz.prog 55 #[v] w fun e w' => ∃ v', e = .returned v' ∧ Reads w' v' (refL ss).length 1 (ints (refL ss)) ∧ (∀ a n c, v' = .slice (some a) n c → w.heap.size ≤ a.block) ∧ Below w.heap.size w w' := by
 have Hr := Lib.hid hr
 obtain ⟨-, ao, c, rfl, -, -, -⟩ := hr
 go_enter Tryz.func55, Tryz.ntmps55
 go_wp2
 go_loopw [3, 10] (fun out i w' => ∃ k : Nat, k ≤ ss.length ∧ i = .int .i64 k ∧ w'.ownsRow w.heap.size 3 1 out (numsL (ss.take k)).length (ints (numsL (ss.take k))) ∧ Below w.heap.size w w') (fun _ i _ => ss.length - (RowKit.intOf i).toNat)
 case atStart => exact ⟨0, by omega, rfl, World.ownsRow_nil _ _ _ _, Below.refl _ _⟩
 case round =>
   obtain ⟨k, hk, rfl, hown, hbel⟩ := hrel
   by_cases hlt : k < ss.length
   · obtain ⟨b, o, c', hv, hnc, -, hc⟩ := (Hr.out.later hbel).at (by omega)
     cases hv
     have hcell : wr.cell? ⟨b, o + k, none⟩ = some (.string (ss[k])) := hc k _ (by simp [hlt])
     have hsn := numsL_snoc (ss.take k) ss[k]
     rw [← take_snoc ss k hlt] at hsn
     have HS := Lib.hid hsn
     have hlen := numsL_length (ss.take k)
     have hlt60 : (ss.take k).length ≤ k := by rw [List.length_take]; omega
     clear hsn hc
     generalize ss[k] = s at *
     obtain ⟨l', hl'⟩ : ∃ l', l' = numsL (ss.take (k + 1)) := ⟨_, rfl⟩
     rw [← hl'] at HS
     have HL' := Lib.hid hl'
     clear hl'
     generalize numsL (ss.take k) = l at *
     have hl60 : l.length ≤ 1000 := by omega
     have HOWN := Lib.hid hown
     have HB := Lib.hid hbel
     clear hlt60 hlen hown hbel
     have hnum := number_any s
     unfold numOut at hnum
     have hnv := numV_le s.data.toList
     generalize numV s.data.toList = n at *
     have HNUM := Lib.hid hnum
     clear hnum
     by_cases h0 : 0 < n
     · rw [decide_eq_true h0] at HNUM
       have HS' : Hid (l' = l ++ [(n : Int)]) := by rw [Hid, HS.out, if_pos h0]
       clear HS
       go_wp2_with fail
       refine (HNUM.out _).mono ?_
       rintro e w1 ⟨rfl, hb1⟩
       have hsz := hb1.size
       have HB1 := Lib.hid (HB.out.trans (hb1.mono HB.out.size))
       have HOWN1 := Lib.hid (HOWN.out.kept (row := none) ⟨hb1.os, hb1.tape, hb1.output, hb1.size, fun k hk _ => hb1.block k hk⟩ (by cases h : u3.ownBlock <;> simp))
       have hbs : w.heap.size ≤ w1.heap.size := HB1.out.size
       clear hb1
       go_wp2_with (at_builtin; refine wpList_app elemInt rfl rfl (v := u3) (n := l.length) (xs := ints l) rfl (base := w.heap.size) (HOWN1.out.alloc _) (y := .slice (some ⟨_, 0, none⟩) 1 1) (m := 1) (news := [.int .i64 n]) rfl (reads_cell (by simp)) (one_of rfl) (by unfold maxLen; omega) (by omega) (by simp; omega) ?_; intro v2 w2 hown2 hgr2 _)
       have HFIN : Hid (w2.ownsRow w.heap.size 3 1 v2 l'.length (ints l')) := by
         rw [Hid, HS'.out]; simpa using hown2
       have HB2 := Lib.hid ((HB1.out.alloc hbs _).grown hgr2 (by simp; omega) (fun k hk => (HOWN1.out.lt k hk).1))
       clear hown2 hgr2
       go_wp2
       go_roundw
       case rel => exact ⟨k + 1, by omega, by go_num, by rw [← HL'.out]; exact HFIN.out, HB2.out⟩
       case measure => simp [RowKit.intOf]; omega
     · have hn0 : n = 0 := by omega
       subst hn0
       have HS' : Hid (l' = l) := by rw [Hid, HS.out, if_neg h0, List.append_nil]
       rw [show decide (0 < 0) = false from rfl] at HNUM
       clear HS h0
       go_wp2_with fail
       refine (HNUM.out _).mono ?_
       rintro e w1 ⟨rfl, hb1⟩
       have HB1 := Lib.hid (HB.out.trans (hb1.mono HB.out.size))
       have HOWN1 := Lib.hid (HOWN.out.kept (row := none) ⟨hb1.os, hb1.tape, hb1.output, hb1.size, fun k hk _ => hb1.block k hk⟩ (by cases h : u3.ownBlock <;> simp))
       clear hb1
       go_wp2
       go_roundw
       case rel => exact ⟨k + 1, by omega, by go_num, by rw [← HL'.out, HS'.out]; exact HOWN1.out, HB1.out⟩
       case measure => simp [RowKit.intOf]; omega
   · obtain rfl : k = ss.length := by omega
     rw [List.take_length] at hown
     have hn := numsL_length ss
     have HSC := Lib.hid (sort_compact2 u3 (numsL ss) wr w.heap.size hown (by omega) hbel.size)
     have HB := Lib.hid hbel
     have HLE := Lib.hid (list_eq ss)
     clear hown hbel hn
     go_wp2_with fail
     refine HSC.out.mono ?_
     rintro e w1 ⟨rfl, hb1, hcall⟩
     have HC := Lib.hid hcall
     have HB1 := Lib.hid (HB.out.trans hb1)
     clear hcall hb1
     go_wp2_with fail
     refine HC.out.mono ?_
     rintro e w2 ⟨v', rfl, hr2, hbl, hb2⟩
     rw [HLE.out] at hr2
     have HR2 := Lib.hid hr2
     have HB2 := Lib.hid (HB1.out.trans hb2)
     have HBL := Lib.hid hbl
     clear hr2 hb2 hbl
     go_wp2
     go_ret
     exact ⟨_, rfl, HR2.out, HBL.out, HB2.out⟩
theorem sort_inc {l : List Int} (h : Inc l) : sortL l = l := by
 unfold sortL
 exact List.mergeSort_of_pairwise (h.imp (fun h => by simp; omega))
set_option maxHeartbeats 2000000 in
theorem gap_gen (l : List Int) (v : Value) (w : World) (h : Reads w v l.length 1 (ints l)) (hi : Inc l) (hn : l.length ≤ 1000) (hp : ∀ x ∈ l, 1 ≤ x ∧ x ≤ 99999999) :
   Calls Tryz.prog 129 #[v] w fun e w' => ∃ r : Int, e = .returned (.int .i64 r) ∧ (decide (r = 0)) = chainUp l l.length ∧ Below w.heap.size w w' := by
 obtain ⟨-, ao, c, rfl, -⟩ := id h
 have HCL := Lib.hid (iclone_any ao c l w h (by omega))
 have HP := Lib.hid hp
 have HI := Lib.hid hi
 have HSI := Lib.hid (sort_inc hi)
 clear h hp hi
 go_enter Tryz.func129, Tryz.ntmps129
 go_wp2_with fail
 refine HCL.out.mono ?_
 rintro e w1 ⟨v1, rfl, hown1, hb1⟩
 have HSO := Lib.hid (isort_any v1 l w1 w.heap.size hown1 (by omega) hb1.size)
 rw [HSI.out] at HSO
 have HB1 := Lib.hid hb1
 obtain ⟨a1, c1, hv1⟩ : ∃ a c, v1 = .slice a l.length c := by
   obtain ⟨-, a, c, hv, -⟩ := reads_of_owns hown1
   exact ⟨a, c, hv⟩
 subst hv1
 clear hown1 hb1 HCL
 go_wp2_with fail
 refine HSO.out.mono ?_
 rintro e w2 ⟨rfl, hb2, hr2⟩
 have HB2 := Lib.hid (HB1.out.trans hb2)
 have HR2 := Lib.hid hr2
 clear hb2 hr2 HSO HB1
 obtain ⟨m, hm⟩ : ∃ m : Nat, m = l.length - 1 := ⟨_, rfl⟩
 have hmx : max ((l.length : Int) - 1) 0 = (m : Int) := by omega
 go_wp2_with fail
 go_loopw [3, 4, 13] (fun _ _ i w' => ∃ k : Nat, k ≤ m ∧ i = .int .i64 k ∧ Hid (chainUp l (k + 1) = true) ∧ w' = w2) (fun _ _ i _ => m - (RowKit.intOf i).toNat)
 case atStart => exact ⟨0, by omega, rfl, by rw [Hid, chainUp_succ]; rfl, rfl⟩
 case round =>
   obtain ⟨k, hk, rfl, HC, rfl⟩ := hrel
   by_cases hlt : k < m
   · obtain ⟨b, o, c', hv, hle, hb, hc⟩ := HR2.out.at (by omega)
     obtain ⟨rfl, rfl⟩ : a1 = some ⟨b, o, none⟩ ∧ c1 = c' := by cases hv; exact ⟨rfl, rfl⟩
     have hk1 : k < l.length := by omega
     have hk2 : k + 1 < l.length := by omega
     have hc1 : wr.cell? ⟨b, o + k, none⟩ = some (.int .i64 l[k]) := hc k _ (by simp [ints, hk1])
     have hc2 : wr.cell? ⟨b, o + (k + 1), none⟩ = some (.int .i64 l[k + 1]) := hc (k + 1) _ (by simp [ints, hk2])
     have hlt2 : l[k] < l[k + 1] := List.pairwise_iff_getElem.1 HI.out _ _ _ _ (by omega)
     have hb1 := HP.out l[k] (List.getElem_mem hk1)
     have hb2 := HP.out l[k + 1] (List.getElem_mem hk2)
     have HCS : Hid (chainUp l (k + 1 + 1) = (chainUp l (k + 1) && decide (l[k] + 1 = l[k + 1]))) := by
       rw [Hid, chainUp_succ]
       congr 1
       unfold chainAt
       rw [List.getD_eq_getElem?_getD, List.getD_eq_getElem?_getD, List.getElem?_eq_getElem hk2, Nat.add_sub_cancel, List.getElem?_eq_getElem hk1]
       simp
     have hn1 : (k : Int) + 1 < (l.length : Int) := by omega
     have hn2 : (k : Int) < (l.length : Int) := by omega
     generalize l[k] = x at *
     generalize l[k + 1] = y at *
     clear hmx hm hc hv
     by_cases hg : x + 1 < y
     · have hne : ¬ x + 1 = y := by omega
       have HF0 : chainUp l (k + 1 + 1) = false := by rw [HCS.out, decide_eq_false hne, Bool.and_false]
       have HF : Hid (chainUp l l.length = false) := chainUp_false HF0 (by omega)
       go_wp2
       go_ret
       exact ⟨_, rfl, by rw [HF.out]; exact decide_eq_false (by omega), HB2.out⟩
     · have HC2 : Hid (chainUp l (k + 1 + 1) = true) := by rw [Hid, HCS.out, HC.out]; simp; omega
       go_wp2
       go_roundw
       case rel => exact ⟨k + 1, by omega, by go_num, HC2, trivial⟩
       case measure => simp [RowKit.intOf]; omega
   · obtain rfl : k = m := by omega
     have HF : Hid (chainUp l l.length = true) := by
       rcases Nat.eq_zero_or_pos l.length with h0 | h0
       · rw [Hid, h0]; rfl
       · rw [Hid, show l.length = k + 1 by omega]; exact HC.out
     go_wp2
     go_ret
     exact ⟨_, rfl, by rw [HF.out]; rfl, HB2.out⟩
end Go.Proofs.YtgdmdbdljmlkkaaGreatDoor
namespace Go.Proofs.YtgdmdbdljmlkkaaGreatDoor
open Go.RowKit
set_option maxHeartbeats 1000000 in
theorem scbytes_any (x : Value) (D : DS) (S : Nat → Prop) (n : Int) (w : World) (h : DRep w x D S) (ht : Tab w) (hs : sumD D.files ≤ 100000) :
   Calls Tryz.prog 130 #[x, .int .i64 n] w fun e w' => ∃ a c, e = .returned (.slice a (contD D n).length c) ∧ Row w' 5 1 (.slice a (contD D n).length c) (contD D n).length (byts (contD D n)) (fun k => w.heap.size ≤ k) ∧ Below w.heap.size w w' := by
 have HD := Lib.hid h.tight
 have HT := Lib.hid ht
 obtain ⟨bx, bm, col, pv, rfl, -⟩ := h
 unfold contD
 have HRD : Hid (∀ w', Below w.heap.size w w' → Calls Tryz.prog 57 #[.pointer (some ⟨bx, 0, none⟩), .string (nameI n)] w' fun e w2 => ∃ v, e = .returned (.tuple #[v, .int .i64 (readD D (nameI n)).2]) ∧ Row w2 5 1 v (readD D (nameI n)).1.length (byts (readD D (nameI n)).1) (fun k => w'.heap.size ≤ k) ∧ Below w'.heap.size w' w2) := fun w' hb => read_any _ (nameI n) D _ w' (HD.out.frame (fun k hk _ => hb.block k hk.2)) (by omega)
 generalize (readD D (nameI n)).2 = cd at *
 generalize (readD D (nameI n)).1 = l at *
 clear ht
 go_enter Tryz.func130, Tryz.ntmps130
 go_wp2_with fail
 refine (segName_any n w HT.out).mono ?_
 rintro e w3 ⟨rfl, hb3⟩
 have HB3 := Lib.hid hb3
 clear hb3
 go_wp2_with fail
 refine (HRD.out w3 HB3.out).mono ?_
 rintro e w4 ⟨v4, rfl, hr4, hb4⟩
 have HB4 := Lib.hid (HB3.out.trans (hb4.mono HB3.out.size))
 have hs3 := HB3.out.size
 obtain ⟨-, a4, c4, hv4, -⟩ := id hr4.reads
 subst hv4
 have HR4 : Hid (Row w4 5 1 (.slice a4 l.length c4) l.length (byts l) (fun k => w.heap.size ≤ k)) := hr4.mono (fun k hk => by omega)
 clear hb4 hr4 HB3 HRD
 go_wp2
 go_ret
 exact ⟨a4, c4, rfl, HR4.out, HB4.out⟩
theorem contD_len (D : DS) (n : Int) : (contD D n).length ≤ sumD D.files := readD_len D (nameI n)
theorem marked_none {b : List UInt8} (h : nextB b = none) : markedB b = false := by unfold markedB; rw [h]
theorem marked_some {b x : List UInt8} {n : Nat} (h : nextB b = some (x, n)) : markedB b = decide (x = []) := by unfold markedB; rw [h]
set_option maxHeartbeats 2000000 in
theorem first_any (x : Value) (D : DS) (S : Nat → Prop) (v : Value) (L : List Int) (w : World) (h : DRep w x D S) (ht : Tab w) (hs : sumD D.files ≤ 100000) (hr : Reads w v L.length 1 (ints L)) (hl : L.length ≤ 1000) (h0 : 0 < L.length) :
   Calls Tryz.prog 128 #[x, v] w fun e w' => e = .returned (.int .i64 (markK (contD D) L (L.length - 1))) ∧ Below w.heap.size w w' := by
 have HD := Lib.hid h.tight
 have HT := Lib.hid ht
 have HR := Lib.hid hr
 obtain ⟨bx, bm, col, pv, rfl, -⟩ := h
 obtain ⟨-, va, vc, rfl, -⟩ := hr
 clear ht
 obtain ⟨K, hK⟩ : ∃ K, K = markK (contD D) L (L.length - 1) := ⟨_, rfl⟩
 have HK := Lib.hid hK
 rw [← hK]
 clear hK
 go_enter Tryz.func128, Tryz.ntmps128
 go_wp2_with fail
 go_loopw [5] (fun i w' => ∃ k : Nat, k < L.length ∧ i = .int .i64 k ∧ Hid (K = markK (contD D) L k) ∧ Hid (Below w.heap.size w w')) (fun i _ => (RowKit.intOf i).toNat)
 case atStart => exact ⟨L.length - 1, by omega, by congr 1; omega, HK, Below.refl _ _⟩
 case round =>
   obtain ⟨k, hk, rfl, HM, HB⟩ := hrel
   by_cases hz : k = 0
   · subst hz
     have hK0 : K = 0 := HM.out
     subst hK0
     go_wp2
     go_ret
     exact ⟨rfl, HB.out⟩
   · obtain ⟨j, rfl⟩ : ∃ j, k = j + 1 := ⟨k - 1, by omega⟩
     obtain ⟨b, o, c', hv, hle, hb, hc⟩ := (HR.out.later HB.out).at (by omega)
     obtain ⟨rfl, rfl⟩ : va = some ⟨b, o, none⟩ ∧ vc = c' := by cases hv; exact ⟨rfl, rfl⟩
     have hck : wr.cell? ⟨b, o + (j + 1), none⟩ = some (.int .i64 L[j + 1]) := hc (j + 1) _ (by simp [ints, hk])
     have HMS : Hid (markK (contD D) L (j + 1) = if markedB (contD D L[j + 1]) then j + 1 else markK (contD D) L j) := by
       rw [Hid, markK, List.getD_eq_getElem?_getD, List.getElem?_eq_getElem hk]; rfl
     generalize L[j + 1] = n at *
     have hcl := contD_len D n
     have HCB := Lib.hid (scbytes_any (.pointer (some ⟨bx, 0, none⟩)) D _ n wr (HD.out.frame (fun k hk _ => HB.out.block k hk.2)) (tab_below HT.out HB.out) hs)
     generalize contD D n = l at *
     clear hv hc
     go_wp2_with fail
     refine HCB.out.mono ?_
     rintro e w3 ⟨a3, c3, rfl, hr3, hb3⟩
     have HB3 := Lib.hid (HB.out.trans (hb3.mono HB.out.size))
     have HNX := Lib.hid (next_any a3 c3 l w3 hr3.reads (by omega))
     clear hr3 hb3 HCB hck
     cases hn : nextB l with
     | none =>
       rw [hn] at HNX
       rw [marked_none hn] at HMS
       go_wp2_with fail
       refine HNX.out.mono ?_
       rintro e w4 ⟨rfl, hb4⟩
       have HB4 := Lib.hid (HB3.out.trans (hb4.mono HB3.out.size))
       have HM2 : Hid (K = markK (contD D) L j) := by rw [Hid, HM.out, HMS.out]; rfl
       clear hb4 HNX
       go_wp2
       go_roundw
       case rel => exact ⟨j, by omega, by go_num, HM2, HB4⟩
       case measure => simp [RowKit.intOf] <;> omega
     | some p =>
       obtain ⟨y, m⟩ := p
       have hp := nextB_pos hn
       rw [hn] at HNX
       rw [marked_some hn] at HMS
       go_wp2_with fail
       refine HNX.out.mono ?_
       rintro e w4 ⟨⟨a4, c4, rfl, -⟩, hb4⟩
       have HB4 := Lib.hid (HB3.out.trans (hb4.mono HB3.out.size))
       clear hb4 HNX
       by_cases hy : y = []
       · subst hy
         have hK0 : K = j + 1 := by rw [HM.out, HMS.out]; rfl
         subst hK0
         simp only [List.length_nil] at *
         go_wp2
         go_ret
         exact ⟨rfl, HB4.out⟩
       · have hyl := List.length_pos_iff.2 hy
         have HM2 : Hid (K = markK (contD D) L j) := by rw [Hid, HM.out, HMS.out, decide_eq_false hy]; rfl
         go_wp2
         go_roundw
         case rel => exact ⟨j, by omega, by go_num, HM2, HB4⟩
         case measure => simp [RowKit.intOf] <;> omega
def Found (base : Nat) (W : World) (b : Nat) (f : FR) : Prop :=
 ∃ oa oc ra rc fa fc, ∃ X : List RX,
   W.heap[b]? = some (.cells #[.slice oa f.older.length oc, .int .i64 f.last, .slice ra X.length rc, .slice fa f.front.length fc, .int .i64 f.torn] 133 (0, 0)) ∧
   Reads W (.slice oa f.older.length oc) f.older.length 1 (ints f.older) ∧ (∀ ad, oa = some ad → base ≤ ad.block ∧ ad.block < W.heap.size) ∧
   Row W 72 1 (.slice ra X.length rc) X.length (X.map RX.v) (fun k => base ≤ k ∧ k ≠ b) ∧ (∀ x ∈ X, RdX base x W) ∧ X.map RX.l = f.recs ∧
   Reads W (.slice fa f.front.length fc) f.front.length 1 (byts f.front) ∧ (∀ ad, fa = some ad → base ≤ ad.block ∧ ad.block < W.heap.size) ∧ base ≤ b
def FindP (w : World) (f : FR) : Ending → World → Prop := fun e w' =>
 Below w.heap.size w w' ∧ ((f.code ≠ 0 ∧ e = .returned (.tuple #[.pointer none, .int .i64 f.code])) ∨ (f.code = 0 ∧ ∃ b, e = .returned (.tuple #[.pointer (some ⟨b, 0, none⟩), .int .i64 0]) ∧ Found w.heap.size w' b f))
theorem lastN_get {L : List Int} {m : Nat} (hm : L.length = m + 1) : lastN L = L[m]'(by omega) := by
 unfold lastN
 have e : L.length - 1 = m := by omega
 rw [e, List.getD_eq_getElem?_getD, List.getElem?_eq_getElem (by omega)]
 rfl
theorem row_front {w : World} {base : Nat} {a : Option Addr} {n c : Nat} {l : List UInt8} (h : Row w 5 1 (.slice a n c) n (byts l) (fun k => base ≤ k)) (m : Nat) (hm : m ≤ n) :
   Reads w (.slice a m c) m 1 (byts (l.take m)) ∧ (∀ ad, a = some ad → base ≤ ad.block ∧ ad.block < w.heap.size) := by
 refine ⟨?_, fun ad had => ?_⟩
 · have := h.reads.takeN m hm
   rw [Nat.mul_one] at this
   unfold byts
   rw [List.map_take]
   exact this
 · rcases h.2 with h | ⟨g, off, cap, cur, hv, hg, hh, -⟩
   · cases h.1; cases had
   · cases hv; cases had; exact ⟨hg, lt_of_heap hh⟩
theorem found_blk {w : World} {b : Nat} {x0 x1 x2 x3 x4 : Value} {t : TypeId} {fr : Nat × Nat} (h : w.heap[b]? = some (.cells #[x0, x1, x2, x3, x4] t fr)) :
   w.cell? ⟨b, 0, none⟩ = some x0 ∧ w.cell? ⟨b, 1, none⟩ = some x1 ∧ w.cell? ⟨b, 2, none⟩ = some x2 ∧ w.cell? ⟨b, 3, none⟩ = some x3 ∧ w.cell? ⟨b, 4, none⟩ = some x4 :=
 ⟨cellAt h 0 rfl, cellAt h 1 rfl, cellAt h 2 rfl, cellAt h 3 rfl, cellAt h 4 rfl⟩
theorem find_step {w W W2 : World} {bf : Nat} {x0 x1 rv x3 x4 v2 xv : Value} {X : List RX} {x : RX} {S2 : Nat → Prop} (o : Obj) (hx : W.heap[bf]? = some (.cells #[x0, x1, rv, x3, x4] 133 (0, 0))) (hS : ∀ k, S2 k → w.heap.size ≤ k ∧ k ≠ bf) (hbf : w.heap.size ≤ bf)
   (hr : Row W2 72 1 v2 (X.length + 1) (X.map RX.v ++ [xv]) (fun k => (S2 k ∧ Typed W 72 k) ∨ (W.alloc o).heap.size ≤ k)) (hc : Chg (fun k => S2 k ∧ Typed W 72 k) (W.alloc o) W2) (hb : Below w.heap.size w W) :
   (W2.setCell ⟨bf, 2, none⟩ v2).heap[bf]? = some (.cells #[x0, x1, v2, x3, x4] 133 (0, 0)) ∧ Row (W2.setCell ⟨bf, 2, none⟩ v2) 72 1 v2 (X.length + 1) (X.map RX.v ++ [xv]) (fun k => S2 k ∨ W.heap.size < k) ∧
     (∀ k, k < W.heap.size → k ≠ bf → (¬ S2 k ∨ ∃ cs, W.heap[k]? = some (.cells cs 5 (0, 0))) → (W2.setCell ⟨bf, 2, none⟩ v2).heap[k]? = W.heap[k]?) ∧ Below w.heap.size w (W2.setCell ⟨bf, 2, none⟩ v2) ∧ W.heap.size ≤ (W2.setCell ⟨bf, 2, none⟩ v2).heap.size := by
 have hlt := lt_of_heap hx
 have hsz := hc.size
 rw [World.size_alloc] at hsz
 have hbfn : ¬ S2 bf := fun h => (hS bf h).2 rfl
 have h1 : W2.heap[bf]? = some (.cells #[x0, x1, rv, x3, x4] 133 (0, 0)) := ((hc.block bf (by simp; omega) (fun h => hbfn h.1)).trans (Below.heap_alloc _ _ _ hlt)).trans hx
 refine ⟨heap_store h1 2 v2, ?_, fun k hk hne hq => ?_, ?_, ?_⟩
 · refine (hr.mono (T := fun k => S2 k ∨ W.heap.size < k) (fun k hk => ?_)).frame (fun k hk _ => Below.heap_setCell _ _ _ _ (fun e => ?_))
   · rcases hk with h | h
     · exact .inl h.1
     · rw [World.size_alloc] at h; exact .inr (by omega)
   · have e2 : k = bf := e
     rw [e2] at hk
     rcases hk with h | h
     · exact hbfn h
     · omega
 · rw [Below.heap_setCell _ ⟨bf, 2, none⟩ _ _ hne]
   refine (hc.block k (by simp; omega) (fun h => ?_)).trans (Below.heap_alloc _ _ _ hk)
   rcases hq with h2 | ⟨cs, h2⟩
   · exact h2 h.1
   · obtain ⟨cs', h3⟩ := h.2
     rw [h2] at h3; simp at h3
 · have hw := hb.size
   exact ((hb.alloc hw o).trans (hc.toBelow (by simp; omega) (fun n hn h => by have := (hS n h.1).1; omega))).setCell (p := ⟨bf, 2, none⟩) hbf _
 · rw [World.size_setCell]; omega
set_option maxHeartbeats 4000000 in
theorem find_any (x : Value) (D : DS) (S : Nat → Prop) (w : World) (h : DRep w x D S) (ht : Tab w) (hl : D.files.length ≤ 1000) (hs : sumD D.files ≤ 100000) (hnm : ∀ f ∈ D.files, f.name.size ≤ maxLen) :
   Calls Tryz.prog 74 #[x] w (FindP w (findS D)) := by
 have HD := Lib.hid h.tight
 have HT := Lib.hid ht
 have HLI := Lib.hid (list_any x D S w h (by omega) hnm)
 have HDO := Lib.hid (down_any x D S w h)
 obtain ⟨f, hf⟩ : ∃ f, f = findS D := ⟨_, rfl⟩
 have HFD := Lib.hid hf
 rw [← hf]
 clear hf
 obtain ⟨bx, bm, col, pv, rfl, -⟩ := h
 clear ht hnm
 go_enter Tryz.func74, Tryz.ntmps74
 go_wp2_with fail
 go_step3
 go_wp2_with fail
 refine HDO.out.mono ?_
 rintro e w1 ⟨rfl, hw1⟩
 obtain rfl := hw1.symm
 clear hw1 HDO
 cases hdn : D.down with
 | true =>
   have hf : f = FR.bad 10 := by rw [HFD.out]; unfold findS; rw [hdn]; rfl
   subst hf
   go_wp2
   try rw [Exit.noGoto_ret]
   go_ret2
   exact ⟨Below.refl _ _, .inl ⟨by decide, rfl⟩⟩
 | false =>
   have HF : Hid (f = findG (contD D) (segsD D)) := by rw [Hid, HFD.out]; unfold findS; rw [hdn]; rfl
   go_wp2_with fail
   refine HLI.out.mono ?_
   rintro e w1 ⟨v, ss, rfl, hrow, hb1, hpw, hmem⟩
   have hsl := mkS_len hpw hmem
   rw [List.length_map] at hsl
   have hrl : refL (mkS ss) = segsD D := refL_same (mkS_mem hmem)
   have HSG := Lib.hid (seglist2_any v (mkS ss) w1 (by rw [mkS_V, List.length_map]; exact hrow.reads) (by rw [List.length_map]; omega))
   rw [hrl] at HSG
   have HB1 := Lib.hid hb1
   have hll : (segsD D).length ≤ 1000 := by have := refL_length (D.files.map DF.name); rw [List.length_map] at this; unfold segsD; omega
   have HINC : Hid (Inc (segsD D)) := inc_refL _
   have HRG : Hid (∀ n ∈ segsD D, 1 ≤ n ∧ n ≤ 99999999) := fun n hn => mem_segs hn
   clear hrow hb1 hpw hmem hrl HLI hsl HFD
   generalize segsD D = L at *
   go_wp2_with fail
   refine HSG.out.mono ?_
   rintro e w2 ⟨v2, rfl, hr2, hbl2, hb2⟩
   have HBL2 : Hid (∀ a n c, v2 = .slice (some a) n c → w.heap.size ≤ a.block) := fun a n c h => Nat.le_trans HB1.out.size (hbl2 a n c h)
   have HR2 := Lib.hid hr2
   have HB2 := Lib.hid (HB1.out.trans (hb2.mono HB1.out.size))
   obtain ⟨-, va, vc, hv2, -⟩ := id hr2
   subst hv2
   clear hb2 HSG hr2 HB1 hbl2
   by_cases hL : L = []
   · subst hL
     have hf : f = FR.bad 0 := by rw [HF.out, findG, if_pos rfl]
     subst hf
     simp only [List.length_nil] at *
     go_wp2
     try rw [Exit.noGoto_ret]
     go_ret2
     refine ⟨HB2.out.alloc HB2.out.size _, .inr ⟨rfl, _, rfl, none, 0, none, 0, none, 0, [], heap_alloc_new _ _, Reads.nil _ _, by intro ad h; (cases h), Row.nil _ _ _ _, by simp, rfl, Reads.nil _ _, by intro ad h; (cases h), HB2.out.size⟩⟩
   · have hlen := List.length_pos_iff.2 hL
     have HFI := Lib.hid (first_any (.pointer (some ⟨bx, 0, none⟩)) D _ (.slice va L.length vc) L w2 (HD.out.frame (fun k hk _ => HB2.out.block k hk.2)) (tab_below HT.out HB2.out) hs HR2.out hll hlen)
     obtain ⟨K, hK⟩ : ∃ K, K = markK (contD D) L (L.length - 1) := ⟨_, rfl⟩
     have hkl := markK_le (contD D) L (L.length - 1)
     have HFG : Hid (findG (contD D) L = if (chainUp (L.drop K) (L.length - K) && restUp (contD D) (L.drop K) (L.length - K)) then
         ⟨0, L.take K, lastN L, recsG (contD D) (L.drop K), (contD D (lastN L)).take (splitB (contD D (lastN L))).2, (contD D (lastN L)).length - (splitB (contD D (lastN L))).2⟩
       else FR.bad 11) := by rw [Hid, findG, if_neg hL, hK]
     rw [← hK] at HFI hkl
     clear hK
     go_wp2_with fail
     refine HFI.out.mono ?_
     rintro e w3 ⟨rfl, hb3⟩
     have HB3 := Lib.hid (HB2.out.trans (hb3.mono HB2.out.size))
     have HR3 := Lib.hid (HR2.out.later hb3)
     clear hb3 HFI HR2 HB2
     obtain ⟨m, hm⟩ : ∃ m, L.length = m + 1 := ⟨L.length - 1, by omega⟩
     obtain ⟨b, o, c', hv, hle, hbb, hc⟩ := HR3.out.at (by omega)
     obtain ⟨rfl, rfl⟩ : va = some ⟨b, o, none⟩ ∧ vc = c' := by cases hv; exact ⟨rfl, rfl⟩
     have HCL : Hid (∀ (i : Nat) (h : i < L.length), w3.cell? ⟨b, o + i, none⟩ = some (.int .i64 L[i])) := fun i h => hc i _ (by simp [ints, h])
     have hlast : w3.drew.cell? ⟨b, o + m, none⟩ = some (.int .i64 (lastN L)) := by
       have := HCL.out m (by omega)
       rw [lastN_get hm]; exact this
     have hm1 : (L.length : Int) - 1 = (m : Int) := by omega
     have hK1 : K ≤ vc := by omega
     have hK2 : K < L.length := by omega
     have hK3 : ¬ vc = K := by omega
     have HBO : Hid (w.heap.size ≤ b) := HBL2.out _ _ _ rfl
     clear hv hc HBL2
     go_upto_region 9 with fail
     go_region
     obtain ⟨R, hR⟩ : ∃ R, R = L.drop K := ⟨_, rfl⟩
     have hRl : R.length = m + 1 - K := by rw [hR, List.length_drop, hm]
     have HRI : Hid (∀ (i : Nat) (h : i < R.length) (w' : World), Below w3.heap.size w3 w' → w'.cell? ⟨b, o + K + i, none⟩ = some (.int .i64 R[i])) := fun i h w' hb' => by
       have h1 := HCL.out (K + i) (by omega)
       have e : R[i] = L[K + i]'(by omega) := by simp only [hR, List.getElem_drop]
       rw [e, Nat.add_assoc]
       exact (hb'.cell (p := ⟨b, o + (K + i), none⟩) hbb).trans h1
     have HGP : Hid (∀ w' : World, Below w3.heap.size w3 w' → Calls Tryz.prog 129 #[.slice (some ⟨b, o + K, none⟩) R.length (vc - K)] w' fun e w'' => ∃ r : Int, e = .returned (.int .i64 r) ∧ (decide (r = 0)) = chainUp R R.length ∧ Below w'.heap.size w' w'') := fun w' hb' => by
       refine gap_gen R _ w' ?_ (by rw [hR]; exact HINC.out.sublist (List.drop_sublist _ _)) (by omega) (fun x hx => HRG.out x (by rw [hR] at hx; exact List.mem_of_mem_drop hx))
       have h1 := Reads.dropN (HR3.out.later hb') K (by omega) (some ⟨b, o + K, none⟩) (fun _ => by rw [Nat.mul_one]) (by simp)
       rw [Nat.mul_one, ← ints_drop, ← hR, hm, ← hRl] at h1
       exact h1
     have HX4 : Hid ((w3.alloc (.cells #[.slice (some ⟨b, o, none⟩) K vc, .int .i64 (lastN L), .slice none 0 0, .slice none 0 0, .int .i64 0] 133)).drew.heap[w3.heap.size]? = some (.cells #[.slice (some ⟨b, o, none⟩) K vc, .int .i64 (lastN L), .slice none 0 0, .slice none 0 0, .int .i64 0] 133 (0, 0))) := heap_alloc_new _ _
     have HB4 : Hid (Below w3.heap.size w3 (w3.alloc (.cells #[.slice (some ⟨b, o, none⟩) K vc, .int .i64 (lastN L), .slice none 0 0, .slice none 0 0, .int .i64 0] 133)).drew) := ((Below.refl _ _).alloc (Nat.le_refl _) _).drew
     have HRIN : Hid (R = L.drop K) := hR
     rw [show L.length - K = R.length by omega, ← hR] at HFG
     obtain ⟨cb, hcb⟩ : ∃ cb, cb = chainUp R R.length := ⟨_, rfl⟩
     rw [← hcb] at HFG
     have HCB := Lib.hid hcb
     simp only [← hcb] at HGP
     have HRL := Lib.hid hRl
     have hk0 : K < m + 1 := by omega
     have HK0 := Lib.hid hk0
     clear hlast hm1 HCL hcb hR hRl hk0
     go_wp2_with fail
     rw [← HRL.out]
     refine (HGP.out _ HB4.out).mono ?_
     rintro e w5 ⟨r, rfl, hr, hb5⟩
     have hr2 : (r == 0) = cb := by rw [← hr]; rfl
     have HX5 := Lib.hid ((hb5.block _ (lt_of_heap HX4.out)).trans HX4.out)
     have HB35 := Lib.hid (HB4.out.trans (hb5.mono HB4.out.size))
     have HB5 := Lib.hid (HB3.out.trans (HB35.out.mono HB3.out.size))
     generalize (w3.alloc (.cells #[.slice (some ⟨b, o, none⟩) K vc, .int .i64 (lastN L), .slice none 0 0, .slice none 0 0, .int .i64 0] 133)).drew = w4 at *
     clear hb5 HX4 HB4 HGP hr
     go_wp2_with fail
     go_step3
     go_wp2_with fail
     rw [← HRL.out]
     have hR0 : 0 < R.length := by have := HRL.out; have := HK0.out; omega
     have HLR : Hid (∀ (i : Nat) (h : i < R.length), (R[i] < lastN L ↔ ¬ i + 1 = R.length) ∧ R.getD i 0 = R[i] ∧ (i + 1 = R.length → R[i] = lastN L)) := fun i h => by
       have hRl := HRL.out
       have hinc : Inc R := by rw [HRIN.out]; exact HINC.out.sublist (List.drop_sublist _ _)
       have hla : lastN L = R[R.length - 1]'(by omega) := by
         have hk0 := HK0.out
         have e1 : R[R.length - 1]'(by omega) = L[K + (R.length - 1)]'(by omega) := by
           obtain rfl := HRIN.out
           exact List.getElem_drop ..
         rw [lastN_get hm, e1]
         congr 1; omega
       refine ⟨?_, by rw [List.getD_eq_getElem?_getD, List.getElem?_eq_getElem h]; rfl, fun e => ?_⟩
       · rw [hla]
         constructor
         · intro h1 e
           have e2 : R.length - 1 = i := by omega
           simp only [e2] at h1
           omega
         · intro h1
           exact List.pairwise_iff_getElem.1 hinc i (R.length - 1) h (by omega) (by omega)
       · rw [hla]
         congr 1; omega
     have hRlen : R.length ≤ 1000 := by have := HRL.out; omega
     have HBF0 : Hid (w.heap.size ≤ w3.heap.size) := HB3.out.size
     go_loopw [7, 52] (fun okv iv w' => ∃ (i : Nat) (ok : Bool) (X : List RX) (ra fa : Option Addr) (rc fc : Nat) (fr : List UInt8) (tn : Nat), i ≤ R.length ∧ iv = .int .i64 i ∧ okv = .bool ok ∧ X.length ≤ 12500 * i ∧ Hid (w'.heap[w3.heap.size]? = some (.cells #[.slice (some ⟨b, o, none⟩) K vc, .int .i64 (lastN L), .slice ra X.length rc, .slice fa fr.length fc, .int .i64 tn] 133 (0, 0))) ∧ Hid (Row w' 72 1 (.slice ra X.length rc) X.length (X.map RX.v) (fun k => w3.heap.size < k)) ∧ Hid (∀ x ∈ X, RdX w.heap.size x w') ∧ Hid (X.map RX.l = recsG (contD D) (R.take i)) ∧ Hid (Reads w' (.slice fa fr.length fc) fr.length 1 (byts fr) ∧ ∀ ad, fa = some ad → w.heap.size ≤ ad.block ∧ ad.block < w'.heap.size) ∧ Hid (Below w3.heap.size w3 w') ∧ Hid ((i = 0 ∧ ok = cb) ∨ (0 < i ∧ ok = true ∧ cb = true ∧ restUp (contD D) R i = true ∧ fr = (contD D (R.getD (i - 1) 0)).take (splitB (contD D (R.getD (i - 1) 0))).2 ∧ tn = (contD D (R.getD (i - 1) 0)).length - (splitB (contD D (R.getD (i - 1) 0))).2))) (fun _ iv _ => R.length - (RowKit.intOf iv).toNat)
     case atStart => exact ⟨0, cb, [], none, none, 0, 0, [], 0, by omega, rfl, rfl, by simp, HX5, Row.nil _ _ _ _, by simp [Hid], by simp [Hid, recsG], ⟨Reads.nil _ _, by intro ad h; (cases h)⟩, HB35, .inl ⟨rfl, rfl⟩⟩
     case round =>
       obtain ⟨i, ok, X, ra, fa, rc, fc, fr, tn, hi, rfl, rfl, hxl, HX, HRW, HRX, HRE, HFR, HB, HST⟩ := hrel
       have HBW := Lib.hid (HB3.out.trans (HB.out.mono HB3.out.size))
       by_cases hlt : i < R.length
       · have hci := HRI.out i hlt wr HB.out
         obtain ⟨hll1, hll2, hll3⟩ := HLR.out i hlt
         have HLL := Lib.hid hll1
         have HL3 := Lib.hid hll3
         have HSC := Lib.hid (scbytes_any (.pointer (some ⟨bx, 0, none⟩)) D _ R[i] wr (HD.out.frame (fun k hk _ => HBW.out.block k hk.2)) (tab_below HT.out HBW.out) hs)
         have hcl := contD_len D R[i]
         have HRA : Hid (restAt (contD D) R i = (decide ((splitB (contD D R[i])).2 = (contD D R[i]).length ∨ i + 1 = R.length) && empAt i (splitB (contD D R[i])).1 (splitB (contD D R[i])).1.length)) := by rw [Hid, restAt, hll2]
         have HRS : Hid (recsG (contD D) (R.take (i + 1)) = recsG (contD D) (R.take i) ++ fullL (splitB (contD D R[i])).1) := by
           rw [Hid, List.take_succ_eq_append_getElem hlt]; unfold recsG; rw [List.flatMap_append]; simp
         obtain ⟨l, hl0⟩ : ∃ l, l = contD D R[i] := ⟨_, rfl⟩
         have HLE : Hid (l = contD D (R.getD i 0)) := by rw [Hid, hll2]; exact hl0
         rw [← hl0] at HSC hcl HRA HRS
         generalize R[i] = n at *
         clear hl0 hll1 hll2 hll3
         go_wp2_with fail
         refine HSC.out.mono ?_
         rintro e w6 ⟨a6, c6, rfl, hr6, hb6⟩
         have HSP := Lib.hid (split_any a6 c6 l w6 hr6.reads (by omega))
         have hc6 : l.length ≤ c6 := by obtain ⟨_, ao, c', hv, hle, _⟩ := hr6.reads; cases hv; exact hle
         have HR6 : Hid (Row w6 5 1 (.slice a6 l.length c6) l.length (byts l) (fun k => w.heap.size ≤ k)) := hr6.mono (fun k hk => by have := HBW.out.size; omega)
         have HB6 := Lib.hid hb6
         clear hr6 hb6 HSC hci
         go_wp2_with fail
         refine HSP.out.mono ?_
         rintro e w7 ⟨a7, c7, X7, rfl, hr7, hx7, he7, hl7, hb7⟩
         have HB67 := Lib.hid hb7
         have HBR7 := Lib.hid (HB6.out.trans (hb7.mono HB6.out.size))
         have hsle := splitB_le l
         obtain ⟨s7, hs7⟩ : ∃ s, s = (splitB l).2 := ⟨_, rfl⟩
         have HS7 := Lib.hid hs7
         have HE7 := Lib.hid he7
         rw [← hs7] at hsle ⊢
         obtain ⟨t7, ht7⟩ : ∃ t : Nat, t = l.length - s7 := ⟨_, rfl⟩
         have hsub : (l.length : Int) - (s7 : Int) = (t7 : Int) := by omega
         have hcb1 : (s7 : Int) ≤ (c6 : Int) := by omega
         have hcb2 : s7 ≤ c6 := by omega
         have HT7 := Lib.hid ht7
         clear ht7
         have HX7 := Lib.hid ((HBR7.out.block _ (lt_of_heap HX.out)).trans HX.out)
         obtain ⟨x0, x1, x2, x3, x4⟩ := found_blk HX7.out
         have q3 := freeAt HX7.out 3
         have q4 := freeAt HX7.out 4
         have HXL7 : Hid (8 * X7.length ≤ l.length) := hl7
         have HRW7 : Hid (Row w7 72 1 (.slice a7 X7.length c7) X7.length (X7.map RX.v) (fun k => w6.heap.size ≤ k ∧ k < w7.heap.size)) := Row.tight hr7
         have HXX7 : Hid (∀ x ∈ X7, RdX w.heap.size x w7) := fun x hx => Row.mono (hx7 x hx) (fun k hk => by have := HBW.out.size; have := HB6.out.size; omega)
         have HRWt := Lib.hid (Row.tight HRW.out)
         have HXR := Lib.hid HX.out
         clear hr7 hx7 he7 hl7 hb7 HSP hs7 HX
         go_upto_region 17 with fail
         have HX8 : Hid (((w7.setCell ⟨w3.heap.size, 3, none⟩ (.slice a6 s7 c6)).setCell ⟨w3.heap.size, 4, none⟩ (.int .i64 t7)).heap[w3.heap.size]? = some (.cells #[.slice (some ⟨b, o, none⟩) K vc, .int .i64 (lastN L), .slice ra X.length rc, .slice a6 s7 c6, .int .i64 t7] 133 (0, 0))) := heap_store (heap_store HX7.out 3 (.slice a6 s7 c6)) 4 (.int .i64 t7)
         have HK8 : Hid (∀ k, k ≠ w3.heap.size → ((w7.setCell ⟨w3.heap.size, 3, none⟩ (.slice a6 s7 c6)).setCell ⟨w3.heap.size, 4, none⟩ (.int .i64 t7)).heap[k]? = w7.heap[k]?) := fun k hk => (Below.heap_setCell _ ⟨w3.heap.size, 4, none⟩ _ _ hk).trans (Below.heap_setCell _ ⟨w3.heap.size, 3, none⟩ _ _ hk)
         have HB8 : Hid (Below w3.heap.size w3 ((w7.setCell ⟨w3.heap.size, 3, none⟩ (.slice a6 s7 c6)).setCell ⟨w3.heap.size, 4, none⟩ (.int .i64 t7))) := ((HB.out.trans (HBR7.out.mono HB.out.size)).setCell (p := ⟨w3.heap.size, 3, none⟩) (Nat.le_refl _) _).setCell (p := ⟨w3.heap.size, 4, none⟩) (Nat.le_refl _) _
         have hs8 : ((w7.setCell ⟨w3.heap.size, 3, none⟩ (.slice a6 s7 c6)).setCell ⟨w3.heap.size, 4, none⟩ (.int .i64 t7)).heap.size = w7.heap.size := by rw [World.size_setCell, World.size_setCell]
         have hw36 : w3.heap.size < wr.heap.size := lt_of_heap HXR.out
         have HR8 : Hid (Row ((w7.setCell ⟨w3.heap.size, 3, none⟩ (.slice a6 s7 c6)).setCell ⟨w3.heap.size, 4, none⟩ (.int .i64 t7)) 5 1 (.slice a6 l.length c6) l.length (byts l) (fun k => w.heap.size ≤ k)) := Row.keepT HR6.out (fun k h1 ⟨cs, h2⟩ h3 => (HK8.out k (fun e => by
           have h4 := (HB6.out.block _ (lt_of_heap HXR.out)).trans HXR.out
           rw [e, h4] at h2; simp at h2)).trans (HB67.out.block k h3))
         have HRT8 : Hid (Row ((w7.setCell ⟨w3.heap.size, 3, none⟩ (.slice a6 s7 c6)).setCell ⟨w3.heap.size, 4, none⟩ (.int .i64 t7)) 72 1 (.slice ra X.length rc) X.length (X.map RX.v) (fun k => w3.heap.size < k ∧ (k < w6.heap.size ∨ w7.heap.size ≤ k))) :=
           (HRWt.out.frame (fun k hk hlt => (HK8.out k (by have := hk.1; omega)).trans (HBR7.out.block k hlt))).mono (fun k hk => ⟨hk.1, .inl (by have := hk.2; have := HB6.out.size; omega)⟩)
         have HXX8 : Hid (∀ x ∈ X, RdX w.heap.size x ((w7.setCell ⟨w3.heap.size, 3, none⟩ (.slice a6 s7 c6)).setCell ⟨w3.heap.size, 4, none⟩ (.int .i64 t7))) := fun x hx => Row.keepT (HRX.out x hx) (fun k h1 ⟨cs, h2⟩ h3 => (HK8.out k (fun e => by rw [e, HXR.out] at h2; simp at h2)).trans (HBR7.out.block k h3))
         have HRW8 : Hid (Row ((w7.setCell ⟨w3.heap.size, 3, none⟩ (.slice a6 s7 c6)).setCell ⟨w3.heap.size, 4, none⟩ (.int .i64 t7)) 72 1 (.slice a7 X7.length c7) X7.length (X7.map RX.v) (fun k => w6.heap.size ≤ k ∧ k < w7.heap.size)) := HRW7.out.frame (fun k hk _ => HK8.out k (by have := hk.1; have := HB6.out.size; omega))
         have HXY8 : Hid (∀ x ∈ X7, RdX w.heap.size x ((w7.setCell ⟨w3.heap.size, 3, none⟩ (.slice a6 s7 c6)).setCell ⟨w3.heap.size, 4, none⟩ (.int .i64 t7))) := fun x hx => Row.keepT (HXX7.out x hx) (fun k h1 ⟨cs, h2⟩ h3 => HK8.out k (fun e => by rw [e, HX7.out] at h2; simp at h2))
         have HSZ8 : Hid (((w7.setCell ⟨w3.heap.size, 3, none⟩ (.slice a6 s7 c6)).setCell ⟨w3.heap.size, 4, none⟩ (.int .i64 t7)).heap.size = w7.heap.size) := hs8
         have hw367 : w3.heap.size < w6.heap.size := by have := HB6.out.size; omega
         have hw67 : w6.heap.size ≤ w7.heap.size := HB67.out.size
         clear hs8 HK8 HRW7 HXX7 HX7 HRWt x0 x1 x2 x3 x4 q3 q4 HR6
         generalize (w7.setCell ⟨w3.heap.size, 3, none⟩ (.slice a6 s7 c6)).setCell ⟨w3.heap.size, 4, none⟩ (.int .i64 t7) = w8 at *
         obtain ⟨x0, x1, x2, x3, x4⟩ := found_blk HX8.out
         obtain ⟨ok1, hok1⟩ : ∃ ok1, ok1 = (ok && decide (s7 = l.length ∨ i + 1 = R.length)) := ⟨_, rfl⟩
         have HOK1 := Lib.hid hok1
         have HTQ : Hid (ok1 = if 0 < t7 ∧ n < lastN L then false else ok) := by
           rw [Hid, HOK1.out]
           have h2 := HT7.out
           by_cases hq : 0 < t7 ∧ n < lastN L
           · have h1 := HLL.out.1 hq.2
             have h3 : ¬ (s7 = l.length ∨ i + 1 = R.length) := by rintro (h | h); have := hq.1; omega; exact h1 h
             rw [if_pos hq, decide_eq_false h3, Bool.and_false]
           · have h3 : s7 = l.length ∨ i + 1 = R.length := by
               by_cases h : i + 1 = R.length
               · exact .inr h
               · left
                 have h4 := HLL.out.2 h
                 have : ¬ 0 < t7 := fun h5 => hq ⟨h5, h4⟩
                 omega
             rw [if_neg hq, decide_eq_true h3, Bool.and_true]
         have HLN7 : Hid ((X7.map RX.l).length = X7.length) := List.length_map _
         obtain ⟨XL, hXL⟩ : ∃ XL, XL = X7.map RX.l := ⟨_, rfl⟩
         have HXL := Lib.hid hXL
         have HLX : Hid (XL.length = X7.length) := by rw [hXL]; exact HLN7.out
         have HGX : Hid (∀ (j : Nat) (h : j < X7.length), XL.getD j [] = X7[j].l ∧ XL.take (j + 1) = XL.take j ++ [X7[j].l]) := fun j h => by
           have h1 : XL[j]? = some X7[j].l := by rw [hXL, List.getElem?_map, List.getElem?_eq_getElem h]; rfl
           refine ⟨by rw [List.getD_eq_getElem?_getD, h1]; rfl, ?_⟩
           rw [List.take_add_one, h1]; rfl
         have HI7 := Lib.hid (show i ≤ 1000 by omega)
         have hxb : X7.length ≤ 12500 := by have := HXL7.out; omega
         clear hok1 hXL hsub hcb1 hcb2
         have hstart : (ok1 = false ∧ (0 < t7 ∧ n < lastN L)) ∨ (ok1 = ok ∧ (0 < t7 ∧ ¬ n < lastN L)) ∨ (ok1 = ok ∧ ¬ 0 < t7) := by
           by_cases hq1 : 0 < t7
           · by_cases hq2 : n < lastN L
             · exact .inl ⟨by rw [HTQ.out, if_pos ⟨hq1, hq2⟩], hq1, hq2⟩
             · exact .inr (.inl ⟨by rw [HTQ.out, if_neg (fun h => hq2 h.2)], hq1, hq2⟩)
           · exact .inr (.inr ⟨by rw [HTQ.out, if_neg (fun h => hq1 h.1)], hq1⟩)
         rcases hstart with ⟨hok, hq1, hq2⟩ | ⟨hok, hq1, hq2⟩ | ⟨hok, hq1⟩
         all_goals
           have HOK := Lib.hid hok
           clear hok HTQ HLL
           go_wp2_with fail
           go_loopw [7, 93] (fun okv jv w' => ∃ (j : Nat) (ok2 : Bool) (X2 : List RX) (ra2 : Option Addr) (rc2 : Nat), j ≤ X7.length ∧ jv = .int .i64 j ∧ okv = .bool ok2 ∧ X2.length ≤ X.length + j ∧ Hid (w'.heap[w3.heap.size]? = some (.cells #[.slice (some ⟨b, o, none⟩) K vc, .int .i64 (lastN L), .slice ra2 X2.length rc2, .slice a6 s7 c6, .int .i64 t7] 133 (0, 0))) ∧ Hid (Row w' 72 1 (.slice ra2 X2.length rc2) X2.length (X2.map RX.v) (fun k => w3.heap.size < k ∧ (k < w6.heap.size ∨ w7.heap.size ≤ k))) ∧ Hid (∀ x ∈ X2, RdX w.heap.size x w') ∧ Hid (X2.map RX.l = X.map RX.l ++ fullL (XL.take j)) ∧ Hid (Row w' 72 1 (.slice a7 X7.length c7) X7.length (X7.map RX.v) (fun k => w6.heap.size ≤ k ∧ k < w7.heap.size)) ∧ Hid (∀ x ∈ X7, RdX w.heap.size x w') ∧ Hid (Row w' 5 1 (.slice a6 l.length c6) l.length (byts l) (fun k => w.heap.size ≤ k)) ∧ Hid (ok2 = (ok1 && empAt i XL j)) ∧ Hid (Below w3.heap.size w3 w') ∧ Hid (w7.heap.size ≤ w'.heap.size)) (fun _ jv _ => X7.length - (RowKit.intOf jv).toNat)
           case atStart => exact ⟨0, _, X, ra, rc, by omega, rfl, rfl, by omega, HX8, HRT8, HXX8, by simp [Hid, fullL], HRW8, HXY8, HR8, by rw [Hid, HOK.out]; simp [empAt], HB8, by rw [Hid, HSZ8.out]; exact Nat.le_refl _⟩
           case round =>
             obtain ⟨j, ok2, X2, ra2, rc2, hj, rfl, rfl, hx2l, HX2, HR2, HXX2, HE2, HRW2, HXY2, HRF2, HOK2, HB2, HSZ2⟩ := hrel
             by_cases hjl : j < X7.length
             · obtain ⟨-, ya, yc, hyv, -⟩ := (HXY2.out X7[j] (List.getElem_mem hjl)).reads
               obtain ⟨b7, o7, c7', hv7, hle7, hb7, hc7⟩ := HRW2.out.reads.at (by omega)
               obtain ⟨rfl, rfl⟩ : a7 = some ⟨b7, o7, none⟩ ∧ c7 = c7' := by cases hv7; exact ⟨rfl, rfl⟩
               have hcj : wr.cell? ⟨b7, o7 + j, none⟩ = some (.slice ya X7[j].l.length yc) := by
                 have := hc7 j X7[j].v (by rw [List.getElem?_map, List.getElem?_eq_getElem hjl]; rfl)
                 rwa [hyv] at this
               obtain ⟨hg1, hg2⟩ := HGX.out j hjl
               have HES : Hid (empAt i XL (j + 1) = (empAt i XL j && decide (X7[j].l ≠ [] ∨ i + j = 0))) := by rw [Hid, empAt_succ, hg1]
               have HFS : Hid (fullL (XL.take (j + 1)) = fullL (XL.take j) ++ fullL [X7[j].l]) := by rw [Hid, hg2]; unfold fullL; rw [List.filter_append]
               have HYM : Hid (X7[j] ∈ X7) := List.getElem_mem hjl
               generalize X7[j] = y at *
               clear hv7 hc7 hg1 hg2
               by_cases hy : y.l = []
               · have hyl : y.l.length = 0 := by rw [hy]; rfl
                 have HFS2 : Hid (X2.map RX.l = X.map RX.l ++ fullL (XL.take (j + 1))) := by rw [Hid, HE2.out, HFS.out, hy]; simp [fullL]
                 rw [hyl] at hcj
                 by_cases hij : i + j = 0
                 · have HK2 : Hid (ok2 = (ok1 && empAt i XL (j + 1))) := by rw [Hid, HOK2.out, HES.out, decide_eq_true (.inr hij), Bool.and_true]
                   obtain rfl : i = 0 := by omega
                   obtain rfl : j = 0 := by omega
                   rw [Nat.add_zero] at hcj
                   clear HES HFS hy hyl hyv HE2 HOK2 HYM
                   go_wp2_with fail
                   go_roundw
                   case rel => exact ⟨0 + 1, ok2, X2, ra2, rc2, by omega, by first | rfl | go_num, rfl, by omega, HX2, HR2, HXX2, HFS2, HRW2, HXY2, HRF2, HK2, HB2, HSZ2⟩
                   case measure => simp [RowKit.intOf] <;> omega
                 · have HK2 : Hid (false = (ok1 && empAt i XL (j + 1))) := by
                     have hd : ¬ (y.l ≠ [] ∨ i + j = 0) := by rintro (h | h); exact h hy; exact hij h
                     rw [Hid, HES.out, decide_eq_false hd, Bool.and_false, Bool.and_false]
                   have hij2 : 0 < (i : Int) + (j : Int) := by omega
                   clear HES HFS hy hyl hyv HE2 HOK2 HYM
                   go_wp2_with fail
                   go_roundw
                   case rel => exact ⟨j + 1, false, X2, ra2, rc2, by omega, by go_num, rfl, by omega, HX2, HR2, HXX2, HFS2, HRW2, HXY2, HRF2, HK2, HB2, HSZ2⟩
                   case measure => simp [RowKit.intOf] <;> omega
               · have hyl := List.length_pos_iff.2 hy
                 have HK2 : Hid (ok2 = (ok1 && empAt i XL (j + 1))) := by rw [Hid, HOK2.out, HES.out, decide_eq_true (.inl hy), Bool.and_true]
                 have HFS2 : Hid ((X2 ++ [y]).map RX.l = X.map RX.l ++ fullL (XL.take (j + 1))) := by
                   rw [Hid, HFS.out, List.map_append, HE2.out, List.append_assoc]
                   congr 1
                   unfold fullL
                   rw [List.filter_cons_of_pos (by simpa using hy)]
                   rfl
                 have HYV := Lib.hid hyv
                 obtain ⟨x0, x1, x2, x3, x4⟩ := found_blk HX2.out
                 have HRA2 : Hid (Row (wr.alloc (.cells #[.slice ya y.l.length yc] 72)) 72 1 (.slice ra2 X2.length rc2) X2.length (X2.map RX.v) (fun k => (w3.heap.size < k ∧ (k < w6.heap.size ∨ w7.heap.size ≤ k)) ∧ Typed wr 72 k)) := (Row.typed HR2.out).frame (fun k _ hk => Below.heap_alloc _ _ _ hk)
                 have hx2b : X2.length ≤ 13000000 := by have := HI7.out; omega
                 have hxa := fun (o : Obj) => found_blk ((Below.heap_alloc wr o _ (lt_of_heap HX2.out)).trans HX2.out)
                 have hxa2 := fun (o : Obj) => (hxa o).2.2.1
                 clear hxa HES HFS hy hyv HE2 HOK2
                 go_wp2_with (refine wpList_row elemRec rfl rfl (S := fun k => (w3.heap.size < k ∧ (k < w6.heap.size ∨ w7.heap.size ≤ k)) ∧ Typed wr 72 k) (n := X2.length) (xs := X2.map RX.v) rfl HRA2.out (y := .slice (some ⟨wr.heap.size, 0, none⟩) 1 1) (m := 1) (news := [.slice ya y.l.length yc]) rfl (reads_one wr _ _) (one_of rfl) (by unfold maxLen; omega) (by omega) ?_
                              intro v9 w9 hr9 hc9
                              obtain ⟨ra9, rc9, rfl⟩ := slice_form hr9
                              have H9 := ((hc9.block w3.heap.size (by have := lt_of_heap HX2.out; simp; omega) (fun e => by have := e.1.1; omega)).trans (Below.heap_alloc wr (.cells #[.slice ya y.l.length yc] 72) _ (lt_of_heap HX2.out))).trans HX2.out
                              obtain ⟨z0, z1, z2, z3, z4⟩ := found_blk H9
                              have y2 := freeAt H9 2)
                 have HST9 := find_step (w := w) (bf := w3.heap.size) (X := X2) (x := y) (xv := .slice ya y.l.length yc) (S2 := fun k => w3.heap.size < k ∧ (k < w6.heap.size ∨ w7.heap.size ≤ k)) (.cells #[.slice ya y.l.length yc] 72) HX2.out (fun k hk => ⟨by have := hk.1; have := HBF0.out; omega, by have := hk.1; omega⟩) HBF0.out hr9 hc9 (HB3.out.trans (HB2.out.mono HB3.out.size))
                 obtain ⟨f1, f2, f3, f4, f5⟩ := HST9
                 have HLA : Hid ((X2 ++ [y]).length = X2.length + 1) := by simp [Hid]
                 have HR9 : Hid (Row (w9.setCell ⟨w3.heap.size, 2, none⟩ (.slice ra9 (X2.length + 1) rc9)) 72 1 (.slice ra9 (X2 ++ [y]).length rc9) (X2 ++ [y]).length ((X2 ++ [y]).map RX.v) (fun k => w3.heap.size < k ∧ (k < w6.heap.size ∨ w7.heap.size ≤ k))) := by
                   rw [Hid, HLA.out, List.map_append, List.map_cons, List.map_nil, HYV.out]
                   have h2 := HSZ2.out
                   exact f2.mono (fun k hk => by rcases hk with h | h; exact h; exact ⟨by omega, .inr (by omega)⟩)
                 have hkeep : ∀ {v : Value} {n : Nat} {xs : List Value}, Row wr 5 1 v n xs (fun k => w.heap.size ≤ k) → Row (w9.setCell ⟨w3.heap.size, 2, none⟩ (.slice ra9 (X2.length + 1) rc9)) 5 1 v n xs (fun k => w.heap.size ≤ k) := fun hrow => Row.keepT hrow (fun k h1 ⟨cs, h2⟩ h3 => f3 k h3 (fun e => by rw [e, HX2.out] at h2; simp at h2) (.inr ⟨cs, h2⟩))
                 have HXX9 : Hid (∀ x ∈ X2 ++ [y], RdX w.heap.size x (w9.setCell ⟨w3.heap.size, 2, none⟩ (.slice ra9 (X2.length + 1) rc9))) := fun x hx => by
                   rcases List.mem_append.1 hx with hx | hx
                   · exact hkeep (HXX2.out x hx)
                   · rw [List.mem_singleton] at hx
                     rw [hx]
                     exact hkeep (HXY2.out y HYM.out)
                 have HXY9 : Hid (∀ x ∈ X7, RdX w.heap.size x (w9.setCell ⟨w3.heap.size, 2, none⟩ (.slice ra9 (X2.length + 1) rc9))) := fun x hx => hkeep (HXY2.out x hx)
                 have HRF9 : Hid (Row (w9.setCell ⟨w3.heap.size, 2, none⟩ (.slice ra9 (X2.length + 1) rc9)) 5 1 (.slice a6 l.length c6) l.length (byts l) (fun k => w.heap.size ≤ k)) := hkeep HRF2.out
                 have HRW9 : Hid (Row (w9.setCell ⟨w3.heap.size, 2, none⟩ (.slice ra9 (X2.length + 1) rc9)) 72 1 (.slice (some ⟨b7, o7, none⟩) X7.length c7) X7.length (X7.map RX.v) (fun k => w6.heap.size ≤ k ∧ k < w7.heap.size)) := HRW2.out.frame (fun k hk hlt => f3 k hlt (by have := hk.1; omega) (.inl (fun h => by have := h.2; omega)))
                 have hsz2 := HSZ2.out
                 have HB9 : Hid (Below w3.heap.size w3 (w9.setCell ⟨w3.heap.size, 2, none⟩ (.slice ra9 (X2.length + 1) rc9))) := by
                   have hw3 := HB2.out.size
                   exact ((HB2.out.alloc hw3 _).trans (hc9.toBelow (by simp; omega) (fun k hk h => by have := h.1.1; omega))).setCell (p := ⟨w3.heap.size, 2, none⟩) (Nat.le_refl _) _
                 have HSZ9 : Hid (w7.heap.size ≤ (w9.setCell ⟨w3.heap.size, 2, none⟩ (.slice ra9 (X2.length + 1) rc9)).heap.size) := Nat.le_trans hsz2 f5
                 have HX9 : Hid ((w9.setCell ⟨w3.heap.size, 2, none⟩ (.slice ra9 (X2.length + 1) rc9)).heap[w3.heap.size]? = some (.cells #[.slice (some ⟨b, o, none⟩) K vc, .int .i64 (lastN L), .slice ra9 (X2 ++ [y]).length rc9, .slice a6 s7 c6, .int .i64 t7] 133 (0, 0))) := by rw [Hid, HLA.out]; exact f1
                 clear f1 f2 f3 f4 f5 hr9 hc9 hkeep HX2 HR2 HXX2 HRW2 HXY2 HRF2 HB2 HRA2 hxa2
                 go_roundw
                 case rel => exact ⟨j + 1, ok2, X2 ++ [y], ra9, rc9, by omega, by go_num, rfl, by rw [HLA.out]; omega, HX9, HR9, HXX9, HFS2, HRW9, HXY9, HRF9, HK2, HB9, HSZ9⟩
                 case measure => simp [RowKit.intOf] <;> omega
             · obtain rfl : j = X7.length := by omega
               have HTK : Hid (XL.take X7.length = XL) := by rw [Hid, ← HLX.out]; exact List.take_length
               have HOKF : Hid (ok2 = (ok && restAt (contD D) R i)) := by
                 rw [Hid, HOK2.out, HOK1.out, HRA.out, ← HS7.out, ← HE7.out, ← HXL.out, HLX.out, Bool.and_assoc]
               have HREC : Hid (X2.map RX.l = recsG (contD D) (R.take (i + 1))) := by
                 rw [Hid, HE2.out, HTK.out, HRS.out, HRE.out, HXL.out, HE7.out]
               clear HOK HOK1 HOK2 HGX
               cases ok2 with
               | false =>
                 have hf : f = FR.bad 11 := by
                   have hrest : (cb && restUp (contD D) R R.length) = false := by
                     rcases HST.out with ⟨h1, h2⟩ | ⟨h1, h2, h3, h4, -⟩
                     · have h5 := HOKF.out
                       rw [h2] at h5
                       cases hcb2 : cb with
                       | false => rfl
                       | true =>
                         rw [hcb2, Bool.true_and] at h5
                         have h6 : restUp (contD D) R (i + 1) = false := by rw [restUp_succ, ← h5, Bool.and_false]
                         rw [restUp_false h6 (by omega)]; rfl
                     · have h5 := HOKF.out
                       rw [h2, Bool.true_and] at h5
                       have h6 : restUp (contD D) R (i + 1) = false := by rw [restUp_succ, ← h5, Bool.and_false]
                       rw [restUp_false h6 (by omega), Bool.and_false]
                   rw [HF.out, HFG.out, hrest]; rfl
                 subst hf
                 have HBZ := Lib.hid (HB3.out.trans (HB2.out.mono HB3.out.size))
                 clear HF HFG HST HOKF HREC HTK
                 go_wp2
                 try rw [Exit.noGoto_ret]
                 go_ret2
                 exact ⟨HBZ.out, .inl ⟨(by decide), rfl⟩⟩
               | true =>
                 have hand : ok = true ∧ restAt (contD D) R i = true := by
                   have h5 := HOKF.out.symm
                   simpa using h5
                 have HST2 : Hid (((i + 1 : Nat) = 0 ∧ true = cb) ∨ (0 < i + 1 ∧ true = true ∧ cb = true ∧ restUp (contD D) R (i + 1) = true ∧ l.take s7 = (contD D (R.getD (i + 1 - 1) 0)).take (splitB (contD D (R.getD (i + 1 - 1) 0))).2 ∧ t7 = (contD D (R.getD (i + 1 - 1) 0)).length - (splitB (contD D (R.getD (i + 1 - 1) 0))).2)) := by
                   refine .inr ⟨by omega, rfl, ?_, ?_, ?_, ?_⟩
                   · rcases HST.out with ⟨h1, h2⟩ | ⟨h1, h2, h3, -⟩
                     · rw [← h2]; exact hand.1
                     · exact h3
                   · rw [restUp_succ, hand.2, Bool.and_true]
                     rcases HST.out with ⟨h1, h2⟩ | ⟨h1, h2, h3, h4, -⟩
                     · rw [h1]; rfl
                     · exact h4
                   · rw [Nat.add_sub_cancel, ← HLE.out, ← HS7.out]
                   · rw [Nat.add_sub_cancel, ← HLE.out, ← HS7.out]; exact HT7.out
                 have HFT : Hid ((l.take s7).length = s7) := by rw [Hid, List.length_take]; omega
                 have HX9 : Hid (wr.heap[w3.heap.size]? = some (.cells #[.slice (some ⟨b, o, none⟩) K vc, .int .i64 (lastN L), .slice ra2 X2.length rc2, .slice a6 (l.take s7).length c6, .int .i64 t7] 133 (0, 0))) := by rw [Hid, HFT.out]; exact HX2.out
                 have HRO9 : Hid (Row wr 72 1 (.slice ra2 X2.length rc2) X2.length (X2.map RX.v) (fun k => w3.heap.size < k)) := HR2.out.mono (fun k hk => hk.1)
                 have HFR9 : Hid (Reads wr (.slice a6 (l.take s7).length c6) (l.take s7).length 1 (byts (l.take s7)) ∧ ∀ ad, a6 = some ad → w.heap.size ≤ ad.block ∧ ad.block < wr.heap.size) := by
                   rw [Hid, HFT.out]
                   exact row_front HRF2.out s7 hsle
                 clear HST HOKF HTK HFT HX2 HR2 HRF2 hand HF HFG
                 go_wp2_with fail
                 go_roundw
                 case rel => exact ⟨i + 1, true, X2, ra2, a6, rc2, c6, l.take s7, t7, by omega, by go_num, rfl, by omega, HX9, HRO9, HXX2, HREC, HFR9, HB2, HST2⟩
                 case measure => simp [RowKit.intOf] <;> omega
       · obtain rfl : i = R.length := by omega
         have hst := HST.out
         rw [List.take_length] at HRE
         rcases hst with ⟨h1, -⟩ | ⟨h1, rfl, h3, h4, h5, h6⟩
         · omega
         · have hla : R.getD (R.length - 1) 0 = lastN L := by
             obtain ⟨-, h7, h8⟩ := HLR.out (R.length - 1) (by omega)
             rw [h7]; exact h8 (by omega)
           rw [hla] at h5 h6
           have hf : f = ⟨0, L.take K, lastN L, recsG (contD D) R, fr, tn⟩ := by
             rw [HF.out, HFG.out, h3, h4, h5, h6]; rfl
           have HF2 := Lib.hid hf
           have hlk : (L.take K).length = K := by rw [List.length_take]; omega
           have HLK := Lib.hid hlk
           clear hf hlk hla h3 h4 h5 h6 HF HFG HST
           go_wp2
           try rw [Exit.noGoto_ret]
           go_ret2
           rw [HF2.out]
           refine ⟨HBW.out, .inr ⟨rfl, _, rfl, some ⟨b, o, none⟩, vc, ra, rc, fa, fc, X, ?_, ?_, ?_, HRW.out.mono (fun k hk => ⟨by have := HBF0.out; omega, by omega⟩), HRX.out, HRE.out, HFR.out.1, HFR.out.2, HBF0.out⟩⟩
           · show wr.heap[w3.heap.size]? = some (.cells #[.slice (some ⟨b, o, none⟩) (L.take K).length vc, _, _, _, _] _ _)
             rw [HLK.out]; exact HX.out
           · show Reads wr (.slice (some ⟨b, o, none⟩) (L.take K).length vc) (L.take K).length 1 (ints (L.take K))
             have h7 := (HR3.out.later HB.out).takeN K (by omega)
             rw [Nat.mul_one, ← ints_take] at h7
             rw [HLK.out]; exact h7
           · intro ad had
             cases had
             exact ⟨HBO.out, by have := HB.out.size; show b < _; omega⟩
end Go.Proofs.YtgdmdbdljmlkkaaGreatDoor
