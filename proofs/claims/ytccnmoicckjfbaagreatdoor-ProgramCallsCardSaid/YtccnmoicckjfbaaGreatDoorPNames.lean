/- Sorting strings and dropping what is twice; program.names. -/
import Derived.Test.YtccnmoicckjfbaaGreatDoorPSel
import Derived.Test.YtccnmoicckjfbaaGreatDoorShelfB
namespace Go.Proofs.YtccnmoicckjfbaaGreatDoor
set_option linter.unusedVariables false
set_option linter.unusedSimpArgs false
open Go.RowKit Go.Sort Go.Shelf Go.Proofs

theorem grow_none (w : World) : Sort.grow w #[] = w := by
  unfold Sort.grow; simp

/-- Sorting and dropping what is twice, on a row of the call's own. -/
theorem sort_compactS (v : Value) (l : List (List UInt8)) (w : World) (base : Nat) (hown : w.ownsRow base 9 1 v l.length (l.map encStr)) (hs : l.length ≤ 4398046600000) (hbase : base ≤ w.heap.size) :
    Calls Tryz.prog 19 #[v] w fun e w1 => e = .returned (.tuple #[]) ∧ Below base w w1 ∧
      Calls Tryz.prog 20 #[v] w1 fun e w2 => ∃ v', e = .returned v' ∧ Reads w2 v' (Lib.compact (l.mergeSort leS)).length 1 ((Lib.compact (l.mergeSort leS)).map encStr) ∧ Below base w1 w2 := by
  rcases hown.2 with ⟨rfl, hn⟩ | ⟨g, cap, cur, rfl, hbg, hg, hnc, hcm, hcs, htk⟩
  · obtain rfl : l = [] := List.eq_nil_of_length_eq_zero hn
    refine (Tryz.slices_Sort_string_none none 0 w).mono ?_
    rintro e w1 ⟨rfl, rfl⟩
    refine ⟨rfl, Below.refl _ _, ?_⟩
    refine (Tryz.slices_Compact_string_empty none 0 _).mono ?_
    rintro e w2 ⟨rfl, rfl⟩
    have e0 : Lib.compact (([] : List (List UInt8)).mergeSort leS) = [] := by simp [Lib.compact, Lib.compactUpTo]
    rw [e0]
    exact ⟨_, rfl, Reads.nil _ _, Below.refl _ _⟩
  · have hgl := (Array.getElem?_eq_some_iff.1 hg).1
    have hlen : (l.mergeSort leS).length = l.length := List.length_mergeSort _
    refine (Tryz.slices_Sort_string g 0 cap l w (holds_of_block hg (by rw [Nat.mul_one] at htk; exact htk)) hgl (by omega)).mono ?_
    rintro e w1 ⟨rfl, n, os, hw1⟩
    have hown1 : w1.ownsRow base 9 1 (.slice (some ⟨g, 0, none⟩) l.length cap) l.length ((l.mergeSort leS).map encStr) := by
      rw [hw1]; exact ownsRow_sorted hlen hbg hg hnc hcm hcs
    have hgr1 : w.grownBy w1 (some g) := by rw [hw1]; exact grownBy_sorted _
    clear hw1
    refine ⟨rfl, (Below.refl _ _).grown hgr1 hbase (fun k hk => by cases hk; exact hbg), ?_⟩
    have h1 := hgr1.size
    generalize l.mergeSort leS = z at *
    rcases hown1.2 with ⟨h, _⟩ | ⟨g1, cap1, cur1, hv1, hbg1, hg1, hnc1, hcm1, hcs1, htk1⟩
    · cases h
    · cases hv1
      have hgl1 := (Array.getElem?_eq_some_iff.1 hg1).1
      rw [← hlen]
      refine (Tryz.slices_Compact_string g 0 cap z w1 (holds_of_block hg1 (by rw [Nat.mul_one, ← hlen] at htk1; exact htk1)) (by omega) (by omega)).mono ?_
      rintro e w2 ⟨rfl, q, hw2⟩
      have hcl : (Lib.compact z).length ≤ z.length := by
        unfold Lib.compact Lib.compactUpTo
        rw [List.length_map]
        have := List.length_filter_le (Lib.keeps z.toArray) (List.range z.length)
        simpa using this
      have hown2 : w2.ownsRow base 9 1 (.slice (some ⟨g, 0, none⟩) z.length cap) z.length ((Lib.compact z ++ List.replicate (z.length - (Lib.compact z).length) []).map encStr) := by
        rw [hw2, ← grow_none (Sort.putRow _ _ _ _ _)]
        exact ownsRow_sorted (by simp; omega) hbg1 hg1 (by omega) hcm1 hcs1
      have hgr2 : w1.grownBy w2 (some g) := by
        rw [hw2, ← grow_none (Sort.putRow _ _ _ _ _)]; exact grownBy_sorted _
      refine ⟨_, rfl, ?_, (Below.refl _ _).grown hgr2 (by omega) (fun k hk => by cases hk; exact hbg)⟩
      have := (Row.ofOwns hown2).reads.take (Lib.compact z).length hcl
      rw [← List.map_take] at this
      simpa using this
theorem step_cells {w : World} {l : List ST} {a : Option Addr} {c : Nat} (hr : Reads w (.slice a l.length c) l.length 3 (l.flatMap stcells)) {q : Nat} (hq : q < l.length) :
    ∃ b o, a = some ⟨b, o, none⟩ ∧ l.length ≤ c ∧ b < w.heap.size ∧ w.cell? ⟨b, o + q * 3, none⟩ = some (.int .i64 l[q].k) ∧ w.cell? ⟨b, o + q * 3 + 1, none⟩ = some (.int .i64 l[q].n) ∧ w.cell? ⟨b, o + q * 3 + 2, none⟩ = some (.string l[q].s) := by
  obtain ⟨b2, o2, hra, hle2, -, hb2, hcell2⟩ := hr.atN (by omega) (by decide)
  have d0 := hcell2 (q * 3) _ (by simpa using fm_get stcells_len (List.getElem?_eq_getElem hq) 0 _ rfl)
  have d1 := hcell2 (q * 3 + 1) _ (fm_get stcells_len (List.getElem?_eq_getElem hq) 1 _ rfl)
  have d2 := hcell2 (q * 3 + 2) _ (fm_get stcells_len (List.getElem?_eq_getElem hq) 2 _ rfl)
  rw [← Nat.add_assoc] at d1 d2
  exact ⟨b2, o2, hra, hle2, hb2, d0, d1, d2⟩

set_option maxRecDepth 100000 in
set_option maxHeartbeats 2000000 in
theorem names_any (pa : Option Addr) (pc : Nat) (P : List RT) (k : Int) (w : World) (h : PrgU w (.slice pa P.length pc) P) (hs : (allS P).length ≤ 4398046600000) :
    Calls Tryz.prog 11 #[.slice pa P.length pc, .int .i64 k] w fun e w' => ∃ v, e = .returned v ∧ Reads w' v (namesL k (allS P)).length 1 (strV (namesL k (allS P))) ∧ Below w.heap.size w w' := by
  have HC := Lib.hid (concat_any pa pc P w h hs)
  obtain ⟨L, hL⟩ : ∃ L, L = allS P := ⟨_, rfl⟩
  rw [← hL] at HC hs ⊢
  clear hL h
  go_enter Tryz.func11, Tryz.ntmps11
  go_wp2_with fail
  refine HC.out.mono ?_
  rintro e w1 ⟨a, c, rfl, hr, hb⟩
  have HR := Lib.hid hr
  have HB := Lib.hid hb
  clear hr hb HC
  have hs01 := HB.out.size
  go_wp2_with fail
  go_loopw [5, 11] (fun out i w' => ∃ m : Nat, m ≤ L.length ∧ i = .int .i64 m ∧ Hid (w'.ownsRow w1.heap.size 9 1 out (selS k (L.take m)).length ((selS k (L.take m)).map Value.string)) ∧ Hid (RowKit.Below w.heap.size w w') ∧ Hid (RowKit.Below w1.heap.size w1 w')) (fun _ i _ => L.length - (RowKit.intOf i).toNat)
  case atStart => exact ⟨0, by omega, rfl, World.ownsRow_nil _ _ _ _, HB, RowKit.Below.refl _ _⟩
  case round =>
    obtain ⟨m, hm, rfl, HO, HB, HB2⟩ := hrel
    by_cases hlt : m < L.length
    · obtain ⟨b2, o2, rfl, hle2, hb2, d0, d1, d2⟩ := step_cells (HR.out.later HB2.out) hlt
      have HY := Lib.hid (fun hk => selS_yes (k := k) hlt hk)
      have HN := Lib.hid (fun hk => selS_no (k := k) hlt hk)
      have hsl := selS_len k (L.take m)
      rw [List.length_take] at hsl
      generalize L[m] = x at *
      obtain ⟨xk, xn, xs⟩ := x
      simp only at *
      obtain ⟨l, hl⟩ : ∃ l, l = selS k (L.take m) := ⟨_, rfl⟩
      rw [← hl] at HO HY HN hsl
      clear hl
      have hsz := HB.out.size
      have hsz2 := HB2.out.size
      have HXA : Hid ((wr.alloc (.cells #[.int .i64 xk, .int .i64 xn, .string xs] 37)).heap[wr.heap.size]? = some (.cells #[.int .i64 xk, .int .i64 xn, .string xs] 37 (0, 0))) := heap_alloc_new _ _
      have HBA : Hid (RowKit.Below w.heap.size w (wr.alloc (.cells #[.int .i64 xk, .int .i64 xn, .string xs] 37))) := HB.out.alloc hsz _
      have HBA2 : Hid (RowKit.Below w1.heap.size w1 (wr.alloc (.cells #[.int .i64 xk, .int .i64 xn, .string xs] 37))) := HB2.out.alloc hsz2 _
      have HOA : Hid ((wr.alloc (.cells #[.int .i64 xk, .int .i64 xn, .string xs] 37)).ownsRow w1.heap.size 9 1 u5 l.length (l.map Value.string)) := HO.out.alloc _
      by_cases hk : xk = k
      · subst hk
        have HY2 := Lib.hid (HY.out rfl)
        go_upto_region 5 with fail
        generalize wr.alloc (.cells #[.int .i64 xk, .int .i64 xn, .string xs] 37) = wa at *
        clear d0 d1 d2
        have y0 := cellAt HXA.out 0 rfl
        have y2 := cellAt HXA.out 2 rfl
        have hsa := HBA.out.size
        have hsa2 := HBA2.out.size
        go_wp2_with (
          refine wpList_wide elemStr rfl rfl (base := w1.heap.size) (by simp; omega) (n := l.length) (xs := l.map Value.string) rfl (HOA.out.alloc _) (y := .slice (some ⟨wa.heap.size, 0, none⟩) 1 1) (m := 1) (news := [.string xs]) rfl (reads_one wa _ _) (one_of rfl) (by unfold maxLen; omega) (by omega) ?_
          intro v5 w5 hr5 hg5)
        go_roundw
        case rel =>
          refine ⟨m + 1, by omega, by go_num, ?_, (HBA.out.alloc hsa _).grown hg5 (by simp; omega) (fun k hk => Nat.le_trans hs01 (HOA.out.lt k hk).1), (HBA2.out.alloc hsa2 _).grown hg5 (by simp; omega) (fun k hk => (HOA.out.lt k hk).1)⟩
          rw [HY2.out, List.length_append, List.map_append]; exact hr5
        case measure => simp [RowKit.intOf]; omega
      · have hke : (xk == k) = false := by simpa using hk
        have HN2 := Lib.hid (HN.out hk)
        go_upto_region 5 with fail
        generalize wr.alloc (.cells #[.int .i64 xk, .int .i64 xn, .string xs] 37) = wa at *
        clear d0 d1 d2
        have y0 := cellAt HXA.out 0 rfl
        have y2 := cellAt HXA.out 2 rfl
        have hsa := HBA.out.size
        have hsa2 := HBA2.out.size
        go_wp2
        go_roundw
        case rel => exact ⟨m + 1, by omega, by go_num, by rw [HN2.out]; exact HOA, HBA, HBA2⟩
        case measure => simp [RowKit.intOf]; omega
    · obtain rfl : m = L.length := by omega
      rw [List.take_length] at HO
      have hlk := selS_len k L
      have hlb : (bytesS (selS k L)).length = (selS k L).length := List.length_map _
      have HSC := Lib.hid (sort_compactS u5 (bytesS (selS k L)) wr w1.heap.size (by rw [hlb, bytesS_enc]; exact HO.out) (by omega) HB2.out.size)
      go_wp2_with fail
      refine HSC.out.mono ?_
      rintro e w2 ⟨rfl, hb2, hcall⟩
      have HC := Lib.hid hcall
      have HB2 := Lib.hid (HB.out.trans (hb2.mono hs01))
      clear hcall hb2 hlb hlk
      go_wp2_with fail
      refine HC.out.mono ?_
      rintro e w3 ⟨v', rfl, hr3, hb3⟩
      have HR3 := Lib.hid hr3
      have HB3 := Lib.hid (HB2.out.trans (hb3.mono hs01))
      clear hr3 hb3
      go_wp2
      go_ret
      exact ⟨_, rfl, HR3.out, HB3.out⟩
end Go.Proofs.YtccnmoicckjfbaaGreatDoor
