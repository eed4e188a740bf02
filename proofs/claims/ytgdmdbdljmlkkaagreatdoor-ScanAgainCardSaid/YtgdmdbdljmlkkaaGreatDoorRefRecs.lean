/- segment.Gap of the numbers of segments that lie without a gap.
The reference's Split: the records at the beginning of bytes.
The reference's Records, of a disk whose files are just segments.
The reference's Records, of any disk. -/
import Derived.Test.YtgdmdbdljmlkkaaGreatDoorSegList
import Derived.Test.YtgdmdbdljmlkkaaGreatDoorWRecs
import Derived.Test.YtgdmdbdljmlkkaaGreatDoorSplit
import Derived.Test.YtgdmdbdljmlkkaaGreatDoorDConcat
import Derived.Test.YtgdmdbdljmlkkaaGreatDoorRefNext
import Derived.Test.YtgdmdbdljmlkkaaGreatDoorRefLog
import Derived.Test.YtgdmdbdljmlkkaaGreatDoorRuns
namespace Go.Proofs.YtgdmdbdljmlkkaaGreatDoor
set_option linter.unusedVariables false
set_option linter.unusedSimpArgs false
open Go.RowKit Go.Lib

set_option maxRecDepth 100000 in
set_option maxHeartbeats 1000000 in
theorem iclone_any (ao : Option Addr) (c : Nat) (l : List Int) (w : World) (h : Reads w (.slice ao l.length c) l.length 1 (ints l)) (hn : l.length ≤ 2000000000) :
    Calls Tryz.prog 165 #[.slice ao l.length c] w fun e w' => ∃ v', e = .returned v' ∧ w'.ownsRow w.heap.size 3 1 v' l.length (ints l) ∧ Below w.heap.size w w' := by
  cases ao with
  | none =>
    obtain ⟨hl, _, _, he, _, hnn, _⟩ := h
    cases he
    obtain ⟨hl0, rfl⟩ := hnn rfl
    obtain rfl : l = [] := List.eq_nil_of_length_eq_zero hl0
    have he : (binOp .eql 40 (.slice none 0 0) (.slice none 0 0)).run Tryz.prog w = .ok (.bool true) w := by kernel_rfl
    go_enter Tryz.func165, Tryz.ntmps165
    go_wp2
    go_ret
    exact ⟨_, rfl, World.ownsRow_nil _ _ _ _, Below.refl _ _⟩
  | some ad =>
    have he : ∀ W, (binOp .eql 40 (.slice (some ad) l.length c) (.slice none 0 0)).run Tryz.prog W = .ok (.bool false) W := fun W => Lib.run_eql_slice_nil W _ _ (some ad) l.length c 0 0 Tryz.underlying40
    have H := Lib.hid h
    have H1 : Hid (∀ u ∈ ints l, u.oneCell' = true) := fun u hu => by
      obtain ⟨x, -, rfl⟩ := List.mem_map.1 hu
      rfl
    clear h
    go_enter Tryz.func165, Tryz.ntmps165
    go_wp2_with (at_builtin; refine wpList_app elemInt rfl rfl (v := .slice (some ⟨w.heap.size, 0, none⟩) 0 0) (n := 0) (xs := []) rfl (base := w.heap.size) (owns_empty _ _ _ _ (Nat.le_refl _) rfl) (y := .slice (some ad) l.length c) (m := l.length) (news := ints l) rfl (H.out.later ((Below.refl _ _).alloc (Nat.le_refl _) _)) H1.out (by unfold maxLen; omega) (by omega) (by simp) ?_; intro v' w' hr hg _)
    go_ret
    refine ⟨_, rfl, ?_, ?_⟩
    · rw [Nat.zero_add, List.nil_append] at hr
      exact hr
    · exact ((Below.refl _ _).alloc (Nat.le_refl _) _).grown hg (by simp) (fun k hk => by cases hk; exact Nat.le_refl _)

theorem isort_any (v : Value) (l : List Int) (w : World) (base : Nat) (hown : w.ownsRow base 3 1 v l.length (ints l)) (hs : l.length ≤ 1000) (hbase : base ≤ w.heap.size) :
    Calls Tryz.prog 114 #[v] w fun e w1 => e = .returned (.tuple #[]) ∧ Below base w w1 ∧ Reads w1 v l.length 1 (ints (sortL l)) := by
  rcases hown.2 with ⟨rfl, hn⟩ | ⟨g, cap, cur, rfl, hbg, hg, hnc, hcm, hcs, htk⟩
  · obtain rfl : l = [] := List.eq_nil_of_length_eq_zero hn
    refine (Tryz.slices_Sort_int_none none 0 w).mono ?_
    rintro e w1 ⟨rfl, rfl⟩
    refine ⟨rfl, Below.refl _ _, ?_⟩
    have e0 : sortL [] = [] := by simp [sortL]
    rw [e0]
    exact Reads.nil _ _
  · have hgl := (Array.getElem?_eq_some_iff.1 hg).1
    have hlen : (sortL l).length = l.length := List.length_mergeSort _
    refine (Tryz.slices_Sort_int g 0 cap l w (Go.holds_of_blockI hg (by rw [Nat.mul_one] at htk; exact htk)) hgl (by omega)).mono ?_
    rintro e w1 ⟨rfl, n, os, hw1⟩
    have hown1 : w1.ownsRow base 3 1 (.slice (some ⟨g, 0, none⟩) l.length cap) l.length (ints (sortL l)) := by
      rw [hw1]; exact Go.ownsRow_sortedI hlen hbg hg hnc hcm hcs
    have hgr1 : w.grownBy w1 (some g) := by rw [hw1]; exact Go.grownBy_sortedI _
    exact ⟨rfl, (Below.refl _ _).grown hgr1 hbase (fun k hk => by cases hk; exact hbg), reads_of_owns hown1⟩

theorem sort_upto (i n : Nat) : sortL (upto i n) = upto i n := by
  unfold sortL
  refine List.mergeSort_of_pairwise ?_
  unfold upto
  rw [List.pairwise_map]
  exact (List.pairwise_lt_range (n := n)).imp (fun h => by simp; omega)

theorem upto_get (i : Nat) {n k : Nat} (h : k < n) : (upto i n)[k]? = some ((i + k + 1 : Nat) : Int) := by
  unfold upto
  rw [List.getElem?_map, List.getElem?_range h]; rfl

set_option maxRecDepth 100000 in
set_option maxHeartbeats 2000000 in
theorem gap_any (i n : Nat) (v : Value) (w : World) (h : Reads w v n 1 (ints (upto i n))) (hn : n ≤ 1000) (hi : i ≤ 1000000000) :
    Calls Tryz.prog 129 #[v] w fun e w' => e = .returned (.int .i64 0) ∧ Below w.heap.size w w' := by
  obtain ⟨-, ao, c, rfl, -⟩ := id h
  have HCL := Lib.hid (iclone_any ao c (upto i n) w (by rw [upto_length]; exact h) (by rw [upto_length]; omega))
  rw [upto_length] at HCL
  clear h
  go_enter Tryz.func129, Tryz.ntmps129
  go_wp2_with fail
  refine HCL.out.mono ?_
  rintro e w1 ⟨v1, rfl, hown1, hb1⟩
  have HSO := Lib.hid (isort_any v1 (upto i n) w1 w.heap.size (by rw [upto_length]; exact hown1) (by rw [upto_length]; omega) hb1.size)
  rw [sort_upto, upto_length] at HSO
  have HB1 := Lib.hid hb1
  obtain ⟨a1, c1, hv1⟩ : ∃ a c, v1 = .slice a n c := by
    obtain ⟨-, a, c, hv, -⟩ := reads_of_owns hown1
    exact ⟨a, c, hv⟩
  subst hv1
  clear hown1 hb1 HCL
  go_wp2_with fail
  refine HSO.out.mono ?_
  rintro e w2 ⟨rfl, hb2, hr2⟩
  have HB2 := Lib.hid (HB1.out.trans hb2)
  have HR2 := Lib.hid hr2
  clear hb2 hr2 HSO HB1
  obtain ⟨m, hm⟩ : ∃ m : Nat, m = n - 1 := ⟨_, rfl⟩
  have hmx : max ((n : Int) - 1) 0 = (m : Int) := by omega
  go_wp2_with fail
  go_loopw [3, 4, 13] (fun _ _ i w' => ∃ k : Nat, k ≤ m ∧ i = .int .i64 k ∧ w' = w2) (fun _ _ i _ => m - (RowKit.intOf i).toNat)
  case atStart => exact ⟨0, by omega, rfl, rfl⟩
  case round =>
    obtain ⟨k, hk, rfl, rfl⟩ := hrel
    by_cases hlt : k < m
    · obtain ⟨b, o, c', hv, hle, hb, hc⟩ := HR2.out.at (by omega)
      obtain ⟨rfl, rfl⟩ : a1 = some ⟨b, o, none⟩ ∧ c1 = c' := by cases hv; exact ⟨rfl, rfl⟩
      have hc1 : wr.cell? ⟨b, o + k, none⟩ = some (.int .i64 ((i + k + 1 : Nat) : Int)) := hc k _ (by show (ints (upto i n))[k]? = _; unfold ints; rw [List.getElem?_map, upto_get i (by omega)]; rfl)
      have hc2 : wr.cell? ⟨b, o + (k + 1), none⟩ = some (.int .i64 ((i + (k + 1) + 1 : Nat) : Int)) := hc (k + 1) _ (by show (ints (upto i n))[k + 1]? = _; unfold ints; rw [List.getElem?_map, upto_get i (by omega)]; rfl)
      clear hc hv
      have e1 : (((i + k + 1 : Nat) : Int) + 1 : Int) = ((i + (k + 1) + 1 : Nat) : Int) := by omega
      rw [← e1] at hc2
      have hn1 : ((i + k + 1 : Nat) : Int) ≤ 2000000000 := by omega
      have hn0 : (0 : Int) ≤ ((i + k + 1 : Nat) : Int) := by omega
      have hk1 : (k : Int) + 1 < (n : Int) := by omega
      have hk2 : (k : Int) < (n : Int) := by omega
      have hn3 : k + 1 < n := by omega
      generalize ((i + k + 1 : Nat) : Int) = nn at *
      clear hmx hm e1
      go_wp2
      go_roundw
      case rel => exact ⟨k + 1, by omega, by go_num, trivial⟩
      case measure => simp [RowKit.intOf]; omega
    · obtain rfl : k = m := by omega
      go_wp2
      go_ret
      exact ⟨rfl, HB2.out⟩
end Go.Proofs.YtgdmdbdljmlkkaaGreatDoor
namespace Go.Proofs.YtgdmdbdljmlkkaaGreatDoor
set_option linter.unusedVariables false
set_option linter.unusedSimpArgs false
open Go.RowKit

def SplitR (ba : Option Addr) (bc : Nat) (w : World) (l : List UInt8) : Ending → World → Prop := fun e w' => ∃ (v : Value) (X : List SL), e = .returned (.tuple #[v, .int .i64 (splitB l).2]) ∧ Row w' 72 1 v X.length (X.map SL.v) (fun k => w.heap.size ≤ k) ∧ (∀ x ∈ X, (∃ a c, x.v = .slice a x.l.length c) ∧ ∀ W, Reads W (.slice ba l.length bc) l.length 1 (byts l) → Reads W x.v x.l.length 1 (byts x.l)) ∧ X.map SL.l = (splitB l).1 ∧ 8 * X.length ≤ l.length ∧ Below w.heap.size w w'

set_option maxRecDepth 100000 in
set_option maxHeartbeats 2000000 in
theorem rsplit_any (ba : Option Addr) (bc : Nat) (l : List UInt8) (w : World) (h : Reads w (.slice ba l.length bc) l.length 1 (byts l)) (hl : l.length ≤ 100000) (hba : (ba = none ∧ bc = 0) ∨ ∃ g o, ba = some ⟨g, o, none⟩) :
    Calls Tryz.prog 69 #[.slice ba l.length bc] w (SplitR ba bc w l) := by
  have HR := Lib.hid h
  have hcap : l.length ≤ bc := by obtain ⟨_, ao, c, hv, hle, _⟩ := h; cases hv; exact hle
  have HBA := Lib.hid hba
  have HEN : Hid (∀ (v : Value) (X : List SL) w', Row w' 72 1 v X.length (X.map SL.v) (fun k => w.heap.size ≤ k) → (∀ x ∈ X, (∃ a c, x.v = .slice a x.l.length c) ∧ ∀ W, Reads W (.slice ba l.length bc) l.length 1 (byts l) → Reads W x.v x.l.length 1 (byts x.l)) → X.map SL.l = (splitB l).1 → 8 * X.length ≤ l.length → Below w.heap.size w w' → SplitR ba bc w l (.returned (.tuple #[v, .int .i64 (splitB l).2])) w') := fun v X w' h1 h2 h3 h4 h5 => ⟨v, X, rfl, h1, h2, h3, h4, h5⟩
  obtain ⟨Q, hQ⟩ : ∃ Q, Q = SplitR ba bc w l := ⟨_, rfl⟩
  rw [← hQ] at HEN ⊢
  clear h hba hQ
  go_enter Tryz.func69, Tryz.ntmps69
  go_wp2_with fail
  go_loopw [4, 5] (fun out at_ w' => ∃ (X : List SL) (k : Nat), at_ = .int .i64 k ∧ k ≤ l.length ∧ 8 * X.length ≤ k ∧ Hid (Row w' 72 1 out X.length (X.map SL.v) (fun k => w.heap.size ≤ k)) ∧ Hid (∀ x ∈ X, (∃ a c, x.v = .slice a x.l.length c) ∧ ∀ W, Reads W (.slice ba l.length bc) l.length 1 (byts l) → Reads W x.v x.l.length 1 (byts x.l)) ∧ Hid (splitB l = (X.map SL.l ++ (splitB (l.drop k)).1, k + (splitB (l.drop k)).2)) ∧ Hid (Below w.heap.size w w')) (fun _ at_ _ => l.length - (RowKit.intOf at_).toNat)
  case atStart => exact ⟨[], 0, rfl, by omega, by simp, Row.nil _ _ _ _, by simp [Hid], by simp [Hid], Below.refl _ _⟩
  case round =>
    obtain ⟨X, k, rfl, hk, hxk, HO, HX, HS, HB⟩ := hrel
    rcases HBA.out with ⟨rfl, rfl⟩ | ⟨g, o, rfl⟩
    · obtain rfl : l = [] := List.eq_nil_of_length_eq_zero (by omega)
      obtain rfl : k = 0 := by simpa using hk
      obtain rfl : X = [] := List.eq_nil_of_length_eq_zero (by omega)
      have HN := Lib.hid (rnext_any none 0 [] wr (Reads.nil _ _) (by simp))
      rw [nextB_nil] at HN
      simp only [List.length_nil] at *
      go_wp2_with fail
      refine HN.out.mono ?_
      rintro e w2 ⟨xv, nv, rfl, ⟨rfl, rfl⟩, hb2⟩
      have hsn : splitB [] = ([], 0) := splitB_none nextB_nil
      have HQ1 : Hid (Q (.returned (.tuple #[u4, .int .i64 0])) w2) := by
        have := HEN.out u4 [] w2 (HO.out.frame (fun k _ hk => hb2.block k hk)) HX.out (by rw [hsn]; rfl) (by simp) (HB.out.trans (hb2.mono HB.out.size))
        rwa [hsn] at this
      clear hb2 HN hsn
      go_wp2
      exact HQ1.out
    · by_cases hbk : bc = k
      · have hlk : l.length = k := by omega
        have hdr : l.drop k = [] := List.drop_eq_nil_of_le (by omega)
        rw [hdr, splitB_none nextB_nil] at HS
        have HN := Lib.hid (rnext_any (some ⟨g, o, none⟩) 0 [] wr ⟨by simp [byts], _, 0, rfl, Nat.le_refl _, (fun h => by cases h), fun ad had j u hu => by simp [byts] at hu⟩ (by simp))
        rw [nextB_nil] at HN
        simp only [List.length_nil] at HN
        rw [hlk] at HR hcap ⊢
        subst hbk
        go_wp2_with fail
        refine HN.out.mono ?_
        rintro e w2 ⟨xv, nv, rfl, ⟨rfl, rfl⟩, hb2⟩
        have HQ1 : Hid (Q (.returned (.tuple #[u4, .int .i64 bc])) w2) := by
          have := HEN.out u4 X w2 (HO.out.frame (fun k _ hk => hb2.block k hk)) HX.out (by rw [HS.out, List.append_nil]) (by omega) (HB.out.trans (hb2.mono HB.out.size))
          rw [HS.out] at this
          exact this
        clear hb2 HN
        go_wp2
        exact HQ1.out
      · have hdl : (l.drop k).length = l.length - k := List.length_drop
        have hrd : Reads wr (.slice (some ⟨g, o + k, none⟩) (l.drop k).length (bc - k)) (l.drop k).length 1 (byts (l.drop k)) := by
          have := (HR.out.later HB.out).drop k hk (some ⟨g, o + k, none⟩) (fun _ => rfl) (by simp)
          rw [hdl]
          unfold byts at this ⊢
          rwa [List.map_drop]
        have HRW : Hid (∀ (v : Value) n (xs : List Value), Reads wr v n 1 xs → (∃ a c, v = .slice a n c) → True) := fun _ _ _ _ _ => trivial
        have hn := rnext_any (some ⟨g, o + k, none⟩) (bc - k) (l.drop k) wr hrd (by omega)
        rw [hdl] at hn
        have HN := Lib.hid hn
        have hki : (k : Int) ≤ (l.length : Int) := by omega
        have hkc : (k : Int) ≤ (bc : Int) := by omega
        clear hn hrd HRW
        cases hnb : nextB (l.drop k) with
        | none =>
          rw [hnb] at HN
          rw [splitB_none hnb] at HS
          go_wp2_with fail
          refine HN.out.mono ?_
          rintro e w2 ⟨xv, nv, rfl, ⟨rfl, rfl⟩, hb2⟩
          have HQ1 : Hid (Q (.returned (.tuple #[u4, .int .i64 k])) w2) := by
            have := HEN.out u4 X w2 (HO.out.frame (fun k _ hk => hb2.block k hk)) HX.out (by rw [HS.out, List.append_nil]) (by omega) (HB.out.trans (hb2.mono HB.out.size))
            rw [HS.out] at this
            exact this
          clear hb2 HN hnb
          go_wp2
          exact HQ1.out
        | some p =>
          obtain ⟨x, n⟩ := p
          rw [hnb] at HN
          have hpos := nextB_pos hnb
          rw [hdl] at hpos
          have hss := splitB_some hnb
          rw [List.drop_drop] at hss
          have HS2 : Hid (∀ y : SL, y.l = x → splitB l = ((X ++ [y]).map SL.l ++ (splitB (l.drop (k + n))).1, k + n + (splitB (l.drop (k + n))).2)) := by
            intro y hy
            rw [HS.out, hss, List.map_append]
            simp [hy, Nat.add_assoc]
          have HDL := Lib.hid hdl
          clear hnb hss HS hdl
          go_wp2_with fail
          refine HN.out.mono ?_
          rintro e w2 ⟨xv, nv, rfl, ⟨⟨xa, xc, rfl⟩, rfl, hrx⟩, hb2⟩
          have HB2 := Lib.hid (HB.out.trans (hb2.mono HB.out.size))
          have HO2 := Lib.hid (HO.out.frame (fun k _ hk => hb2.block k hk))
          have HRX : Hid (∀ W, Reads W (.slice (some ⟨g, o, none⟩) l.length bc) l.length 1 (byts l) → Reads W (.slice xa x.length xc) x.length 1 (byts x)) := by
            intro W hW
            refine hrx W ?_
            have := hW.drop k hk (some ⟨g, o + k, none⟩) (fun _ => rfl) (by simp)
            rw [HDL.out]
            unfold byts at this ⊢
            rwa [List.map_drop]
          have hs2 := HB2.out.size
          have hne : ((n : Int) == 0) = false := by simp; omega
          have hne2 : decide (n = 0) = false := by simp; omega
          clear hb2 hrx HN HO HB
          go_wp2_with (
            refine wpList_row elemRec rfl rfl (S := fun k => w.heap.size ≤ k) (n := X.length) (xs := X.map SL.v) rfl (HO2.out.frame (fun k _ hk => Below.heap_alloc _ _ _ hk)) (y := .slice (some ⟨w2.heap.size, 0, none⟩) 1 1) (m := 1) (news := [.slice xa x.length xc]) rfl (reads_one w2 _ _) (one_of rfl) (by unfold maxLen; omega) (by omega) ?_
            intro v5 w5 hr5 hc5)
          have HB5 := Lib.hid ((HB2.out.alloc hs2 (.cells #[.slice xa x.length xc] 72)).trans (hc5.toBelow (by simp; omega) (fun n hn h => by omega)))
          have HO5 : Hid (Row w5 72 1 v5 (X ++ [(⟨.slice xa x.length xc, x⟩ : SL)]).length ((X ++ [(⟨.slice xa x.length xc, x⟩ : SL)]).map SL.v) (fun k => w.heap.size ≤ k)) := by
            rw [Hid, List.length_append, List.map_append]
            exact hr5.mono (fun k hk => by rcases hk with h | h; exact h; simp only [World.size_alloc] at h; omega)
          have HX5 : Hid (∀ y ∈ X ++ [(⟨.slice xa x.length xc, x⟩ : SL)], (∃ a c, y.v = .slice a y.l.length c) ∧ ∀ W, Reads W (.slice (some ⟨g, o, none⟩) l.length bc) l.length 1 (byts l) → Reads W y.v y.l.length 1 (byts y.l)) := by
            intro y hy
            rcases List.mem_append.1 hy with hy | hy
            · exact HX.out y hy
            · rw [List.mem_singleton.1 hy]; exact ⟨⟨xa, xc, rfl⟩, HRX.out⟩
          have HS5 := Lib.hid (HS2.out ⟨.slice xa x.length xc, x⟩ rfl)
          clear hr5 hc5 HO2 HB2 HX HS2 HRX
          go_wp2
          go_roundw
          case rel => exact ⟨X ++ [(⟨.slice xa x.length xc, x⟩ : SL)], k + n, by go_num, by omega, by simp; omega, HO5, HX5, HS5, HB5⟩
          case measure => simp [RowKit.intOf]; omega
end Go.Proofs.YtgdmdbdljmlkkaaGreatDoor
namespace Go.Proofs.YtgdmdbdljmlkkaaGreatDoor
set_option linter.unusedVariables false
set_option linter.unusedSimpArgs false
open Go.RowKit

theorem namesR_V (R : List RF) : namesR R = strsV (R.map fun r => r.f.name) := by
  unfold namesR strsV; rw [List.map_map]; rfl
theorem row_form {w : World} {e : TypeId} {v : Value} {n : Nat} {xs : List Value} {S : Nat → Prop} {a : Option Addr} {c : Nat} (h : Row w e 1 v n xs S) (hv : v = .slice a n c) : (a = none ∧ c = 0) ∨ ∃ g o, a = some ⟨g, o, none⟩ := by
  rcases h.2 with ⟨h1, h2⟩ | ⟨g, off, cap, cur, h1, -⟩
  · rw [hv] at h1
    simp only [Value.slice.injEq] at h1
    exact .inl ⟨h1.1, h1.2.2⟩
  · rw [hv] at h1
    simp only [Value.slice.injEq] at h1
    exact .inr ⟨g, off, h1.1⟩
/-- The file of a segment. -/
theorem posR_seg {R : List RF} {i n : Nat} (hn : i + n ≤ 99999999) (h : R.map (fun r => r.f.name) = namesN i n) {k : Nat} (hk : k < R.length) : posR R (nameI ((i + k + 1 : Nat) : Int)) = (k : Int) := by
  have hl : R.length = n := by have := congrArg List.length h; simpa [namesN_length] using this
  have hat : ∀ j (hj : j < R.length), R[j].f.name = nameI ((i + j + 1 : Nat) : Int) := fun j hj => by
    have e : (R.map (fun r => r.f.name))[j]? = (namesN i n)[j]? := by rw [h]
    rw [List.getElem?_map, List.getElem?_eq_getElem hj] at e
    unfold namesN at e
    rw [List.getElem?_map, List.getElem?_range (by omega)] at e
    simpa using e
  refine posR_hit hk (hat k hk) (fun j hj => ?_)
  rw [hat j (by omega)]
  exact nameI_ne (by omega) (by omega) (by omega)

def RRecP (w : World) (R : List RF) : Ending → World → Prop := fun e w' => ∃ (v : Value) (X : List SL), e = .returned v ∧ Row w' 72 1 v X.length (X.map SL.v) (fun k => w.heap.size ≤ k) ∧ (∀ x ∈ X, (∃ a c, x.v = .slice a x.l.length c) ∧ Reads w x.v x.l.length 1 (byts x.l)) ∧ X.map SL.l = R.flatMap (fun r => (splitB r.f.b).1) ∧ X.length ≤ 20000000 ∧ Below w.heap.size w w'

set_option maxRecDepth 100000 in
set_option maxHeartbeats 4000000 in
theorem rrecords_any (room plan : Int) (down : Bool) (v : Value) (R : List RF) (T : Nat → Prop) (w : World) (h : RLi w v R T) (i : Nat) (hl : R.length ≤ 1000) (hi : i ≤ 1000) (hnm : R.map (fun r => r.f.name) = namesN i R.length) (hb : ∀ r ∈ R, r.f.b.length ≤ 100000) :
    Calls Tryz.prog 23 #[rdisk room v plan down] w (RRecP w R) := by
  obtain ⟨la, lc, rfl⟩ := slice_form h.row
  have HN := Lib.hid (fun (w' : World) (hb : Below w.heap.size w w') => rnames_any room plan down (.slice la R.length lc) R T w' (h.below hb) (by omega))
  have HFD := Lib.hid (fun (n : ByteArray) (w' : World) (hb : Below w.heap.size w w') => rfind_any room plan down (.slice la R.length lc) R T n w' (h.below hb) (by omega))
  have HR := Lib.hid h
  have hrf : refL (R.map fun r => r.f.name) = upto i R.length := by rw [hnm, refL_names (by omega)]
  have HPOS := Lib.hid (fun (k : Nat) (hk : k < R.length) => posR_seg (R := R) (i := i) (n := R.length) (by omega) hnm hk)
  have HBL := Lib.hid hb
  unfold rdisk at HN HFD ⊢
  have HBX : Hid ((w.alloc (.cells #[.int .i64 room, .slice la R.length lc, .int .i64 plan, .bool down] 32)).heap[w.heap.size]? = some (.cells #[.int .i64 room, .slice la R.length lc, .int .i64 plan, .bool down] 32 (0, 0))) := heap_alloc_new w _
  have HBW : Hid (Below w.heap.size w (w.alloc (.cells #[.int .i64 room, .slice la R.length lc, .int .i64 plan, .bool down] 32))) := (Below.refl _ _).alloc (Nat.le_refl _) _
  clear h hnm hb
  go_enter Tryz.func23, Tryz.ntmps23
  go_upto_region 1 with fail
  generalize w.alloc (.cells #[.int .i64 room, .slice la R.length lc, .int .i64 plan, .bool down] 32) = wa at *
  obtain ⟨x0, x1, x2, x3⟩ := cells4 HBX.out
  go_wp2_with fail
  refine (HN.out wa HBW.out).mono ?_
  rintro e w1 ⟨v1, rfl, hr1, hb1⟩
  have hls := refList_any v1 (R.map fun r => r.f.name) w1 (by rw [← namesR_V, List.length_map]; exact hr1.reads) (by rw [List.length_map]; omega)
  rw [hrf, upto_length] at hls
  have HLS := Lib.hid hls
  have HB1 := Lib.hid (HBW.out.trans (hb1.mono HBW.out.size))
  have HX1 := Lib.hid ((hb1.block _ (lt_of_heap HBX.out)).trans HBX.out)
  clear hr1 hb1 hls HN HBX HBW x0 x1 x2 x3 hrf
  go_wp2_with fail
  refine HLS.out.mono ?_
  rintro e w2 ⟨v2, rfl, hr2, hb2⟩
  have hrd2 := reads_of_owns hr2
  obtain ⟨-, va, vc, hv2, -⟩ := id hrd2
  subst hv2
  have HR2 := Lib.hid hrd2
  have HB2 := Lib.hid (HB1.out.trans (hb2.mono HB1.out.size))
  have HX2 := Lib.hid ((hb2.block _ (lt_of_heap HX1.out)).trans HX1.out)
  clear hr2 hrd2 hb2 HLS HB1 HX1
  go_wp2_with fail
  go_loopw [4, 5] (fun out iv w' => ∃ (k : Nat) (X : List SL), k ≤ R.length ∧ iv = .int .i64 k ∧ Hid (Row w' 72 1 out X.length (X.map SL.v) (fun k => w2.heap.size ≤ k)) ∧ Hid (∀ x ∈ X, (∃ a c, x.v = .slice a x.l.length c) ∧ Reads w x.v x.l.length 1 (byts x.l)) ∧ Hid (X.map SL.l = (R.take k).flatMap (fun r => (splitB r.f.b).1)) ∧ X.length ≤ 12500 * k ∧ Hid (Below w2.heap.size w2 w')) (fun _ iv _ => R.length - (RowKit.intOf iv).toNat)
  case atStart => exact ⟨0, [], by omega, rfl, Row.nil _ _ _ _, by simp [Hid], by simp [Hid], by simp, Below.refl _ _⟩
  case round =>
    obtain ⟨k, X, hk, rfl, HO, HX, HE, hxl, HB⟩ := hrel
    have HBW := Lib.hid (HB2.out.trans (HB.out.mono HB2.out.size))
    by_cases hlt : k < R.length
    · obtain ⟨b, o, c', hv, hle, hbk, hc⟩ := (HR2.out.later HB.out).at (by omega)
      obtain ⟨rfl, rfl⟩ : va = some ⟨b, o, none⟩ ∧ vc = c' := by cases hv; exact ⟨rfl, rfl⟩
      have hck : wr.cell? ⟨b, o + k, none⟩ = some (.int .i64 ((i + k + 1 : Nat) : Int)) := hc k _ (by simp [upto, hlt])
      have hpos := HPOS.out k hlt
      have HEN : Hid ((R.take (k + 1)).flatMap (fun r => (splitB r.f.b).1) = (R.take k).flatMap (fun r => (splitB r.f.b).1) ++ (splitB R[k].f.b).1) := by rw [Hid, List.take_succ_eq_append_getElem hlt, List.flatMap_append]; simp
      obtain ⟨lb, lo, lcc, hlv, hlle, hlb, hlc⟩ := RLi.cells (HR.out.below HBW.out) (by omega)
      obtain ⟨rfl, rfl⟩ : la = some ⟨lb, lo, none⟩ ∧ lc = lcc := by cases hlv; exact ⟨rfl, rfl⟩
      have hl1 := (hlc k hlt).2.1
      have hok := (HR.out.byt R[k] (List.getElem_mem hlt))
      have hbl := HBL.out R[k] (List.getElem_mem hlt)
      have hform := row_form hok.1 rfl
      have HSPL := Lib.hid (fun (w' : World) (hb : Below w.heap.size w w') => rsplit_any R[k].a R[k].c R[k].f.b w' (hok.1.reads.later hb) hbl hform)
      have HRB : Hid (Reads w (.slice R[k].a R[k].f.b.length R[k].c) R[k].f.b.length 1 (byts R[k].f.b)) := hok.1.reads
      have HX3 := Lib.hid ((HB.out.block _ (lt_of_heap HX2.out)).trans HX2.out)
      have HK : Hid (∀ w', Hid (Below wr.heap.size wr w') → (w'.cell? ⟨w.heap.size, 0, none⟩ = some (.int .i64 room) ∧ w'.cell? ⟨w.heap.size, 1, none⟩ = some (.slice (some ⟨lb, lo, none⟩) R.length lc) ∧ w'.cell? ⟨w.heap.size, 2, none⟩ = some (.int .i64 plan) ∧ w'.cell? ⟨w.heap.size, 3, none⟩ = some (.bool down)) ∧ w'.cell? ⟨lb, lo + k * 3 + 1, none⟩ = some (.slice R[k].a R[k].f.b.length R[k].c)) := fun w' hb => by
        have hx := (hb.out.block _ (lt_of_heap HX3.out)).trans HX3.out
        have hl := (HR.out.below (HBW.out.trans (hb.out.mono HBW.out.size))).cells (by omega)
        obtain ⟨lb', lo', lcc', hlv', -, -, hlc'⟩ := hl
        obtain ⟨rfl, rfl, rfl⟩ : lb' = lb ∧ lo' = lo ∧ lcc' = lc := by cases hlv'; exact ⟨rfl, rfl, rfl⟩
        exact ⟨cells4 hx, by exact (hlc' k hlt).2.1⟩
      generalize R[k].a = fa at *
      generalize R[k].c = fc at *
      generalize R[k].f.b = fb at *
      generalize ((i + k + 1 : Nat) : Int) = nn at *
      clear hv hc hlv hlc hok hform
      obtain ⟨y0, y1, y2, y3⟩ := cells4 HX3.out
      go_wp2_with fail
      refine (refName_any nn _).mono ?_
      rintro e w3 ⟨rfl, rfl⟩
      have HBW3 := Lib.hid HBW.out
      have HFD2 : Hid (∀ w', Hid (Below wr.heap.size wr w') → Calls Tryz.prog 70 #[.agg #[.int .i64 room, .slice (some ⟨lb, lo, none⟩) R.length lc, .int .i64 plan, .bool down], .string (nameI nn)] w' fun e w'' => e = .returned (.int .i64 k) ∧ Below w'.heap.size w' w'') := fun w' hb => by
        have := HFD.out (nameI nn) w' (HBW3.out.trans (hb.out.mono HBW3.out.size))
        rwa [hpos] at this
      have HSP2 : Hid (∀ w', Hid (Below wr.heap.size wr w') → Calls Tryz.prog 69 #[.slice fa fb.length fc] w' (SplitR fa fc w' fb)) := fun w' hb => HSPL.out w' (HBW3.out.trans (hb.out.mono HBW3.out.size))
      have HB00 : Hid (Below wr.heap.size wr wr.drew) := (Below.refl _ _).drew
      have hk0 : (0 : Int) ≤ (k : Int) := by omega
      have hk1 : (k : Int) < (R.length : Int) := by omega
      clear hpos hl1 HSPL HR2 HX3 hlb
      go_upto_region 7 with fail
      go_region_held3 (fun w' => (w'.cell? ⟨w.heap.size, 0, none⟩ = some (.int .i64 room) ∧ w'.cell? ⟨w.heap.size, 1, none⟩ = some (.slice (some ⟨lb, lo, none⟩) R.length lc) ∧ w'.cell? ⟨w.heap.size, 2, none⟩ = some (.int .i64 plan) ∧ w'.cell? ⟨w.heap.size, 3, none⟩ = some (.bool down)) ∧ w'.cell? ⟨lb, lo + k * 3 + 1, none⟩ = some (.slice fa fb.length fc)) (exact HK.out _ (by assumption))
        (first
        | (go_at_call 70; refine (HFD2.out _ (by assumption)).mono ?_; rintro e wa ⟨rfl, hba⟩
           have HBa := belh_step (w0 := wr) (by assumption) hba
           clear hba)
        | (go_at_call 69; refine (HSP2.out _ (by assumption)).mono ?_; rintro e wb ⟨vb, Xb, rfl, hrowb, hxb, heb, hlb, hbb⟩
           have HBb := belh_step (w0 := wr) (by assumption) hbb
           have HROb := Lib.hid hrowb
           have HXb := Lib.hid (fun x (hx : x ∈ Xb) => And.intro (hxb x hx).1 ((hxb x hx).2 w HRB.out))
           have HEb := Lib.hid heb
           clear hrowb hxb heb hbb))
      have HB5 := Lib.hid (HB.out.trans (HBb.out.mono HB.out.size))
      have HO5 := Lib.hid (Row.typed (HO.out.frame (fun k _ hk => HBb.out.block k hk)))
      have hs5 := HB5.out.size
      have hs6 := HBb.out.size
      have HX5 : Hid (∀ x ∈ X ++ Xb, (∃ a c, x.v = .slice a x.l.length c) ∧ Reads w x.v x.l.length 1 (byts x.l)) := fun x hx => by
        rcases List.mem_append.1 hx with hx | hx
        · exact HX.out x hx
        · exact HXb.out x hx
      have HN5 := Lib.hid HROb.out.reads
      have HO1 : Hid (∀ u ∈ Xb.map SL.v, u.oneCell' = true) := fun u hu => by
        obtain ⟨x, hx, rfl⟩ := List.mem_map.1 hu
        obtain ⟨⟨xa, xc, hv⟩, -⟩ := HXb.out x hx
        rw [hv]; rfl
      have HE5 : Hid ((X ++ Xb).map SL.l = (R.take (k + 1)).flatMap fun r => (splitB r.f.b).1) := by rw [Hid, HEN.out, List.map_append, HE.out, HEb.out]
      obtain ⟨b5, o5, hvb, hle5⟩ : ∃ a c, vb = .slice a Xb.length c ∧ Xb.length ≤ c ∧ True := by obtain ⟨_, ao, c, hv, hle, _⟩ := HROb.out.reads; exact ⟨ao, c, hv, hle, trivial⟩
      subst hvb
      clear HO HX HE HEN HEb HROb HXb HB HFD2 HSP2
      go_wp2_with (
        refine wpList_row elemRec rfl rfl (S := fun k => w2.heap.size ≤ k ∧ Typed wb 72 k) (n := X.length) (xs := X.map SL.v) rfl HO5.out (y := .slice b5 Xb.length o5) (m := Xb.length) (news := Xb.map SL.v) rfl HN5.out HO1.out (by unfold maxLen; omega) (by omega) ?_
        intro v6 w6 hr6 hc6)
      have HB6 := Lib.hid (HB5.out.trans (hc6.toBelow hs5 (fun n hn h => by omega)))
      have HO6 : Hid (Row w6 72 1 v6 (X ++ Xb).length ((X ++ Xb).map SL.v) (fun k => w2.heap.size ≤ k)) := by
        rw [Hid, List.length_append, List.map_append]
        exact hr6.mono (fun k hk => by omega)
      have HX6 : Hid (∀ x ∈ X ++ Xb, (∃ a c, x.v = .slice a x.l.length c) ∧ Reads w x.v x.l.length 1 (byts x.l)) := HX5.out
      clear hr6 hc6 HB5 HO5 HX5 HN5 HO1
      go_roundw
      case rel => exact ⟨k + 1, X ++ Xb, by omega, by go_num, HO6, HX6, HE5, by rw [List.length_append]; omega, HB6⟩
      case measure => simp [RowKit.intOf]; omega
    · obtain rfl : k = R.length := by omega
      rw [List.take_length] at HE
      go_wp2
      go_ret
      have hs2 := HB2.out.size
      exact ⟨_, X, rfl, HO.out.mono (fun k hk => by omega), HX.out, HE.out, by omega, HBW.out⟩
end Go.Proofs.YtgdmdbdljmlkkaaGreatDoor
namespace Go.Proofs.YtgdmdbdljmlkkaaGreatDoor
set_option linter.unusedVariables false
set_option linter.unusedSimpArgs false
open Go.RowKit

theorem pos_some {R : List RF} {n : ByteArray} (h : n ∈ R.map fun r => r.f.name) : ∃ j, ∃ hj : j < R.length, posR R n = (j : Int) ∧ findD (R.map RF.f) n = some R[j].f := by
  induction R with
  | nil => simp at h
  | cons r l ih =>
    by_cases h0 : r.f.name = n
    · exact ⟨0, by simp, by rw [posR, if_pos h0]; rfl, by rw [List.map_cons, findD, if_pos h0]; rfl⟩
    · have h1 : n ∈ l.map fun r => r.f.name := by
        rcases List.mem_cons.1 (by simpa using h : n ∈ r.f.name :: l.map fun r => r.f.name) with h1 | h1
        · exact absurd h1.symm h0
        · exact h1
      obtain ⟨j, hj, h2, h3⟩ := ih h1
      exact ⟨j + 1, by simp; omega, by rw [posR, if_neg h0, h2, if_neg (by omega)]; rfl, by rw [List.map_cons, findD, if_neg h0, h3]; rfl⟩
theorem name_of_refL {ns : List ByteArray} {n : Int} (h : n ∈ refL ns) : nameI n ∈ ns := by
  rw [mem_refL] at h
  unfold numsL at h
  obtain ⟨s, hs, rfl⟩ := List.mem_map.1 h
  obtain ⟨hs1, hs2⟩ := List.mem_filter.1 hs
  have h0 : 0 < numV s.data.toList := of_decide_eq_true hs2
  rw [nameI_yes h0 (numV_le _), name_numV _ h0]
  simpa using hs1
theorem pos_find {R : List RF} {n : Int} (h : n ∈ refL (R.map fun r => r.f.name)) : ∃ j, ∃ hj : j < R.length, posR R (nameI n) = (j : Int) ∧ fileB (R.map RF.f) n = R[j].f.b := by
  obtain ⟨j, hj, h1, h2⟩ := pos_some (name_of_refL h)
  exact ⟨j, hj, h1, by unfold fileB; rw [h2]⟩

def RRecG (w : World) (R : List RF) : Ending → World → Prop := fun e w' => ∃ (v : Value) (X : List SL), e = .returned v ∧ Row w' 72 1 v X.length (X.map SL.v) (fun k => w.heap.size ≤ k) ∧ (∀ x ∈ X, (∃ a c, x.v = .slice a x.l.length c) ∧ Reads w x.v x.l.length 1 (byts x.l)) ∧ X.map SL.l = recsF (R.map RF.f) ∧ X.length ≤ 20000000 ∧ Below w.heap.size w w'

set_option maxRecDepth 100000 in
set_option maxHeartbeats 4000000 in
theorem rrecords_gen (room plan : Int) (down : Bool) (v : Value) (R : List RF) (T : Nat → Prop) (w : World) (h : RLi w v R T) (hl : R.length ≤ 1000) (hb : ∀ r ∈ R, r.f.b.length ≤ 100000) :
    Calls Tryz.prog 23 #[rdisk room v plan down] w (RRecG w R) := by
  obtain ⟨la, lc, rfl⟩ := slice_form h.row
  have HN := Lib.hid (fun (w' : World) (hb : Below w.heap.size w w') => rnames_any room plan down (.slice la R.length lc) R T w' (h.below hb) (by omega))
  have HFD := Lib.hid (fun (n : ByteArray) (w' : World) (hb : Below w.heap.size w w') => rfind_any room plan down (.slice la R.length lc) R T n w' (h.below hb) (by omega))
  have HR := Lib.hid h
  obtain ⟨L, hL⟩ : ∃ L, L = refL (R.map fun r => r.f.name) := ⟨_, rfl⟩
  have hLl : L.length ≤ R.length := by have := refL_length (R.map fun r => r.f.name); rw [← hL, List.length_map] at this; exact this
  have HPOS : Hid (∀ (k : Nat) (hk : k < L.length), ∃ j, ∃ hj : j < R.length, posR R (nameI L[k]) = (j : Int) ∧ fileB (R.map RF.f) L[k] = R[j].f.b) := fun k hk => pos_find (by rw [← hL]; exact List.getElem_mem hk)
  have HFIN : Hid (recsF (R.map RF.f) = L.flatMap fun n => (splitB (fileB (R.map RF.f) n)).1) := by rw [hL, Hid, recsF, List.map_map]; rfl
  have HBL := Lib.hid hb
  unfold rdisk at HN HFD ⊢
  have HBX : Hid ((w.alloc (.cells #[.int .i64 room, .slice la R.length lc, .int .i64 plan, .bool down] 32)).heap[w.heap.size]? = some (.cells #[.int .i64 room, .slice la R.length lc, .int .i64 plan, .bool down] 32 (0, 0))) := heap_alloc_new w _
  have HBW : Hid (Below w.heap.size w (w.alloc (.cells #[.int .i64 room, .slice la R.length lc, .int .i64 plan, .bool down] 32))) := (Below.refl _ _).alloc (Nat.le_refl _) _
  clear h hb
  go_enter Tryz.func23, Tryz.ntmps23
  go_upto_region 1 with fail
  generalize w.alloc (.cells #[.int .i64 room, .slice la R.length lc, .int .i64 plan, .bool down] 32) = wa at *
  obtain ⟨x0, x1, x2, x3⟩ := cells4 HBX.out
  go_wp2_with fail
  refine (HN.out wa HBW.out).mono ?_
  rintro e w1 ⟨v1, rfl, hr1, hb1⟩
  have hls := refList_any v1 (R.map fun r => r.f.name) w1 (by rw [← namesR_V, List.length_map]; exact hr1.reads) (by rw [List.length_map]; omega)
  rw [← hL] at hls
  have HLS := Lib.hid hls
  have HB1 := Lib.hid (HBW.out.trans (hb1.mono HBW.out.size))
  have HX1 := Lib.hid ((hb1.block _ (lt_of_heap HBX.out)).trans HBX.out)
  clear hr1 hb1 hls HN HBX HBW x0 x1 x2 x3 hL
  go_wp2_with fail
  refine HLS.out.mono ?_
  rintro e w2 ⟨v2, rfl, hr2, hb2⟩
  have hrd2 := reads_of_owns hr2
  obtain ⟨-, va, vc, hv2, -⟩ := id hrd2
  subst hv2
  have HR2 := Lib.hid hrd2
  have HB2 := Lib.hid (HB1.out.trans (hb2.mono HB1.out.size))
  have HX2 := Lib.hid ((hb2.block _ (lt_of_heap HX1.out)).trans HX1.out)
  clear hr2 hrd2 hb2 HLS HB1 HX1
  go_wp2_with fail
  go_loopw [4, 5] (fun out iv w' => ∃ (k : Nat) (X : List SL), k ≤ L.length ∧ iv = .int .i64 k ∧ Hid (Row w' 72 1 out X.length (X.map SL.v) (fun k => w2.heap.size ≤ k)) ∧ Hid (∀ x ∈ X, (∃ a c, x.v = .slice a x.l.length c) ∧ Reads w x.v x.l.length 1 (byts x.l)) ∧ Hid (X.map SL.l = (L.take k).flatMap (fun n => (splitB (fileB (R.map RF.f) n)).1)) ∧ X.length ≤ 12500 * k ∧ Hid (Below w2.heap.size w2 w')) (fun _ iv _ => L.length - (RowKit.intOf iv).toNat)
  case atStart => exact ⟨0, [], by omega, rfl, Row.nil _ _ _ _, by simp [Hid], by simp [Hid], by simp, Below.refl _ _⟩
  case round =>
    obtain ⟨k, X, hk, rfl, HO, HX, HE, hxl, HB⟩ := hrel
    have HBW := Lib.hid (HB2.out.trans (HB.out.mono HB2.out.size))
    by_cases hlt : k < L.length
    · obtain ⟨b, o, c', hv, hle, hbk, hc⟩ := (HR2.out.later HB.out).at (by omega)
      obtain ⟨rfl, rfl⟩ : va = some ⟨b, o, none⟩ ∧ vc = c' := by cases hv; exact ⟨rfl, rfl⟩
      have hck : wr.cell? ⟨b, o + k, none⟩ = some (.int .i64 L[k]) := hc k _ (by simp [ints, hlt])
      obtain ⟨j, hj, hpos, hfb⟩ := HPOS.out k hlt
      have HEN : Hid ((L.take (k + 1)).flatMap (fun n => (splitB (fileB (R.map RF.f) n)).1) = (L.take k).flatMap (fun n => (splitB (fileB (R.map RF.f) n)).1) ++ (splitB R[j].f.b).1) := by rw [Hid, List.take_succ_eq_append_getElem hlt, List.flatMap_append, ← hfb]; simp
      obtain ⟨lb, lo, lcc, hlv, hlle, hlb, hlc⟩ := RLi.cells (HR.out.below HBW.out) (by omega)
      obtain ⟨rfl, rfl⟩ : la = some ⟨lb, lo, none⟩ ∧ lc = lcc := by cases hlv; exact ⟨rfl, rfl⟩
      have hl1 := (hlc j hj).2.1
      have hok := (HR.out.byt R[j] (List.getElem_mem hj))
      have hbl := HBL.out R[j] (List.getElem_mem hj)
      have hform := row_form hok.1 rfl
      have HSPL := Lib.hid (fun (w' : World) (hb : Below w.heap.size w w') => rsplit_any R[j].a R[j].c R[j].f.b w' (hok.1.reads.later hb) hbl hform)
      have HRB : Hid (Reads w (.slice R[j].a R[j].f.b.length R[j].c) R[j].f.b.length 1 (byts R[j].f.b)) := hok.1.reads
      have HX3 := Lib.hid ((HB.out.block _ (lt_of_heap HX2.out)).trans HX2.out)
      have HK : Hid (∀ w', Hid (Below wr.heap.size wr w') → (w'.cell? ⟨w.heap.size, 0, none⟩ = some (.int .i64 room) ∧ w'.cell? ⟨w.heap.size, 1, none⟩ = some (.slice (some ⟨lb, lo, none⟩) R.length lc) ∧ w'.cell? ⟨w.heap.size, 2, none⟩ = some (.int .i64 plan) ∧ w'.cell? ⟨w.heap.size, 3, none⟩ = some (.bool down)) ∧ w'.cell? ⟨lb, lo + j * 3 + 1, none⟩ = some (.slice R[j].a R[j].f.b.length R[j].c)) := fun w' hb => by
        have hx := (hb.out.block _ (lt_of_heap HX3.out)).trans HX3.out
        have hl := (HR.out.below (HBW.out.trans (hb.out.mono HBW.out.size))).cells (by omega)
        obtain ⟨lb', lo', lcc', hlv', -, -, hlc'⟩ := hl
        obtain ⟨rfl, rfl, rfl⟩ : lb' = lb ∧ lo' = lo ∧ lcc' = lc := by cases hlv'; exact ⟨rfl, rfl, rfl⟩
        exact ⟨cells4 hx, by exact (hlc' j hj).2.1⟩
      generalize R[j].a = fa at *
      generalize R[j].c = fc at *
      generalize R[j].f.b = fb at *
      generalize L[k] = nn at *
      clear hv hc hlv hlc hok hform
      obtain ⟨y0, y1, y2, y3⟩ := cells4 HX3.out
      go_wp2_with fail
      refine (refName_any nn _).mono ?_
      rintro e w3 ⟨rfl, rfl⟩
      have HBW3 := Lib.hid HBW.out
      have HFD2 : Hid (∀ w', Hid (Below wr.heap.size wr w') → Calls Tryz.prog 70 #[.agg #[.int .i64 room, .slice (some ⟨lb, lo, none⟩) R.length lc, .int .i64 plan, .bool down], .string (nameI nn)] w' fun e w'' => e = .returned (.int .i64 j) ∧ Below w'.heap.size w' w'') := fun w' hb => by
        have := HFD.out (nameI nn) w' (HBW3.out.trans (hb.out.mono HBW3.out.size))
        rwa [hpos] at this
      have HSP2 : Hid (∀ w', Hid (Below wr.heap.size wr w') → Calls Tryz.prog 69 #[.slice fa fb.length fc] w' (SplitR fa fc w' fb)) := fun w' hb => HSPL.out w' (HBW3.out.trans (hb.out.mono HBW3.out.size))
      have HB00 : Hid (Below wr.heap.size wr wr.drew) := (Below.refl _ _).drew
      have hk0 : (0 : Int) ≤ (j : Int) := by omega
      have hk1 : (j : Int) < (R.length : Int) := by omega
      clear hpos hfb hl1 HSPL HR2 HX3 hlb
      go_upto_region 7 with fail
      go_region_held3 (fun w' => (w'.cell? ⟨w.heap.size, 0, none⟩ = some (.int .i64 room) ∧ w'.cell? ⟨w.heap.size, 1, none⟩ = some (.slice (some ⟨lb, lo, none⟩) R.length lc) ∧ w'.cell? ⟨w.heap.size, 2, none⟩ = some (.int .i64 plan) ∧ w'.cell? ⟨w.heap.size, 3, none⟩ = some (.bool down)) ∧ w'.cell? ⟨lb, lo + j * 3 + 1, none⟩ = some (.slice fa fb.length fc)) (exact HK.out _ (by assumption))
        (first
        | (go_at_call 70; refine (HFD2.out _ (by assumption)).mono ?_; rintro e wa ⟨rfl, hba⟩
           have HBa := belh_step (w0 := wr) (by assumption) hba
           clear hba)
        | (go_at_call 69; refine (HSP2.out _ (by assumption)).mono ?_; rintro e wb ⟨vb, Xb, rfl, hrowb, hxb, heb, hlb, hbb⟩
           have HBb := belh_step (w0 := wr) (by assumption) hbb
           have HROb := Lib.hid hrowb
           have HXb := Lib.hid (fun x (hx : x ∈ Xb) => And.intro (hxb x hx).1 ((hxb x hx).2 w HRB.out))
           have HEb := Lib.hid heb
           clear hrowb hxb heb hbb))
      have HB5 := Lib.hid (HB.out.trans (HBb.out.mono HB.out.size))
      have HO5 := Lib.hid (Row.typed (HO.out.frame (fun k _ hk => HBb.out.block k hk)))
      have hs5 := HB5.out.size
      have hs6 := HBb.out.size
      have HX5 : Hid (∀ x ∈ X ++ Xb, (∃ a c, x.v = .slice a x.l.length c) ∧ Reads w x.v x.l.length 1 (byts x.l)) := fun x hx => by
        rcases List.mem_append.1 hx with hx | hx
        · exact HX.out x hx
        · exact HXb.out x hx
      have HN5 := Lib.hid HROb.out.reads
      have HO1 : Hid (∀ u ∈ Xb.map SL.v, u.oneCell' = true) := fun u hu => by
        obtain ⟨x, hx, rfl⟩ := List.mem_map.1 hu
        obtain ⟨⟨xa, xc, hv⟩, -⟩ := HXb.out x hx
        rw [hv]; rfl
      have HE5 : Hid ((X ++ Xb).map SL.l = (L.take (k + 1)).flatMap fun n => (splitB (fileB (R.map RF.f) n)).1) := by rw [Hid, HEN.out, List.map_append, HE.out, HEb.out]
      obtain ⟨b5, o5, hvb, hle5⟩ : ∃ a c, vb = .slice a Xb.length c ∧ Xb.length ≤ c ∧ True := by obtain ⟨_, ao, c, hv, hle, _⟩ := HROb.out.reads; exact ⟨ao, c, hv, hle, trivial⟩
      subst hvb
      clear HO HX HE HEN HEb HROb HXb HB HFD2 HSP2
      go_wp2_with (
        refine wpList_row elemRec rfl rfl (S := fun k => w2.heap.size ≤ k ∧ Typed wb 72 k) (n := X.length) (xs := X.map SL.v) rfl HO5.out (y := .slice b5 Xb.length o5) (m := Xb.length) (news := Xb.map SL.v) rfl HN5.out HO1.out (by unfold maxLen; omega) (by omega) ?_
        intro v6 w6 hr6 hc6)
      have HB6 := Lib.hid (HB5.out.trans (hc6.toBelow hs5 (fun n hn h => by omega)))
      have HO6 : Hid (Row w6 72 1 v6 (X ++ Xb).length ((X ++ Xb).map SL.v) (fun k => w2.heap.size ≤ k)) := by
        rw [Hid, List.length_append, List.map_append]
        exact hr6.mono (fun k hk => by omega)
      have HX6 : Hid (∀ x ∈ X ++ Xb, (∃ a c, x.v = .slice a x.l.length c) ∧ Reads w x.v x.l.length 1 (byts x.l)) := HX5.out
      clear hr6 hc6 HB5 HO5 HX5 HN5 HO1
      go_roundw
      case rel => exact ⟨k + 1, X ++ Xb, by omega, by go_num, HO6, HX6, HE5, by rw [List.length_append]; omega, HB6⟩
      case measure => simp [RowKit.intOf]; omega
    · obtain rfl : k = L.length := by omega
      rw [List.take_length] at HE
      go_wp2
      go_ret
      have hs2 := HB2.out.size
      exact ⟨_, X, rfl, HO.out.mono (fun k hk => by omega), HX.out, by rw [HE.out, HFIN.out], by omega, HBW.out⟩
end Go.Proofs.YtgdmdbdljmlkkaaGreatDoor
