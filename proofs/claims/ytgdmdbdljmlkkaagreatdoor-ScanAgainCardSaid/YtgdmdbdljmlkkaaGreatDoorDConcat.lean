/- slices.Equal of bytes.
slices.Concat of bytes. -/
import Derived.Test.YtgdmdbdljmlkkaaGreatDoorDLive
import Derived.Lib.AppendZerosOnto
namespace Go.Proofs.YtgdmdbdljmlkkaaGreatDoor
set_option linter.unusedVariables false
set_option linter.unusedSimpArgs false
open Go.RowKit

theorem u8_ne (x y : UInt8) : (decide ((x.toNat : Int) ≠ (y.toNat : Int))) = decide (x ≠ y) := by
  congr 1
  rw [ne_eq, ne_eq, Int.natCast_inj, UInt8.toNat_inj]

set_option maxRecDepth 100000 in
set_option maxHeartbeats 1000000 in
theorem bequal_any (a1 a2 : Option Addr) (c1 c2 : Nat) (l1 l2 : List UInt8) (w : World) (h1 : Reads w (.slice a1 l1.length c1) l1.length 1 (byts l1)) (h2 : Reads w (.slice a2 l2.length c2) l2.length 1 (byts l2)) (hl : l1.length ≤ 100000) (hl2 : l2.length ≤ 100000) :
    Calls Tryz.prog 90 #[.slice a1 l1.length c1, .slice a2 l2.length c2] w fun e w' => e = .returned (.bool (decide (l1 = l2))) ∧ Below w.heap.size w w' := by
  by_cases hlen : l1.length = l2.length
  · have HC : Hid (∀ (j : Nat) (hj : j < l1.length), ∃ b o b' o', a1 = some ⟨b, o, none⟩ ∧ a2 = some ⟨b', o', none⟩ ∧ l1.length ≤ c1 ∧ l2.length ≤ c2 ∧ b < w.heap.size ∧ b' < w.heap.size ∧ w.cell? ⟨b, o + j, none⟩ = some (.int .u8 l1[j].toNat) ∧ w.cell? ⟨b', o' + j, none⟩ = some (.int .u8 (l2[j]'(by omega)).toNat)) := by
      intro j hj
      obtain ⟨b, o, c', hv, hle, hb, hc⟩ := h1.at (by omega)
      cases hv
      obtain ⟨b', o', c'', hv, hle', hb', hc'⟩ := h2.at (by omega)
      cases hv
      refine ⟨b, o, b', o', rfl, rfl, hle, hle', hb, hb', hc j _ ?_, hc' j _ ?_⟩
      · rw [byts, List.getElem?_map, List.getElem?_eq_getElem hj]; rfl
      · rw [byts, List.getElem?_map, List.getElem?_eq_getElem (show j < l2.length by omega)]; rfl
    have heq : ((l1.length : Int) != (l2.length : Int)) = false := by simp; omega
    clear h1 h2
    go_enter Tryz.func90, Tryz.ntmps90
    go_wp2_with fail
    go_loopw [13] (fun i w' => ∃ m : Nat, m ≤ l1.length ∧ i = .int .i64 m ∧ Hid (Below w.heap.size w w') ∧ Hid (∀ j (h1 : j < l1.length) (h2 : j < l2.length), j < m → l1[j] = l2[j])) (fun i _ => l1.length - (RowKit.intOf i).toNat)
    case atStart => exact ⟨0, by omega, rfl, Below.refl _ _, fun j _ _ h => by omega⟩
    case round =>
      obtain ⟨m, hm, rfl, HB, HLOW⟩ := hrel
      by_cases hlt : m < l1.length
      · obtain ⟨b, o, b', o', rfl, rfl, hle, hle', hb, hb', k1, k2⟩ := HC.out m hlt
        have hc1 := (HB.out.cell (p := ⟨b, o + m, none⟩) hb).trans k1
        have hc2 := (HB.out.cell (p := ⟨b', o' + m, none⟩) hb').trans k2
        clear k1 k2
        have hl2' : m < l2.length := by omega
        by_cases hq : l1[m] = l2[m]
        · have hb1 : (((l1[m].toNat : Nat) : Int) != ((l2[m].toNat : Nat) : Int)) = false := by rw [hq]; simp
          go_wp2_with fail
          go_quiet (fail)
          have HBN := Lib.hid (show Below w.heap.size w (wr.drewN nq) from ⟨HB.out.os, HB.out.tape, HB.out.output, HB.out.size, HB.out.block⟩)
          clear hc1 hc2 hb1 hb hb'
          go_wp2
          go_roundw
          case rel =>
            refine ⟨m + 1, by omega, by go_num, HBN, fun j h1 h2 h3 => ?_⟩
            rcases Nat.lt_or_ge j m with h4 | h4
            · exact HLOW.out j h1 h2 h4
            · have : j = m := by omega
              subst this; exact hq
          case measure => simp [RowKit.intOf]; omega
        · have hb1 : (((l1[m].toNat : Nat) : Int) != ((l2[m].toNat : Nat) : Int)) = true := by
            simp only [bne_iff_ne, ne_eq, Int.natCast_inj, UInt8.toNat_inj]; exact hq
          have HE : Hid (decide (l1 = l2) = false) := decide_eq_false (fun e => hq (by subst e; rfl))
          go_wp2_with fail
          go_quiet (fail)
          have HBN := Lib.hid (show Below w.heap.size w (wr.drewN nq) from ⟨HB.out.os, HB.out.tape, HB.out.output, HB.out.size, HB.out.block⟩)
          clear hc1 hc2 hb1 hb hb'
          go_wp2
          go_ret
          exact ⟨congrArg (fun b => Ending.returned (.bool b)) HE.out.symm, HBN.out⟩
      · obtain rfl : m = l1.length := by omega
        have HE : Hid (decide (l1 = l2) = true) := decide_eq_true (List.ext_getElem hlen (fun j h1 h2 => HLOW.out j h1 h2 h1))
        go_wp2
        go_ret
        exact ⟨congrArg (fun b => Ending.returned (.bool b)) HE.out.symm, HB.out⟩
  · have HN : Hid (decide (l1 = l2) = false) := decide_eq_false (fun e => hlen (by rw [e]))
    have hne : ((l1.length : Int) != (l2.length : Int)) = true := by simp; omega
    clear h1 h2
    rw [HN.out]
    go_enter Tryz.func90, Tryz.ntmps90
    go_wp2
    go_ret
    exact ⟨rfl, Below.refl _ _⟩
end Go.Proofs.YtgdmdbdljmlkkaaGreatDoor
namespace Go.Proofs.YtgdmdbdljmlkkaaGreatDoor
set_option linter.unusedVariables false
set_option linter.unusedSimpArgs false
open Go.RowKit

set_option maxRecDepth 100000 in
set_option maxHeartbeats 1000000 in
theorem grow0_any (n : Nat) (hn : n ≤ 1000000000) (w : World) : Calls Tryz.prog 174 #[.slice none 0 0, .int .i64 n] w fun e w' =>
    ∃ v, e = .returned v ∧ Row w' 5 1 v 0 [] (fun k => w.heap.size ≤ k) ∧ Below w.heap.size w w' := by
  obtain ⟨i0, hi0, hz0, hs0, hb0⟩ : ∃ i0, Tryz.prog.info? 5 = some i0 ∧ i0.zero = some (.int .u8 0) ∧ i0.size = 1 ∧ i0.bytes = 1 := by
    have h := elemU8.info
    cases hq : Tryz.prog.info? 5 with
    | none => rw [hq] at h; cases h
    | some i0 =>
      rw [hq] at h
      simp only [Option.map_some, Option.some.injEq, Prod.mk.injEq] at h
      exact ⟨i0, rfl, h⟩
  by_cases h0 : n = 0
  · subst h0
    go_enter Tryz.func174, Tryz.ntmps174
    go_wp2
    go_ret
    exact ⟨_, rfl, Row.nil _ _ _ _, Below.refl _ _⟩
  · have hrz : ∀ ty, (Builtin.append_ #[72, 3] ty #[.slice none 0 0, .int .i64 (n : Int)]).run Tryz.prog w =
      .ok (.slice (some ⟨w.heap.size, 0, none⟩) n (grownCap w n 0 5)) (w.drew.alloc (.cells (#[] ++ Builtin.zeroCells (Value.int .u8 0).cells n ++ Builtin.zeroCells (Value.int .u8 0).cells (grownCap w n 0 5 - n)) 5)) := fun ty => by
      have h := Lib.run_append_grow_zeros w 72 3 ty 5 i0 (.int .u8 0) .i64 .i64 Tryz.underlying72 Tryz.underlying3 hi0 hz0 none 0 0 [] (run_firstCells_none w.drew i0.size 0 0 0) n (by omega) (by omega) (by omega) (by omega)
        (by rw [hb0]; omega) (growslice_fits (by omega) (by rw [hb0]; omega))
      simpa using h
    have hGn : n ≤ grownCap w n 0 5 := grownCap_ge w _ _ _
    have hGm : grownCap w n 0 5 ≤ maxLen := grownCap_le_maxLen w n 0 5 (by unfold maxLen; omega)
    obtain ⟨G, hG⟩ : ∃ G, G = grownCap w n 0 5 := ⟨_, rfl⟩
    rw [← hG] at hrz hGn hGm
    have hG63 : G ≤ 9223372036854775807 := by unfold maxLen at hGm; omega
    have hHM := Lib.hid hGm
    clear hG hGm
    have HSZ : Hid ((#[] ++ Builtin.zeroCells (Value.int .u8 0).cells n ++ Builtin.zeroCells (Value.int .u8 0).cells (G - n)).size = G) := by
      have hz : ∀ k, (Builtin.zeroCells (Value.int .u8 0).cells k).size = k := fun k => by unfold Builtin.zeroCells; simp [show (Value.int .u8 0).cells.size = 1 from rfl]
      simp only [Array.size_append, hz]
      show 0 + n + (G - n) = G
      omega
    generalize (#[] ++ Builtin.zeroCells (Value.int .u8 0).cells n ++ Builtin.zeroCells (Value.int .u8 0).cells (G - n)) = cs at *
    go_enter Tryz.func174, Tryz.ntmps174
    go_wp2_with (at_builtin; refine Lib.wpList_append_run _ rfl _ _ _ _ rfl _ _ rfl rfl _ _ (hrz _) ?_)
    all_goals (go_ret; refine ⟨_, rfl, ⟨rfl, .inr ⟨w.heap.size, 0, G, cs, rfl, Nat.le_refl _, heap_alloc_new w.drew _, by omega, hHM.out, by rw [HSZ.out]; omega, by simp⟩⟩, ((Below.refl _ _).drew).alloc (Nat.le_refl _) _⟩)

def lens (ps : List (Option Addr × List UInt8 × Nat)) : Nat := (ps.map fun p => p.2.1.length).sum
def joined (ps : List (Option Addr × List UInt8 × Nat)) : List UInt8 := (ps.map fun p => p.2.1).flatten
theorem joined_length (ps : List (Option Addr × List UInt8 × Nat)) : (joined ps).length = lens ps := by
  unfold joined lens
  rw [List.length_flatten, List.map_map]; rfl
theorem lens_succ {ps : List (Option Addr × List UInt8 × Nat)} {m : Nat} (h : m < ps.length) : lens (ps.take (m + 1)) = lens (ps.take m) + ps[m].2.1.length := by
  unfold lens
  rw [List.take_succ_eq_append_getElem h, List.map_append, List.sum_append]; simp
theorem joined_succ {ps : List (Option Addr × List UInt8 × Nat)} {m : Nat} (h : m < ps.length) : joined (ps.take (m + 1)) = joined (ps.take m) ++ ps[m].2.1 := by
  unfold joined
  rw [List.take_succ_eq_append_getElem h, List.map_append, List.flatten_append]; simp
theorem lens_take (ps : List (Option Addr × List UInt8 × Nat)) (m : Nat) : lens (ps.take m) ≤ lens ps := by
  conv => rhs; rw [← List.take_append_drop m ps]
  unfold lens
  rw [List.map_append, List.sum_append]; omega

def partV (p : Option Addr × List UInt8 × Nat) : Value := .slice p.1 p.2.1.length p.2.2

set_option maxRecDepth 100000 in
set_option maxHeartbeats 1000000 in
theorem concat_any (pa : Option Addr) (pc : Nat) (ps : List (Option Addr × List UInt8 × Nat)) (w : World) (hr : Reads w (.slice pa ps.length pc) ps.length 1 (ps.map partV)) (hl : ps.length ≤ 100000)
    (he : ∀ p ∈ ps, Reads w (partV p) p.2.1.length 1 (byts p.2.1)) (hs : lens ps ≤ 1000000000) :
    Calls Tryz.prog 140 #[.slice pa ps.length pc] w fun e w' => ∃ a c, e = .returned (.slice a (joined ps).length c) ∧ Row w' 5 1 (.slice a (joined ps).length c) (joined ps).length (byts (joined ps)) (fun k => w.heap.size ≤ k) ∧ Below w.heap.size w w' := by
  have HC : Hid (∀ (j : Nat) (hj : j < ps.length), ∃ b o, pa = some ⟨b, o, none⟩ ∧ ps.length ≤ pc ∧ b < w.heap.size ∧ w.cell? ⟨b, o + j, none⟩ = some (partV ps[j])) := by
    intro j hj
    obtain ⟨b, o, c', hv, hle, hb, hc⟩ := hr.at (by omega)
    cases hv
    refine ⟨b, o, rfl, hle, hb, hc j _ ?_⟩
    rw [List.getElem?_map, List.getElem?_eq_getElem hj]; rfl
  have HE := Lib.hid he
  clear hr he
  go_enter Tryz.func140, Tryz.ntmps140
  go_wp2_with fail
  go_loopw [3, 11] (fun s i w' => ∃ m : Nat, m ≤ ps.length ∧ i = .int .i64 m ∧ s = .int .i64 (lens (ps.take m) : Nat) ∧ w' = w) (fun _ i _ => ps.length - (RowKit.intOf i).toNat)
  case atStart => exact ⟨0, by omega, by first | rfl | trivial, by first | rfl | trivial, by first | rfl | trivial⟩
  case round =>
    obtain ⟨m, hm, rfl, rfl, rfl⟩ := hrel
    have hlt2 := lens_take ps m
    by_cases hlt : m < ps.length
    · obtain ⟨b, o, rfl, hle, hb, hc⟩ := HC.out m hlt
      have hsu := lens_succ hlt
      have hls := lens_take ps (m + 1)
      unfold partV at hc
      go_wp2_with fail
      go_roundw
      case rel => exact ⟨m + 1, by omega, by go_num, by rw [hsu]; go_num, by first | rfl | trivial⟩
      case measure => simp [RowKit.intOf]; omega
    · obtain rfl : m = ps.length := by omega
      rw [List.take_length]
      clear hlt2
      go_wp2_with fail
      refine (grow0_any (lens ps) hs _).mono ?_
      rintro e w1 ⟨v, rfl, hrow, hb⟩
      have HROW := Lib.hid hrow
      have HB := Lib.hid hb
      clear hrow hb
      go_wp2_with fail
      go_loopw [6, 27] (fun v i w' => ∃ m : Nat, m ≤ ps.length ∧ i = .int .i64 m ∧ Hid (Row w' 5 1 v (lens (ps.take m)) (byts (joined (ps.take m))) (fun k => wr.heap.size ≤ k)) ∧ Hid (Below wr.heap.size wr w')) (fun _ i _ => ps.length - (RowKit.intOf i).toNat)
      case atStart => exact ⟨0, by omega, rfl, HROW, HB⟩
      case round =>
        obtain ⟨m, hm, rfl, HRW, HBW⟩ := hrel
        have HLN := Lib.hid (joined_length (ps.take m))
        have hlt2 := lens_take ps m
        by_cases hlt : m < ps.length
        · obtain ⟨b, o, rfl, hle, hb, hc⟩ := HC.out m hlt
          have HRP := Lib.hid ((HE.out ps[m] (List.getElem_mem hlt)).later HBW.out)
          have hsu := lens_succ hlt
          have hjs := joined_succ hlt
          have hls := lens_take ps (m + 1)
          have hc2 := (HBW.out.cell (p := ⟨b, o + m, none⟩) hb).trans hc
          unfold partV at hc2
          unfold partV at HRP
          clear hc
          go_wp2_with (refine wpList_row elemU8 rfl rfl (S := fun b => _ ≤ b) (n := lens (ps.take m)) (xs := byts (joined (ps.take m))) rfl HRW.out (m := ps[m].2.1.length) (news := byts ps[m].2.1) rfl HRP.out (byts_one _) (by unfold maxLen; omega) (by omega) ?_; intro v5 w5 hr5 hch5)
          go_roundw
          case rel =>
            have hsz := HBW.out.size
            refine ⟨m + 1, by omega, by go_num, ?_, HBW.out.trans (hch5.toBelow hsz (fun n hn h => by omega))⟩
            rw [Hid, hsu, hjs, byts_append]
            exact hr5.mono (fun k hk => by rcases hk with hk | hk; exact hk; omega)
          case measure => simp [RowKit.intOf]; omega
        · obtain rfl : m = ps.length := by omega
          rw [List.take_length] at HRW
          have HR2 := Lib.hid (joined_length ps)
          obtain ⟨-, a, c, hv, -⟩ := HRW.out.reads
          subst hv
          go_wp2
          go_ret
          rw [HR2.out]
          exact ⟨a, c, rfl, HRW.out, HBW.out⟩
end Go.Proofs.YtgdmdbdljmlkkaaGreatDoor
