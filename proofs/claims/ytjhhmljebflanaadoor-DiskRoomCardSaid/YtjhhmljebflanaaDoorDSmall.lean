/- New, Arm, Down, Read. -/
import Derived.Test.YtjhhmljebflanaaDoorDAppend
import Derived.Lib.SliceRun
namespace Go.Proofs.YtjhhmljebflanaaDoor
set_option linter.unusedVariables false
set_option linter.unusedSimpArgs false
open Go.RowKit

set_option maxRecDepth 100000 in
theorem new_any (room : Int) (w : World) :
    Calls Tryd.prog 8 #[.int .i64 room] w fun e w' => ∃ x, e = .returned x ∧ DRep w' x ⟨max room 0, [], 0, false⟩ (fun k => w.heap.size ≤ k) ∧ Below w.heap.size w w' := by
  have hmm := @run_makeMap Tryd.prog
  have hu1 := Tryd.underlying61
  go_enter Tryd.func8, Tryd.ntmps8
  go_wp2
  go_ret
  have hB := ((Below.refl w.heap.size w).alloc (Nat.le_refl _) (.map #[] 0)).alloc (by simp <;> omega) (.cells #[.int .i64 (max room 0), .map (some w.heap.size), .int .i64 0, .bool false] 63)
  have m1 := MapFn.made w Value.string
  have b4 := heap_alloc_new (w.alloc (.map #[] 0)) (.cells #[.int .i64 (max room 0), .map (some w.heap.size), .int .i64 0, .bool false] 63)
  simp only [World.size_alloc] at b4
  refine ⟨_, rfl, ⟨w.heap.size + 1, w.heap.size, fun _ => none, fun _ => 0, rfl, ?_⟩, hB⟩
  exact { blk := b4, mp := m1.frame (by rw [Below.heap_alloc _ _ _ (by simp <;> omega)]), fl := fun f hf => (List.not_mem_nil hf).elim, nd := List.Pairwise.nil, sx := ⟨by omega, Nat.le_refl _⟩, cx := ⟨rfl, rfl⟩, ne := by omega }

set_option maxRecDepth 100000 in
theorem arm_any (x : Value) (n : Int) (D : DS) (S : Nat → Prop) (w : World) (h : DRep w x D S) :
    Calls Tryd.prog 11 #[x, .int .i64 n] w fun e w' => e = .returned (.tuple #[]) ∧ DRep w' x { D with plan := max n 0 } S ∧ Chg S w w' := by
  obtain ⟨bx, bm, col, pv, rfl, h⟩ := h
  have hc2 := cellAt h.blk 2 (v := .int .i64 D.plan) rfl
  have hf2 := freeAt h.blk 2
  have HB := Lib.hid (heap_store h.blk 2 (.int .i64 (max n 0)))
  have HC : Hid (Chg (fun k => k = bx) w (w.setCell ⟨bx, 2, none⟩ (.int .i64 (max n 0)))) := (Chg.refl (fun k => k = bx) _).setCell (p := ⟨bx, 2, none⟩) (.inl rfl) _
  have H := Lib.hid h
  clear h
  go_enter Tryd.func11, Tryd.ntmps11
  go_wp2
  go_end0
  exact ⟨rfl, ⟨bx, bm, col, pv, rfl, H.out.head { D with plan := max n 0 } rfl HB.out HC.out⟩, HC.out.mono (fun k hk => by rw [hk]; exact H.out.sx.1)⟩

set_option maxRecDepth 100000 in
theorem down_any (x : Value) (D : DS) (S : Nat → Prop) (w : World) (h : DRep w x D S) :
    Calls Tryd.prog 13 #[x] w fun e w' => e = .returned (.bool D.down) ∧ w' = w := by
  obtain ⟨bx, bm, col, pv, rfl, h⟩ := h
  have hc3 := cellAt h.blk 3 (v := .bool D.down) rfl
  clear h
  go_enter Tryd.func13, Tryd.ntmps13
  go_wp2
  go_ret
  exact ⟨rfl, rfl⟩

set_option maxRecDepth 100000 in
set_option maxHeartbeats 1000000 in
theorem bclone_any (ao : Option Addr) (n c : Nat) (xs : List Value) (w : World) (h : Reads w (.slice ao n c) n 1 xs) (h1 : ∀ u ∈ xs, u.oneCell' = true) (hn : n ≤ 2000000000) :
    Calls Tryd.prog 24 #[.slice ao n c] w fun e w' => ∃ v', e = .returned v' ∧ Row w' 5 1 v' n xs (fun b => w.heap.size ≤ b) ∧ Below w.heap.size w w' := by
  cases ao with
  | none =>
    obtain ⟨hl, _, _, he, _, hnn, _⟩ := h
    cases he
    obtain ⟨rfl, rfl⟩ := hnn rfl
    obtain rfl : xs = [] := List.eq_nil_of_length_eq_zero (by simpa using hl)
    have he : (binOp .eql 22 (.slice none 0 0) (.slice none 0 0)).run Tryd.prog w = .ok (.bool true) w := by kernel_rfl
    go_enter Tryd.func24, Tryd.ntmps24
    go_wp2
    go_ret
    exact ⟨_, rfl, Row.nil _ _ _ _, Below.refl _ _⟩
  | some ad =>
    have he : ∀ W, (binOp .eql 22 (.slice (some ad) n c) (.slice none 0 0)).run Tryd.prog W = .ok (.bool false) W := fun W => Lib.run_eql_slice_nil W _ _ (some ad) n c 0 0 Tryd.underlying22
    have H := Lib.hid h
    have H1 := Lib.hid h1
    clear h h1
    go_enter Tryd.func24, Tryd.ntmps24
    go_wp2_with (refine wpList_row elemU8 rfl rfl (S := fun b => w.heap.size ≤ b) (v := .slice (some ⟨w.heap.size, 0, none⟩) 0 0) (n := 0) (xs := []) rfl (Row.ofOwns (owns_empty _ _ _ _ (Nat.le_refl _) rfl)) (y := .slice (some ad) n c) (m := n) (news := xs) rfl (H.out.later ((Below.refl _ _).alloc (Nat.le_refl _) _)) H1.out (by unfold maxLen; omega) (by omega) ?_; intro v' w' hr hc)
    go_ret
    refine ⟨_, rfl, ?_, ?_⟩
    · rw [Nat.zero_add, List.nil_append] at hr
      exact hr.mono (fun b hb => by rcases hb with hb | hb; exact hb; simp only [World.size_alloc] at hb; omega)
    · exact ((Below.refl _ _).alloc (Nat.le_refl _) _).trans (hc.toBelow (by simp) (fun n hn h => by omega))

def readD (D : DS) (n : ByteArray) : List UInt8 × Int :=
  if D.down then ([], 10) else match findD D.files n with
  | some f => (f.b, 0)
  | none => ([], 6)

set_option maxRecDepth 100000 in
set_option maxHeartbeats 1000000 in
theorem read_any (x : Value) (n : ByteArray) (D : DS) (S : Nat → Prop) (w : World) (h : DRep w x D S) (hs : sumD D.files ≤ 1000000000) :
    Calls Tryd.prog 16 #[x, .string n] w fun e w' => ∃ v, e = .returned (.tuple #[v, .int .i64 (readD D n).2]) ∧ Row w' 5 1 v (readD D n).1.length (byts (readD D n).1) (fun k => w.heap.size ≤ k) ∧ Below w.heap.size w w' := by
  obtain ⟨bx, bm, col, pv, rfl, h⟩ := h
  have hc3 := cellAt h.blk 3 (v := .bool D.down) rfl
  have hc1 := cellAt h.blk 1 (v := .map (some bm)) rfl
  have H := Lib.hid h
  have hlk0 := lookD h.mp n
  clear h
  by_cases hd : D.down = true
  · have HV : Hid (readD D n = ([], 10)) := by rw [Hid, readD, if_pos hd]
    rw [hd] at hc3
    rw [HV.out]
    clear hlk0
    go_enter Tryd.func16, Tryd.ntmps16
    go_wp2
    go_ret2
    exact ⟨_, rfl, Row.nil _ _ _ _, Below.refl _ _⟩
  · have hd' : D.down = false := by simpa using hd
    rw [hd'] at hc3
    cases hf : findD D.files n with
    | none =>
      have HV : Hid (readD D n = ([], 6)) := by rw [Hid, readD, if_neg hd, hf]
      have hlk := hlk0 (.pointer none) false (by unfold fmap; rw [hf]; rfl) (by rw [hf]; rfl)
      rw [HV.out]
      clear hlk0
      go_enter Tryd.func16, Tryd.ntmps16
      go_wp2
      go_ret2
      exact ⟨_, rfl, Row.nil _ _ _ _, Below.refl _ _⟩
    | some f =>
      have HV : Hid (readD D n = (f.b, 0)) := by rw [Hid, readD, if_neg hd, hf]
      have hlk := hlk0 (.pointer (some ⟨pv n, 0, none⟩)) true (by rw [fmap_some hf]) (by rw [hf]; rfl)
      rw [HV.out]
      clear hlk0
      obtain ⟨hfn, hfm⟩ := findD_name hf
      have hfr := H.out.fl f hfm
      rw [hfn] at hfr
      have hfl := len_le_sum hfm
      obtain ⟨a, c, T, h1, h2, -⟩ := hfr
      have hp0 := cellAt h1 0 (v := .slice a f.b.length c) rfl
      have HBC := Lib.hid (bclone_any a f.b.length c (byts f.b) w h2.reads (byts_one _) (by omega))
      clear h1 h2
      go_enter Tryd.func16, Tryd.ntmps16
      go_wp2_with fail
      refine HBC.out.mono ?_
      rintro e w1 ⟨v, rfl, hr, hb⟩
      have HR := Lib.hid hr
      have HB := Lib.hid hb
      clear hr hb HBC
      go_wp2
      go_ret2
      exact ⟨_, rfl, HR.out, HB.out⟩
end Go.Proofs.YtjhhmljebflanaaDoor
