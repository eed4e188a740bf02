/- segment.Name: for 1 .. 99999999 the prefix and eight digits, else none. -/
import Derived.Test.YtnpkjkbcmidbmaaDoorChecked
import Derived.Test.YtnpkjkbcmidbmaaDoorShelf
import Derived.Test.YtnpkjkbcmidbmaaDoorSegRef
namespace Go.Proofs.YtnpkjkbcmidbmaaDoor
open Go.RowKit Go.Lib

theorem below_grow (w : World) (k : Nat) (os : Array Obj) : Below w.heap.size w (Sort.grow (w.drewN k) os) :=
  ⟨rfl, rfl, rfl, by show w.heap.size ≤ (w.heap ++ os).size; rw [Array.size_append]; omega, fun j hj => by
    show (w.heap ++ os)[j]? = w.heap[j]?
    rw [Array.getElem?_append_left hj]⟩

/-- The table of powers reads as it did while only new blocks are laid. -/
theorem tab_below {w w' : World} (h : Lib.TabIs Tryd.prog w powName .u64 Lib.pow10Tab) (hb : Below w.heap.size w w') : Lib.TabIs Tryd.prog w' powName .u64 Lib.pow10Tab := by
  unfold TabIs World.var? at *
  cases hg : Tryd.prog.globalNamed powName with
  | none => simp [hg] at h
  | some g =>
    simp only [hg, Option.bind_some] at h ⊢
    have hlt : g < w.heap.size := by
      rcases Nat.lt_or_ge g w.heap.size with h' | h'
      · exact h'
      · rw [Array.getElem?_eq_none h'] at h; simp at h
    rw [hb.block g hlt]
    exact h

abbrev Tab (w : World) : Prop := Lib.TabIs Tryd.prog w powName .u64 Lib.pow10Tab

set_option maxRecDepth 100000 in
set_option maxHeartbeats 1000000 in
theorem name_no (n : Int) (w : World) (h : n < 1 ∨ 99999999 < n) :
    Calls Tryd.prog 7 #[.int .i64 n] w fun e w' => e = .returned (.tuple #[bs [], .bool false]) ∧ w = w' := by
  rcases h with h | h
  · go_enter Tryd.func7, Tryd.ntmps7
    go_wp2
    go_ret2
    exact ⟨rfl, rfl⟩
  · have h' : ¬ n < 1 := by omega
    go_enter Tryd.func7, Tryd.ntmps7
    go_wp2
    go_ret2
    exact ⟨rfl, rfl⟩

set_option maxRecDepth 100000 in
set_option maxHeartbeats 1000000 in
theorem name_yes (n : Nat) (w : World) (h1 : 1 ≤ n) (h2 : n ≤ 99999999) (htab : Tab w) :
    Calls Tryd.prog 7 #[.int .i64 n] w fun e w' => e = .returned (.tuple #[bs (nameL n), .bool true]) ∧ Below w.heap.size w w' := by
  have hc := (Tryd.strconv_Itoa n (by omega) (by omega) w htab)
  rw [Lib.itoa_nonneg] at hc
  have HC := Lib.hid hc
  clear hc
  have hlen := Lib.decDigits_length n
  have hd8 := nDigits_le8 n h2
  have hpad := padded n h2
  rw [← hlen] at hpad hd8
  clear hlen
  generalize Lib.decDigits n = l at *
  have HP := Lib.hid hpad
  clear hpad
  go_enter Tryd.func7, Tryd.ntmps7
  go_wp2_with fail
  refine HC.out.mono ?_
  rintro e w1 ⟨rfl, k, os, hw1⟩
  have hb1 : Below w.heap.size w w1 := by rw [hw1]; exact below_grow _ _ _
  clear hw1
  go_wp2_with fail
  rw [show ((8 : Int) - (l.length : Int)) = ((8 - l.length : Nat) : Int) by omega]
  refine (Tryd.strings_Repeat ⟨#[48]⟩ (8 - l.length) w1 (by omega) (by show 1 * (8 - l.length) ≤ _; omega)).mono ?_
  rintro e w2 ⟨rfl, hb2⟩
  have hb := hb1.trans (hb2.mono hb1.size)
  clear hb1 hb2
  have hrl : (Lib.repeatL [48] (8 - l.length)).length ≤ 8 := by rw [Lib.repeatL_length]; simp
  simp only
  generalize Lib.repeatL [48] (8 - l.length) = z at *
  go_wp2
  go_ret2
  have hfin : ((⟨#[108, 111, 103, 45]⟩ : ByteArray) ++ ⟨z.toArray⟩ ++ ⟨l.toArray⟩) = ⟨(nameL n).toArray⟩ := by
    rw [ba_app [108, 111, 103, 45], ba_app, List.append_assoc, HP.out]; rfl
  exact ⟨congrArg (fun x => Ending.returned (.tuple #[.string x, .bool true])) hfin, hb⟩
end Go.Proofs.YtnpkjkbcmidbmaaDoor
