/- Kinds of steps: which have a number, which a string. -/
import Derived.Test.YtccnmoicckjfbaaGreatDoorArms
import Derived.Test.YtccnmoicckjfbaaGreatDoorChecked
import Derived.Deep.RegionLaw
import Derived.Deep.RegionHeld3
import Derived.StillTailTactics
import Derived.Deep.Cut
import Derived.BigQuiet
namespace Go.Proofs.YtccnmoicckjfbaaGreatDoor
set_option linter.unusedVariables false
set_option linter.unusedSimpArgs false
open Go.RowKit

set_option maxRecDepth 100000 in
theorem index_any (a : Option Addr) (c : Nat) (l : List Int) (x : Int) (w : World) (h : Reads w (.slice a l.length c) l.length 1 (l.map (Value.int .i64))) (hl : l.length ≤ 100000) :
    Calls Tryz.prog 51 #[.slice a l.length c, .int .i64 x] w fun e w' => (∃ i : Int, e = .returned (.int .i64 i) ∧ (0 ≤ i ↔ x ∈ l)) ∧ w' = w := by
  have HC : Hid (∀ (j : Nat) (hj : j < l.length), ∃ b o, a = some ⟨b, o, none⟩ ∧ l.length ≤ c ∧ w.cell? ⟨b, o + j, none⟩ = some (.int .i64 l[j])) := by
    intro j hj
    obtain ⟨b, o, c', hv, hle, hb, hc⟩ := h.at (by omega)
    cases hv
    exact ⟨b, o, rfl, hle, hc j _ (by rw [List.getElem?_map, List.getElem?_eq_getElem hj]; rfl)⟩
  clear h
  go_enter Tryz.func51, Tryz.ntmps51
  go_wp2
  go_loop [8] (fun i => ∃ m : Nat, m ≤ l.length ∧ i = .int .i64 m ∧ Hid (∀ j (hj : j < l.length), j < m → l[j] ≠ x)) (fun i => l.length - (RowKit.intOf i).toNat)
  case atStart => exact ⟨0, by omega, rfl, fun j _ h => by omega⟩
  case round =>
    obtain ⟨m, hm, rfl, HLOW⟩ := hrel
    by_cases hlt : m < l.length
    · obtain ⟨b, o, rfl, hle, hc⟩ := HC.out m hlt
      by_cases hx : l[m] = x
      · have HM : Hid (x ∈ l) := hx ▸ List.getElem_mem hlt
        rw [hx] at hc
        clear hx
        go_wp2
        go_ret
        exact ⟨⟨m, rfl, ⟨fun _ => HM.out, fun _ => by omega⟩⟩, rfl⟩
      · have HN : Hid (∀ j (hj : j < l.length), j < m + 1 → l[j] ≠ x) := fun j hj hjm => by
          rcases Nat.lt_or_ge j m with h | h
          · exact HLOW.out j hj h
          · have : j = m := by omega
            subst this; exact hx
        have hb : (x == l[m]) = false := by rw [beq_eq_false_iff_ne]; exact fun e => hx e.symm
        clear hx
        generalize l[m] = y at *
        go_wp2
        go_round
        case rel => exact ⟨m + 1, by omega, by go_num, HN⟩
        case measure => simp [RowKit.intOf]; omega
    · have HM : Hid (¬ x ∈ l) := fun h => by
        obtain ⟨j, hj, he⟩ := List.mem_iff_getElem.1 h
        exact HLOW.out j hj (by omega) he
      go_wp2
      go_ret
      exact ⟨⟨-1, rfl, ⟨fun h => absurd h (by decide), fun h => absurd h HM.out⟩⟩, rfl⟩

set_option maxRecDepth 100000 in
theorem contains_any (a : Option Addr) (c : Nat) (l : List Int) (x : Int) (w : World) (h : Reads w (.slice a l.length c) l.length 1 (l.map (Value.int .i64))) (hl : l.length ≤ 100000) :
    Calls Tryz.prog 34 #[.slice a l.length c, .int .i64 x] w fun e w' => e = .returned (.bool (decide (x ∈ l))) ∧ w' = w := by
  have HI := Lib.hid (index_any a c l x w h hl)
  clear h
  go_enter Tryz.func34, Tryz.ntmps34
  go_wp2_with fail
  refine HI.out.mono ?_
  rintro e w' ⟨⟨i, rfl, hi⟩, rfl⟩
  have HI2 := Lib.hid hi
  clear hi HI
  go_wp2
  go_ret
  exact ⟨congrArg (fun b => Ending.returned (.bool b)) (decide_eq_decide.2 HI2.out), rfl⟩

/-- Kinds that have a number, and those that have a string. -/
def numL : List Int := [1, 2, 4, 6, 8, 9]
def namL : List Int := [3, 5, 10, 12]

set_option maxRecDepth 100000 in
theorem numbered_any (k : Int) (w : World) : Calls Tryz.prog 23 #[.int .i64 k] w fun e w' => e = .returned (.bool (decide (k ∈ numL))) ∧ Below w.heap.size w w' := by
  have HB : Hid (Below w.heap.size w (w.alloc (.cells #[.int .i64 1, .int .i64 2, .int .i64 4, .int .i64 6, .int .i64 8, .int .i64 9] 3))) := (Below.refl _ _).alloc (Nat.le_refl _) _
  have HR : Hid (Reads (w.alloc (.cells #[.int .i64 1, .int .i64 2, .int .i64 4, .int .i64 6, .int .i64 8, .int .i64 9] 3)) (.slice (some ⟨w.heap.size, 0, none⟩) 6 6) 6 1 (numL.map (Value.int .i64))) := Reads.block (heap_alloc_new w _) 6 1 rfl
  go_enter Tryz.func23, Tryz.ntmps23
  go_wp2_with fail
  refine (contains_any (some ⟨w.heap.size, 0, none⟩) 6 numL k _ HR.out (by decide)).mono ?_
  rintro e w' ⟨rfl, rfl⟩
  go_wp2
  go_ret
  exact ⟨rfl, HB.out⟩
set_option maxRecDepth 100000 in
theorem named_any (k : Int) (w : World) : Calls Tryz.prog 25 #[.int .i64 k] w fun e w' => e = .returned (.bool (decide (k ∈ namL))) ∧ Below w.heap.size w w' := by
  have HB : Hid (Below w.heap.size w (w.alloc (.cells #[.int .i64 3, .int .i64 5, .int .i64 10, .int .i64 12] 3))) := (Below.refl _ _).alloc (Nat.le_refl _) _
  have HR : Hid (Reads (w.alloc (.cells #[.int .i64 3, .int .i64 5, .int .i64 10, .int .i64 12] 3)) (.slice (some ⟨w.heap.size, 0, none⟩) 4 4) 4 1 (namL.map (Value.int .i64))) := Reads.block (heap_alloc_new w _) 4 1 rfl
  go_enter Tryz.func25, Tryz.ntmps25
  go_wp2_with fail
  refine (contains_any (some ⟨w.heap.size, 0, none⟩) 4 namL k _ HR.out (by decide)).mono ?_
  rintro e w' ⟨rfl, rfl⟩
  go_wp2
  go_ret
  exact ⟨rfl, HB.out⟩
end Go.Proofs.YtccnmoicckjfbaaGreatDoor
