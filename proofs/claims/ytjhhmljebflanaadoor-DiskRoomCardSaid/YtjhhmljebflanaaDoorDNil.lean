/- A disk that is nil. -/
import Derived.Test.YtjhhmljebflanaaDoorDAlive
namespace Go.Proofs.YtjhhmljebflanaaDoor
set_option linter.unusedVariables false
set_option linter.unusedSimpArgs false
open Go.RowKit

set_option maxRecDepth 100000 in
theorem runNil (g : Nat) (lb : Array Value) (a : Option Addr) (n c : Nat) (fresh : Bool) (w : World) :
    Calls Tryd.prog 29 #[.pointer none, .agg #[.slice a n c, .bool fresh, .func (.func g) #[] lb]] w fun e w' => e = .returned (.int .i64 1) ∧ Below w.heap.size w w' := by
  go_enter Tryd.func29, Tryd.ntmps29
  go_wp2
  go_ret
  exact ⟨rfl, (Below.refl _ _).alloc (Nat.le_refl _) _⟩

set_option maxRecDepth 100000 in
theorem create_nil (n : ByteArray) (w : World) :
    Calls Tryd.prog 10 #[.pointer none, .string n] w fun e w' => e = .returned (.int .i64 1) ∧ Below w.heap.size w w' := by
  have hmf : ∀ fn first cap w, (Instr.makeFunc fn first cap).run Tryd.prog w = .ok (.func fn first cap) w := fun _ _ _ _ => rfl
  go_enter Tryd.func10, Tryd.ntmps10
  go_wp2_with fail
  refine (runNil _ _ _ _ _ _ _).mono ?_
  rintro e w1 ⟨rfl, hb⟩
  have HB : Hid (Below w.heap.size w w1) := by
    refine Below.trans ?_ (hb.mono (B' := w.heap.size) (by simp <;> omega))
    repeat (first | exact Below.refl _ _ | refine Below.alloc ?_ (by simp <;> omega) _)
  clear hb
  go_wp2
  go_ret
  exact ⟨rfl, HB.out⟩

set_option maxRecDepth 100000 in
theorem append_nil (n : ByteArray) (a : Option Addr) (l c : Nat) (w : World) :
    Calls Tryd.prog 12 #[.pointer none, .string n, .slice a l c] w fun e w' => e = .returned (.int .i64 1) ∧ Below w.heap.size w w' := by
  have hmf : ∀ fn first cap w, (Instr.makeFunc fn first cap).run Tryd.prog w = .ok (.func fn first cap) w := fun _ _ _ _ => rfl
  go_enter Tryd.func12, Tryd.ntmps12
  go_wp2_with fail
  refine (runNil _ _ _ _ _ _ _).mono ?_
  rintro e w1 ⟨rfl, hb⟩
  have HB : Hid (Below w.heap.size w w1) := by
    refine Below.trans ?_ (hb.mono (B' := w.heap.size) (by simp <;> omega))
    repeat (first | exact Below.refl _ _ | refine Below.alloc ?_ (by simp <;> omega) _)
  clear hb
  go_wp2
  go_ret
  exact ⟨rfl, HB.out⟩

set_option maxRecDepth 100000 in
theorem sync_nil (n : ByteArray) (w : World) :
    Calls Tryd.prog 14 #[.pointer none, .string n] w fun e w' => e = .returned (.int .i64 1) ∧ Below w.heap.size w w' := by
  have hmf : ∀ fn first cap w, (Instr.makeFunc fn first cap).run Tryd.prog w = .ok (.func fn first cap) w := fun _ _ _ _ => rfl
  go_enter Tryd.func14, Tryd.ntmps14
  go_wp2_with fail
  refine (runNil _ _ _ _ _ _ _).mono ?_
  rintro e w1 ⟨rfl, hb⟩
  have HB : Hid (Below w.heap.size w w1) := by
    refine Below.trans ?_ (hb.mono (B' := w.heap.size) (by simp <;> omega))
    repeat (first | exact Below.refl _ _ | refine Below.alloc ?_ (by simp <;> omega) _)
  clear hb
  go_wp2
  go_ret
  exact ⟨rfl, HB.out⟩

set_option maxRecDepth 100000 in
theorem rename_nil (n m : ByteArray) (w : World) :
    Calls Tryd.prog 25 #[.pointer none, .string n, .string m] w fun e w' => e = .returned (.int .i64 1) ∧ Below w.heap.size w w' := by
  have hmf : ∀ fn first cap w, (Instr.makeFunc fn first cap).run Tryd.prog w = .ok (.func fn first cap) w := fun _ _ _ _ => rfl
  go_enter Tryd.func25, Tryd.ntmps25
  go_wp2_with fail
  refine (runNil _ _ _ _ _ _ _).mono ?_
  rintro e w1 ⟨rfl, hb⟩
  have HB : Hid (Below w.heap.size w w1) := by
    refine Below.trans ?_ (hb.mono (B' := w.heap.size) (by simp <;> omega))
    repeat (first | exact Below.refl _ _ | refine Below.alloc ?_ (by simp <;> omega) _)
  clear hb
  go_wp2
  go_ret
  exact ⟨rfl, HB.out⟩

set_option maxRecDepth 100000 in
theorem remove_nil (n : ByteArray) (w : World) :
    Calls Tryd.prog 26 #[.pointer none, .string n] w fun e w' => e = .returned (.int .i64 1) ∧ Below w.heap.size w w' := by
  have hmf : ∀ fn first cap w, (Instr.makeFunc fn first cap).run Tryd.prog w = .ok (.func fn first cap) w := fun _ _ _ _ => rfl
  go_enter Tryd.func26, Tryd.ntmps26
  go_wp2_with fail
  refine (runNil _ _ _ _ _ _ _).mono ?_
  rintro e w1 ⟨rfl, hb⟩
  have HB : Hid (Below w.heap.size w w1) := by
    refine Below.trans ?_ (hb.mono (B' := w.heap.size) (by simp <;> omega))
    repeat (first | exact Below.refl _ _ | refine Below.alloc ?_ (by simp <;> omega) _)
  clear hb
  go_wp2
  go_ret
  exact ⟨rfl, HB.out⟩

set_option maxRecDepth 100000 in
theorem read_nil (n : ByteArray) (w : World) : Calls Tryd.prog 16 #[.pointer none, .string n] w fun e w' => e = .returned (.tuple #[.slice none 0 0, .int .i64 1]) ∧ w' = w := by
  go_enter Tryd.func16, Tryd.ntmps16
  go_wp2
  go_ret2
  exact ⟨rfl, rfl⟩
set_option maxRecDepth 100000 in
theorem list_nil (w : World) : Calls Tryd.prog 27 #[.pointer none] w fun e w' => e = .returned (.slice none 0 0) ∧ w' = w := by
  go_enter Tryd.func27, Tryd.ntmps27
  go_wp2
  go_ret
  exact ⟨rfl, rfl⟩
set_option maxRecDepth 100000 in
theorem used_nil (w : World) : Calls Tryd.prog 15 #[.pointer none] w fun e w' => e = .returned (.int .i64 0) ∧ w' = w := by
  go_enter Tryd.func15, Tryd.ntmps15
  go_wp2
  go_ret
  exact ⟨rfl, rfl⟩
set_option maxRecDepth 100000 in
theorem down_nil (w : World) : Calls Tryd.prog 13 #[.pointer none] w fun e w' => e = .returned (.bool false) ∧ w' = w := by
  go_enter Tryd.func13, Tryd.ntmps13
  go_wp2
  go_ret
  exact ⟨rfl, rfl⟩
set_option maxRecDepth 100000 in
theorem arm_nil (n : Int) (w : World) : Calls Tryd.prog 11 #[.pointer none, .int .i64 n] w fun e w' => e = .returned (.tuple #[]) ∧ w' = w := by
  go_enter Tryd.func11, Tryd.ntmps11
  go_wp2
  go_end0
  exact ⟨rfl, rfl⟩
set_option maxRecDepth 100000 in
theorem crash_nil (a : Option Addr) (n c : Nat) (w : World) : Calls Tryd.prog 17 #[.pointer none, .slice a n c] w fun e w' => e = .returned (.tuple #[]) ∧ w' = w := by
  go_enter Tryd.func17, Tryd.ntmps17
  go_wp2
  refine bodyPost_ret (results_none rfl _ _ _) rfl ?_
  exact ⟨rfl, rfl⟩
end Go.Proofs.YtjhhmljebflanaaDoor
