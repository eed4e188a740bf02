/- The kinds of payloads: of, blank, and the bits of numbers. -/
import Derived.Test.YtpijpeocdlnhiaaGreatDoorFBits
import Derived.Test.YtpijpeocdlnhiaaGreatDoorVClone
import Derived.IntWalk
namespace Go.Proofs.YtpijpeocdlnhiaaGreatDoor
set_option linter.unusedVariables false
set_option linter.unusedSimpArgs false
open Go.RowKit

set_option maxRecDepth 100000 in
set_option maxHeartbeats 1000000 in
theorem canon_any (f : Nat) (hf : f < 18446744073709551616) (w : World) :
    Calls Tryz.prog 74 #[.float .f64 f] w fun e w' => e = .returned (.float .f64 (canonB f)) ∧ w = w' := by
  have hb : ∀ (w : World), (callFunc 110 #[.int .u64 9221120237041090561]).run Tryz.prog w = .ok (.value (.float .f64 9221120237041090561)) w := fun w => call_bits2 9221120237041090561 w
  have HO := order_self f hf
  have HC : Hid (canonB f = if nanB f then 9221120237041090561 else f) := rfl
  clear hf
  generalize canonB f = c at *
  generalize nanB f = x at *
  go_enter Tryz.func74, Tryz.ntmps74
  cases x
  · go_wp2
    go_ret
    exact ⟨by rw [HC.out]; rfl, rfl⟩
  · go_wp2
    go_ret
    exact ⟨by rw [HC.out]; rfl, rfl⟩

set_option maxRecDepth 100000 in
set_option maxHeartbeats 1000000 in
theorem nbits_any (f : Nat) (hf : f < 18446744073709551616) (w : World) :
    Calls Tryz.prog 46 #[.float .f64 f] w fun e w' => e = .returned (.int .u64 (canonB f)) ∧ w = w' := by
  have hb : ∀ (f : Nat) (w : World), (callFunc 73 #[.float .f64 f]).run Tryz.prog w = .ok (.value (.int .u64 f)) w := call_bits
  go_enter Tryz.func46, Tryz.ntmps46
  go_wp2_with fail
  refine (canon_any f hf _).mono ?_
  rintro e w1 ⟨rfl, rfl⟩
  go_wp2
  go_ret
  exact ⟨rfl, rfl⟩

/-- The kind of a number, as an interface value. -/
def kindV (k : Int) : Value :=
  if k = 0 then .iface 103 (.agg #[]) else if k = 1 then .iface 104 (.agg #[]) else if k = 2 then .iface 105 (.agg #[])
  else if k = 3 then .iface 106 (.agg #[]) else if k = 4 then .iface 107 (.agg #[]) else .nilIface

set_option maxRecDepth 100000 in
set_option maxHeartbeats 1000000 in
theorem of_any (k : Int) (w : World) :
    Calls Tryz.prog 39 #[.int .i64 k] w fun e w' => e = .returned (kindV k) ∧ w = w' := by
  by_cases h : k < 0 ∨ 4 < k
  · have hk : kindV k = .nilIface := by unfold kindV; rw [if_neg (by omega), if_neg (by omega), if_neg (by omega), if_neg (by omega), if_neg (by omega)]
    rw [hk]
    clear hk
    rcases h with h | h
    · have h1 : decide (k < 0) = true := by simpa using h
      go_enter Tryz.func39, Tryz.ntmps39
      go_wp2
      go_ret
      exact ⟨rfl, rfl⟩
    · have h0 : decide (k < 0) = false := by simp; omega
      have h1 : decide (4 < k) = true := by simpa using h
      go_enter Tryz.func39, Tryz.ntmps39
      go_wp2
      go_ret
      exact ⟨rfl, rfl⟩
  · have h5 : k = 0 ∨ k = 1 ∨ k = 2 ∨ k = 3 ∨ k = 4 := by omega
    clear h
    have hix0 : ∀ w, (Instr.index 108 (.agg #[.iface 103 (.agg #[]), .iface 104 (.agg #[]), .iface 105 (.agg #[]), .iface 106 (.agg #[]), .iface 107 (.agg #[])]) (.int .i64 0)).run Tryz.prog w = .ok (.iface 103 (.agg #[])) w := fun _ => by kernel_rfl
    have hix1 : ∀ w, (Instr.index 108 (.agg #[.iface 103 (.agg #[]), .iface 104 (.agg #[]), .iface 105 (.agg #[]), .iface 106 (.agg #[]), .iface 107 (.agg #[])]) (.int .i64 1)).run Tryz.prog w = .ok (.iface 104 (.agg #[])) w := fun _ => by kernel_rfl
    have hix2 : ∀ w, (Instr.index 108 (.agg #[.iface 103 (.agg #[]), .iface 104 (.agg #[]), .iface 105 (.agg #[]), .iface 106 (.agg #[]), .iface 107 (.agg #[])]) (.int .i64 2)).run Tryz.prog w = .ok (.iface 105 (.agg #[])) w := fun _ => by kernel_rfl
    have hix3 : ∀ w, (Instr.index 108 (.agg #[.iface 103 (.agg #[]), .iface 104 (.agg #[]), .iface 105 (.agg #[]), .iface 106 (.agg #[]), .iface 107 (.agg #[])]) (.int .i64 3)).run Tryz.prog w = .ok (.iface 106 (.agg #[])) w := fun _ => by kernel_rfl
    have hix4 : ∀ w, (Instr.index 108 (.agg #[.iface 103 (.agg #[]), .iface 104 (.agg #[]), .iface 105 (.agg #[]), .iface 106 (.agg #[]), .iface 107 (.agg #[])]) (.int .i64 4)).run Tryz.prog w = .ok (.iface 107 (.agg #[])) w := fun _ => by kernel_rfl
    rcases h5 with rfl | rfl | rfl | rfl | rfl
    all_goals
      go_enter Tryz.func39, Tryz.ntmps39
      go_wp2
      go_ret
      exact ⟨rfl, rfl⟩
end Go.Proofs.YtpijpeocdlnhiaaGreatDoor
