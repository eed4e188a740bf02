/- The kinds of payloads: of, blank, and the bits of numbers. -/
import Derived.Test.YtoocagpjcbagoaaDoorFBits
import Derived.Test.YtoocagpjcbagoaaDoorVClone
import Derived.IntWalk
namespace Go.Proofs.YtoocagpjcbagoaaDoor
set_option linter.unusedVariables false
set_option linter.unusedSimpArgs false
open Go.RowKit

set_option maxRecDepth 100000 in
set_option maxHeartbeats 1000000 in
theorem canon_any (f : Nat) (hf : f < 18446744073709551616) (w : World) :
    Calls Tryd.prog 55 #[.float .f64 f] w fun e w' => e = .returned (.float .f64 (canonB f)) ∧ w = w' := by
  have hb : ∀ (w : World), (callFunc 58 #[.int .u64 9221120237041090561]).run Tryd.prog w = .ok (.value (.float .f64 9221120237041090561)) w := fun w => call_bits2 9221120237041090561 w
  have HO := order_self f hf
  have HC : Hid (canonB f = if nanB f then 9221120237041090561 else f) := rfl
  clear hf
  generalize canonB f = c at *
  generalize nanB f = x at *
  go_enter Tryd.func55, Tryd.ntmps55
  cases x
  · go_wp2
    go_ret
    exact ⟨by rw [HC.out]; rfl, rfl⟩
  · go_wp2
    go_ret
    exact ⟨by rw [HC.out]; rfl, rfl⟩

set_option maxRecDepth 100000 in
set_option maxHeartbeats 1000000 in
theorem nbits_any (f : Nat) (hf : f < 18446744073709551616) (w : World) :
    Calls Tryd.prog 46 #[.float .f64 f] w fun e w' => e = .returned (.int .u64 (canonB f)) ∧ w = w' := by
  have hb : ∀ (f : Nat) (w : World), (callFunc 54 #[.float .f64 f]).run Tryd.prog w = .ok (.value (.int .u64 f)) w := call_bits
  go_enter Tryd.func46, Tryd.ntmps46
  go_wp2_with fail
  refine (canon_any f hf _).mono ?_
  rintro e w1 ⟨rfl, rfl⟩
  go_wp2
  go_ret
  exact ⟨rfl, rfl⟩

/-- The kind of a number, as an interface value. -/
def kindV (k : Int) : Value :=
  if k = 0 then .iface 88 (.agg #[]) else if k = 1 then .iface 89 (.agg #[]) else if k = 2 then .iface 90 (.agg #[])
  else if k = 3 then .iface 91 (.agg #[]) else if k = 4 then .iface 92 (.agg #[]) else .nilIface

set_option maxRecDepth 100000 in
set_option maxHeartbeats 1000000 in
theorem of_any (k : Int) (w : World) :
    Calls Tryd.prog 36 #[.int .i64 k] w fun e w' => e = .returned (kindV k) ∧ w = w' := by
  by_cases h : k < 0 ∨ 4 < k
  · have hk : kindV k = .nilIface := by unfold kindV; rw [if_neg (by omega), if_neg (by omega), if_neg (by omega), if_neg (by omega), if_neg (by omega)]
    rw [hk]
    clear hk
    rcases h with h | h
    · have h1 : decide (k < 0) = true := by simpa using h
      go_enter Tryd.func36, Tryd.ntmps36
      go_wp2
      go_ret
      exact ⟨rfl, rfl⟩
    · have h0 : decide (k < 0) = false := by simp; omega
      have h1 : decide (4 < k) = true := by simpa using h
      go_enter Tryd.func36, Tryd.ntmps36
      go_wp2
      go_ret
      exact ⟨rfl, rfl⟩
  · have h5 : k = 0 ∨ k = 1 ∨ k = 2 ∨ k = 3 ∨ k = 4 := by omega
    clear h
    have hix0 : ∀ w, (Instr.index 93 (.agg #[.iface 88 (.agg #[]), .iface 89 (.agg #[]), .iface 90 (.agg #[]), .iface 91 (.agg #[]), .iface 92 (.agg #[])]) (.int .i64 0)).run Tryd.prog w = .ok (.iface 88 (.agg #[])) w := fun _ => by kernel_rfl
    have hix1 : ∀ w, (Instr.index 93 (.agg #[.iface 88 (.agg #[]), .iface 89 (.agg #[]), .iface 90 (.agg #[]), .iface 91 (.agg #[]), .iface 92 (.agg #[])]) (.int .i64 1)).run Tryd.prog w = .ok (.iface 89 (.agg #[])) w := fun _ => by kernel_rfl
    have hix2 : ∀ w, (Instr.index 93 (.agg #[.iface 88 (.agg #[]), .iface 89 (.agg #[]), .iface 90 (.agg #[]), .iface 91 (.agg #[]), .iface 92 (.agg #[])]) (.int .i64 2)).run Tryd.prog w = .ok (.iface 90 (.agg #[])) w := fun _ => by kernel_rfl
    have hix3 : ∀ w, (Instr.index 93 (.agg #[.iface 88 (.agg #[]), .iface 89 (.agg #[]), .iface 90 (.agg #[]), .iface 91 (.agg #[]), .iface 92 (.agg #[])]) (.int .i64 3)).run Tryd.prog w = .ok (.iface 91 (.agg #[])) w := fun _ => by kernel_rfl
    have hix4 : ∀ w, (Instr.index 93 (.agg #[.iface 88 (.agg #[]), .iface 89 (.agg #[]), .iface 90 (.agg #[]), .iface 91 (.agg #[]), .iface 92 (.agg #[])]) (.int .i64 4)).run Tryd.prog w = .ok (.iface 92 (.agg #[])) w := fun _ => by kernel_rfl
    rcases h5 with rfl | rfl | rfl | rfl | rfl
    all_goals
      go_enter Tryd.func36, Tryd.ntmps36
      go_wp2
      go_ret
      exact ⟨rfl, rfl⟩
end Go.Proofs.YtoocagpjcbagoaaDoor
