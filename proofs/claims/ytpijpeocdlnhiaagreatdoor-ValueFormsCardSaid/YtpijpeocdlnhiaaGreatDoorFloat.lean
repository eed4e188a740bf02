/- The bits of floating-point numbers, as the reference has them. -/
import Derived.Test.YtpijpeocdlnhiaaGreatDoorBase
import Derived.Test.YtpijpeocdlnhiaaGreatDoorChecked
import Derived.Laws.Externs
import Derived.Laws.BitsAllLaws
import Derived.Lib.Hide
import Derived.WalkKit
namespace Go.Proofs.YtpijpeocdlnhiaaGreatDoor
set_option linter.unusedVariables false
set_option linter.unusedSimpArgs false
open Go.RowKit

theorem call_bits (f : Nat) (w : World) : (callFunc 73 #[.float .f64 f]).run Tryz.prog w = .ok (.value (.int .u64 f)) w := by
  rw [run_callFunc_extern (e := Extern.MathFloatBits.float64bits) Tryz.func73 (by kernel_rfl) (by kernel_rfl) (by kernel_rfl) (by kernel_rfl)]
  rfl

/-- Are these the bits of a number that is not one? -/
def nanB (b : Nat) : Bool := decide (9218868437227405312 < bits BinOp.and IntKind.u64 (b : Int) 9223372036854775807)
/-- The bits of a number, all that are none alike. -/
def canonB (f : Nat) : Nat := if nanB f then 9221120237041090561 else f

theorem nanB_mod {b : Nat} (hb : b < 18446744073709551616) : nanB b = decide (9218868437227405312 < b % 9223372036854775808) := by
  unfold nanB
  have h := u64_and_nat b 9223372036854775807 hb (by decide)
  have e : b &&& 9223372036854775807 = b % 9223372036854775808 := Nat.and_two_pow_sub_one_eq_mod b 63
  rw [e] at h
  rw [show ((9223372036854775807 : Nat) : Int) = 9223372036854775807 from rfl] at h
  rw [h]
  exact decide_eq_decide.2 (by omega)

set_option maxRecDepth 100000 in
set_option maxHeartbeats 1000000 in
theorem rnan_any (b : Nat) (w : World) :
    Calls Tryz.prog 108 #[.int .u64 b] w fun e w' => e = .returned (.bool (nanB b)) ∧ w = w' := by
  unfold nanB
  go_enter Tryz.func108, Tryz.ntmps108
  go_wp2
  go_ret
  exact ⟨rfl, rfl⟩

set_option maxRecDepth 100000 in
set_option maxHeartbeats 1000000 in
theorem rbits_any (f : Nat) (w : World) :
    Calls Tryz.prog 71 #[.float .f64 f] w fun e w' => e = .returned (.int .u64 (canonB f)) ∧ w = w' := by
  have hb : ∀ (f : Nat) (w : World), (callFunc 73 #[.float .f64 f]).run Tryz.prog w = .ok (.value (.int .u64 f)) w := call_bits
  have HN := Lib.hid (rnan_any f)
  have HC : Hid (canonB f = if nanB f then 9221120237041090561 else f) := rfl
  generalize canonB f = c at *
  generalize nanB f = x at *
  go_enter Tryz.func71, Tryz.ntmps71
  go_wp2_with fail
  refine (HN.out _).mono ?_
  rintro e w1 ⟨rfl, rfl⟩
  cases x
  · go_wp2
    go_ret
    exact ⟨by rw [HC.out]; rfl, rfl⟩
  · go_wp2
    go_ret
    exact ⟨by rw [HC.out]; rfl, rfl⟩

set_option maxRecDepth 100000 in
set_option maxHeartbeats 1000000 in
theorem rsame_any (f g : Nat) (w : World) :
    Calls Tryz.prog 38 #[.float .f64 f, .float .f64 g] w fun e w' => e = .returned (.bool (decide (canonB f = canonB g))) ∧ w = w' := by
  have HF := Lib.hid (rbits_any f)
  have HG := Lib.hid (rbits_any g)
  generalize canonB f = x at *
  generalize canonB g = y at *
  go_enter Tryz.func38, Tryz.ntmps38
  go_wp2_with fail
  refine (HF.out _).mono ?_
  rintro e w1 ⟨rfl, rfl⟩
  go_wp2_with fail
  refine (HG.out _).mono ?_
  rintro e w1 ⟨rfl, rfl⟩
  go_wp2
  go_ret
  refine ⟨?_, rfl⟩
  have : ((x : Int) == (y : Int)) = decide (x = y) := by rw [Bool.eq_iff_iff]; simp; omega
  simp [this]
end Go.Proofs.YtpijpeocdlnhiaaGreatDoor
