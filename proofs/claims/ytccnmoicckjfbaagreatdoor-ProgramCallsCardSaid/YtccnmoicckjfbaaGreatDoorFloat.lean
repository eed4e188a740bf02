/- Reduced for a layer without the reference's numbers: The bits of floating-point numbers, as the reference has them. -/
import Derived.Test.YtccnmoicckjfbaaGreatDoorBase
import Derived.Test.YtccnmoicckjfbaaGreatDoorChecked
import Derived.Laws.Externs
import Derived.Laws.BitsAllLaws
import Derived.Lib.Hide
import Derived.WalkKit
namespace Go.Proofs.YtccnmoicckjfbaaGreatDoor
set_option linter.unusedVariables false
set_option linter.unusedSimpArgs false
open Go.RowKit

theorem call_bits (f : Nat) (w : World) : (callFunc 71 #[.float .f64 f]).run Tryz.prog w = .ok (.value (.int .u64 f)) w := by
  rw [run_callFunc_extern (e := Extern.MathFloatBits.float64bits) Tryz.func71 (by kernel_rfl) (by kernel_rfl) (by kernel_rfl) (by kernel_rfl)]
  rfl

/-- Are these the bits of a number that is not one? -/
def nanB (b : Nat) : Bool := decide (9218868437227405312 < bits BinOp.and IntKind.u64 (b : Int) 9223372036854775807)
/-- The bits of a number, all that are none alike. -/
def canonB (f : Nat) : Nat := if nanB f then 9221120237041090561 else f

theorem nanB_mod {b : Nat} (hb : b < 18446744073709551616) : nanB b = decide (9218868437227405312 < b % 9223372036854775808) := by
  unfold nanB
  have h := u64_and_nat b 9223372036854775807 hb (by decide)
  have e : b &&& 9223372036854775807 = b % 9223372036854775808 := Nat.and_two_pow_sub_one_eq_mod b 63
  rw [e] at h
  rw [show ((9223372036854775807 : Nat) : Int) = 9223372036854775807 from rfl] at h
  rw [h]
  exact decide_eq_decide.2 (by omega)
end Go.Proofs.YtccnmoicckjfbaaGreatDoor
