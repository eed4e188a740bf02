/- The bits of numbers, as the program has them. -/
import Derived.Test.YtpijpeocdlnhiaaGreatDoorFloat
namespace Go.Proofs.YtpijpeocdlnhiaaGreatDoor
set_option linter.unusedVariables false
set_option linter.unusedSimpArgs false
open Go.RowKit

theorem call_bits2 (f : Nat) (w : World) : (callFunc 110 #[.int .u64 f]).run Tryz.prog w = .ok (.value (.float .f64 f)) w := by
  rw [run_callFunc_extern (e := Extern.MathFloatBits.float64frombits) Tryz.func110 (by kernel_rfl) (by kernel_rfl) (by kernel_rfl) (by kernel_rfl)]
  rfl

theorem order_self (f : Nat) (hf : f < 18446744073709551616) : (FloatKind.f64.format.order f f != some .eq) = nanB f := by
  rw [nanB_mod hf]
  show (Ieee.double.order f f != some .eq) = _
  unfold Ieee.Format.order Ieee.Format.read
  have hs : Ieee.double.signWeight = 9223372036854775808 := by decide
  have hb : Ieee.double.binade = 4503599627370496 := by decide
  have hi : Ieee.double.infRung = 9218868437227405312 := by decide
  rw [hs, hb, hi]
  have hlt : f % 9223372036854775808 < 9223372036854775808 := Nat.mod_lt _ (by decide)
  generalize f % 9223372036854775808 = r at *
  simp only
  split
  · rename_i h
    rw [decide_eq_false (by omega)]
    simp [Ieee.Datum.order]
  · split
    · rename_i h
      rw [decide_eq_false (by omega)]
      simp [Ieee.Datum.order]
    · split
      · rename_i h
        rw [decide_eq_false (by omega)]
        simp [Ieee.Datum.order]
      · rw [decide_eq_true (by omega)]
        simp [Ieee.Datum.order]
end Go.Proofs.YtpijpeocdlnhiaaGreatDoor
