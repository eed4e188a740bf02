/- Bytes as hexadecimal digits: plain lists. -/
import Derived.Test.YtpijpeocdlnhiaaGreatDoorBase
namespace Go.Proofs.YtpijpeocdlnhiaaGreatDoor
set_option linter.unusedVariables false
set_option linter.unusedSimpArgs false
open Go.RowKit

def digL : List UInt8 := [48, 49, 50, 51, 52, 53, 54, 55, 56, 57, 97, 98, 99, 100, 101, 102]
def dig (n : Nat) : UInt8 := digL.getD n 0
def hexL : List UInt8 → List UInt8
  | [] => []
  | c :: l => dig (c.toNat / 16) :: dig (c.toNat % 16) :: hexL l
theorem hexL_append (a b : List UInt8) : hexL (a ++ b) = hexL a ++ hexL b := by
  induction a with
  | nil => rfl
  | cons c a ih => simp [hexL, ih]
theorem hexL_length (a : List UInt8) : (hexL a).length = 2 * a.length := by
  induction a with
  | nil => rfl
  | cons c a ih => rw [hexL, List.length_cons, List.length_cons, ih, List.length_cons]; omega
end Go.Proofs.YtpijpeocdlnhiaaGreatDoor
