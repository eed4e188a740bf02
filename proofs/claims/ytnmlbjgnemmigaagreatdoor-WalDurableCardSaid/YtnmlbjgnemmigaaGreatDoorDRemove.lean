/- (*Disk).Remove and (*Disk).Rename. -/
import Derived.Test.YtnmlbjgnemmigaaGreatDoorDSync
namespace Go.Proofs.YtnmlbjgnemmigaaGreatDoor
set_option linter.unusedVariables false
set_option linter.unusedSimpArgs false
open Go.RowKit

def renameD (D : DS) (n m : ByteArray) : DS × Int :=
  match beginD D [n, m] false with
  | (D1, some c) => (D1, c)
  | (D1, none) => match findD D1.files n with
    | some f => ({ D1 with files := ⟨m, f.b, f.d⟩ :: dropD (dropD D1.files n) m }, 0)
    | none => (D1, 0)

end Go.Proofs.YtnmlbjgnemmigaaGreatDoor
