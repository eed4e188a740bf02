/- Payloads as cells. -/
import Derived.Test.YtpijpeocdlnhiaaGreatDoorChecked
import Derived.Test.YtpijpeocdlnhiaaGreatDoorHeap
namespace Go.Proofs.YtpijpeocdlnhiaaGreatDoor
set_option linter.unusedVariables false
set_option linter.unusedSimpArgs false
open Go.RowKit

/-- A payload as its five cells. -/
structure VV where
  k : Int
  n : Int
  f : Nat
  s : ByteArray
  a : Option Addr
  l : Nat
  c : Nat

def VV.cells (v : VV) : List Value := [.int .i64 v.k, .int .i64 v.n, .float .f64 v.f, .string v.s, .slice v.a v.l v.c]
abbrev VV.val (v : VV) : Value := .agg #[.int .i64 v.k, .int .i64 v.n, .float .f64 v.f, .string v.s, .slice v.a v.l v.c]
def zeroVV : VV := ⟨0, 0, 0, ByteArray.empty, none, 0, 0⟩
theorem VV.one (v : VV) : ∀ u ∈ v.cells, u.oneCell' = true := by
  intro u hu
  simp only [VV.cells, List.mem_cons, List.not_mem_nil, or_false] at hu
  rcases hu with rfl | rfl | rfl | rfl | rfl <;> rfl
abbrev flat (l : List VV) : List Value := l.flatMap VV.cells
theorem flat_length (l : List VV) : (flat l).length = l.length * 5 := by
  induction l with
  | nil => rfl
  | cons a l ih => simp only [flat, List.flatMap_cons, List.length_append, List.length_cons] at *; rw [ih]; simp [VV.cells]; omega
theorem elemVal : ElemOf Tryz.prog 24 26 (.agg #[.int .i64 0, .int .i64 0, .float .f64 0, .string ⟨#[]⟩, .slice none 0 0]) 5 64 := ⟨Tryz.underlying24, by kernel_rfl, rfl, by decide⟩

end Go.Proofs.YtpijpeocdlnhiaaGreatDoor
