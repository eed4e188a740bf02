/- Elements of programs. -/
import Derived.Test.YtccnmoicckjfbaaGreatDoorPAlive
namespace Go.Proofs.YtccnmoicckjfbaaGreatDoor
set_option linter.unusedVariables false
set_option linter.unusedSimpArgs false
open Go.RowKit

theorem Row.inside {w : World} {e : TypeId} {size : Nat} {v : Value} {n : Nat} {xs : List Value} {S : Nat → Prop} (h : Row w e size v n xs S) : Row w e size v n xs (fun k => S k ∧ k < w.heap.size) := by
  refine ⟨h.1, ?_⟩
  rcases h.2 with h0 | ⟨g, off, cap, cur, hv, hS, hg, r⟩
  · exact .inl h0
  · exact .inr ⟨g, off, cap, cur, hv, ⟨hS, lt_of_heap hg⟩, hg, r⟩
theorem elemRow : ElemOf Tryz.prog 29 38 (.slice none 0 0) 1 24 := ⟨Tryz.underlying29, by kernel_rfl, rfl, by decide⟩
theorem elemStep : ElemOf Tryz.prog 38 37 (.agg #[.int .i64 0, .int .i64 0, .string ⟨#[]⟩]) 3 32 := ⟨Tryz.underlying38, by kernel_rfl, rfl, by decide⟩
end Go.Proofs.YtccnmoicckjfbaaGreatDoor
