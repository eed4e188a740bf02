/- A nil inbox does nothing. -/
import Derived.Test.YtbofbboogmeneaaInBox
namespace Go.Proofs.Ytbofbboogmeneaa
set_option linter.unusedVariables false
set_option linter.unusedSimpArgs false
open Go.RowKit

set_option maxRecDepth 100000 in
set_option maxHeartbeats 1000000 in
theorem iput_nil (name : ByteArray) (v : VV) (w : World) :
    Calls Try.prog 15 #[.pointer none, .string name, v.val] w fun e w' => e = .returned (.tuple #[.int .u64 0, .bool false]) ∧ Below w.heap.size w w' := by
  obtain ⟨vk, vn, vf, vs, va, vl, vc⟩ := v
  simp only [VV.val]
  go_enter Try.func15, Try.ntmps15
  go_wp2
  go_ret2
  exact ⟨rfl, (Below.refl _ _).alloc (Nat.le_refl _) _⟩

set_option maxRecDepth 100000 in
set_option maxHeartbeats 1000000 in
theorem iforget_nil (id : Nat) (w : World) :
    Calls Try.prog 28 #[.pointer none, .int .u64 id] w fun e w' => e = .returned (.bool false) ∧ w = w' := by
  go_enter Try.func28, Try.ntmps28
  go_wp2
  go_ret
  exact ⟨rfl, rfl⟩

set_option maxRecDepth 100000 in
set_option maxHeartbeats 1000000 in
theorem icount_nil (name : ByteArray) (w : World) :
    Calls Try.prog 17 #[.pointer none, .string name] w fun e w' => e = .returned (.int .i64 0) ∧ w = w' := by
  go_enter Try.func17, Try.ntmps17
  go_wp2
  go_ret
  exact ⟨rfl, rfl⟩

set_option maxRecDepth 100000 in
set_option maxHeartbeats 1000000 in
theorem iwaiting_nil (name : ByteArray) (w : World) :
    Calls Try.prog 14 #[.pointer none, .string name] w fun e w' => e = .returned (.slice none 0 0) ∧ w = w' := by
  go_enter Try.func14, Try.ntmps14
  go_wp2
  go_ret
  exact ⟨rfl, rfl⟩

set_option maxRecDepth 100000 in
set_option maxHeartbeats 1000000 in
theorem inames_nil (w : World) :
    Calls Try.prog 24 #[.pointer none] w fun e w' => e = .returned (.slice none 0 0) ∧ w = w' := by
  go_enter Try.func24, Try.ntmps24
  go_wp2
  go_ret
  exact ⟨rfl, rfl⟩

set_option maxRecDepth 100000 in
set_option maxHeartbeats 1000000 in
theorem itake_nil (name : ByteArray) (id : Nat) (w : World) :
    Calls Try.prog 11 #[.pointer none, .string name, .int .u64 id] w fun e w' => e = .returned (.tuple #[zeroV, .bool false]) ∧ Below w.heap.size w w' := by
  go_enter Try.func11, Try.ntmps11
  go_wp2
  try simp only [Exit.inBlock, Exit.then]
  exact bodyPost_ret (results_row_tmp (P := Try.prog) rfl _ _ w.heap.size 31 #[.int .i64 0, .int .i64 0, .float .f64 0, .string ⟨#[]⟩, .slice none 0 0] (0, 0) _ rfl (heap_alloc_new w _) Try.underlying31 rfl rfl) rfl ⟨rfl, (Below.refl _ _).alloc (Nat.le_refl _) _⟩
end Go.Proofs.Ytbofbboogmeneaa
