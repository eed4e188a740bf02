/- A copy of a payload without a list. -/
import Derived.Test.YtbofbboogmeneaaPile
namespace Go.Proofs.Ytbofbboogmeneaa
set_option linter.unusedVariables false
set_option linter.unusedSimpArgs false
open Go.RowKit

/-- A payload without a list. -/
def leaf (k n : Int) (f : Nat) (s : ByteArray) : VV := ⟨k, n, f, s, none, 0, 0⟩

set_option maxRecDepth 100000 in
set_option maxHeartbeats 4000000 in
theorem sclone_nil (w : World) :
    Calls Try.prog 39 #[.slice none 0 0] w fun e w' => e = .returned (.slice none 0 0) ∧ w = w' := by
  go_enter Try.func39, Try.ntmps39
  have he : (binOp .eql 29 (.slice none 0 0) (.slice none 0 0)).run Try.prog w = .ok (.bool true) w := by kernel_rfl
  go_wp2
  go_ret
  exact ⟨rfl, rfl⟩

theorem leaf_end (w : World) (g : Nat) (a b c d e : Value) : ((((w.setCell ⟨g, 0, none⟩ a).setCell ⟨g, 1, none⟩ b).setCell ⟨g, 2, none⟩ c).setCell ⟨g, 3, none⟩ d).setCell ⟨g, 4, none⟩ e = w.setCells g 0 [a, b, c, d, e] := rfl

set_option maxRecDepth 100000 in
set_option maxHeartbeats 4000000 in
theorem vclone_leaf (k n : Int) (f : Nat) (s : ByteArray) (w : World) :
    Calls Try.prog 21 #[(leaf k n f s).val] w fun e w' => e = .returned (leaf k n f s).val ∧ Below w.heap.size w w' := by
  simp only [leaf, VV.val]
  go_enter Try.func21, Try.ntmps21
  go_wp2_with fail
  refine (sclone_nil _).mono ?_
  rintro e w1 ⟨rfl, rfl⟩
  go_wp2
  have hB : Below w.heap.size w ((w.alloc (.cells #[.int .i64 k, .int .i64 n, .float .f64 f, .string s, .slice none 0 0] 31)).alloc (.cells #[.int .i64 0, .int .i64 0, .float .f64 0, .string ⟨#[]⟩, .slice none 0 0] 31)) := ((Below.refl _ _).alloc (Nat.le_refl _) _).alloc (by simp) _
  have h0 := Below.heap_alloc (w.alloc (.cells #[.int .i64 k, .int .i64 n, .float .f64 f, .string s, .slice none 0 0] 31)) (.cells #[.int .i64 0, .int .i64 0, .float .f64 0, .string ⟨#[]⟩, .slice none 0 0] 31) w.heap.size (by simp)
  rw [heap_alloc_new] at h0
  have h1 := heap_alloc_new (w.alloc (.cells #[.int .i64 k, .int .i64 n, .float .f64 f, .string s, .slice none 0 0] 31)) (.cells #[.int .i64 0, .int .i64 0, .float .f64 0, .string ⟨#[]⟩, .slice none 0 0] 31)
  rw [show (w.alloc (.cells #[.int .i64 k, .int .i64 n, .float .f64 f, .string s, .slice none 0 0] 31)).heap.size = w.heap.size + 1 by simp] at h1
  generalize (w.alloc (.cells #[.int .i64 k, .int .i64 n, .float .f64 f, .string s, .slice none 0 0] 31)).alloc (.cells #[.int .i64 0, .int .i64 0, .float .f64 0, .string ⟨#[]⟩, .slice none 0 0] 31) = wd at *
  have HB := Lib.hid hB
  have H0 := Lib.hid h0
  have H1 := Lib.hid h1
  clear hB h0 h1
  go_loopw [12] (fun j w' => j = .int .i64 0 ∧ w' = wd) (fun _ _ => 0)
  case atStart => exact ⟨rfl, rfl⟩
  case round =>
    obtain ⟨rfl, rfl⟩ := hrel
    have hx0 := cellAt H0.out 0 (v := .int .i64 k) rfl
    have hx1 := cellAt H0.out 1 (v := .int .i64 n) rfl
    have hx2 := cellAt H0.out 2 (v := .float .f64 f) rfl
    have hx3 := cellAt H0.out 3 (v := .string s) rfl
    have hx4 := cellAt H0.out 4 (v := .slice none 0 0) rfl
    have hz0 := cellAt H1.out 0 (v := .int .i64 0) rfl
    have hz1 := cellAt H1.out 1 (v := .int .i64 0) rfl
    have hz2 := cellAt H1.out 2 (v := .float .f64 0) rfl
    have hz3 := cellAt H1.out 3 (v := .string ⟨#[]⟩) rfl
    have hz4 := cellAt H1.out 4 (v := .slice none 0 0) rfl
    have hf0 := freeAt H1.out 0
    have hf1 := freeAt H1.out 1
    have hf2 := freeAt H1.out 2
    have hf3 := freeAt H1.out 3
    have hf4 := freeAt H1.out 4
    go_wp2
    try simp only [Exit.inBlock, Exit.then]
    rw [show (w.heap.size + 1 : Nat) = w.heap.size + 1 from rfl, leaf_end]
    refine bodyPost_ret (results_cell_row (P := Try.prog) rfl _ _ (w.heap.size + 1) 31 #[.int .i64 k, .int .i64 n, .float .f64 f, .string s, .slice none 0 0] (0, 0) _ rfl (setCells_same _ _ _ 0 _ _ H1.out (by simp)) Try.underlying31 rfl rfl) rfl ⟨rfl, ?_⟩
    exact (((Chg.ofBelow (S := fun _ => False) HB.out).setCells (.inr (by omega)) 0 _).toBelow (Nat.le_refl _) (fun _ _ h => h))
end Go.Proofs.Ytbofbboogmeneaa
