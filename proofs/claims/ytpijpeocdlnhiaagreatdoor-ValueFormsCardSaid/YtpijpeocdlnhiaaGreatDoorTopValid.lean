/- value.Valid. -/
import Derived.Test.YtpijpeocdlnhiaaGreatDoorValid
namespace Go.Proofs.YtpijpeocdlnhiaaGreatDoor
set_option linter.unusedVariables false
set_option linter.unusedSimpArgs false
open Go.RowKit

@[go_sem] theorem run_store_func {P : Program} {w : World} {a : Addr} {m : Mode} (fn : Fn) (x y : Array Value) : (store a (.func fn x y) m).run P w = stored P w a (.func fn x y) m := run_store P w a _ m rfl

set_option maxRecDepth 100000 in
set_option maxHeartbeats 1000000 in
theorem valid_any (t : VT) (v : VV) (S : Nat → Prop) (w : World) (hv : TRead w S t v) (hwf : wfT t) :
    Calls Tryz.prog 16 #[v.val] w fun e w' => e = .returned (.bool (goodT 8 t)) ∧ Below w.heap.size w w' := by
  have HV := Lib.hid hv
  have HWF := Lib.hid hwf
  have hmf : ∀ fn first cap w, (Instr.makeFunc fn first cap).run Tryz.prog w = .ok (.func fn first cap) w := fun _ _ _ _ => rfl
  obtain ⟨k, n, f, s, a, l, c⟩ := v
  simp only [VV.val]
  clear hv hwf
  have HX0 : Hid (((w.alloc (.cells #[.int .i64 k, .int .i64 n, .float .f64 f, .string s, .slice a l c] 26)).alloc (.cells #[.nilFunc] 67)).heap[w.heap.size]? = some (.cells #[.int .i64 k, .int .i64 n, .float .f64 f, .string s, .slice a l c] 26 (0, 0))) := by
    rw [Hid, Below.heap_alloc _ _ _ (by simp)]; exact heap_alloc_new w _
  have HC0 : Hid (((w.alloc (.cells #[.int .i64 k, .int .i64 n, .float .f64 f, .string s, .slice a l c] 26)).alloc (.cells #[.nilFunc] 67)).heap[w.heap.size + 1]? = some (.cells #[.nilFunc] 67 (0, 0))) := by
    have := heap_alloc_new (w.alloc (.cells #[.int .i64 k, .int .i64 n, .float .f64 f, .string s, .slice a l c] 26)) (.cells #[.nilFunc] 67)
    rwa [World.size_alloc] at this
  have HB0 : Hid (Below w.heap.size w ((w.alloc (.cells #[.int .i64 k, .int .i64 n, .float .f64 f, .string s, .slice a l c] 26)).alloc (.cells #[.nilFunc] 67))) := ((Below.refl _ _).alloc (Nat.le_refl _) _).alloc (by simp) _
  have hc0 := cellAt HC0.out 0 (v := .nilFunc) rfl
  have hf0 := freeAt HC0.out 0
  go_enter Tryz.func16, Tryz.ntmps16
  go_wp2_with fail
  have HB1 : Hid (Below w.heap.size w ((w.alloc (.cells #[.int .i64 k, .int .i64 n, .float .f64 f, .string s, .slice a l c] 26)).alloc (.cells #[cloV (w.heap.size + 1)] 67))) := ((Below.refl _ _).alloc (Nat.le_refl _) _).alloc (by simp) _
  have HC1 : Hid (((w.alloc (.cells #[.int .i64 k, .int .i64 n, .float .f64 f, .string s, .slice a l c] 26)).alloc (.cells #[cloV (w.heap.size + 1)] 67)).heap[w.heap.size + 1]? = some (.cells #[cloV (w.heap.size + 1)] 67 (0, 0))) := by
    have := heap_alloc_new (w.alloc (.cells #[.int .i64 k, .int .i64 n, .float .f64 f, .string s, .slice a l c] 26)) (.cells #[cloV (w.heap.size + 1)] 67)
    rwa [World.size_alloc] at this
  refine (valid1_any (w.heap.size + 1) t 8 ⟨k, n, f, s, a, l, c⟩ S _ (by decide) (by decide) (HV.out.later HB1.out) HWF.out HC1.out).mono ?_
  rintro e w2 ⟨rfl, hb⟩
  have HB2 := Lib.hid (HB1.out.trans (hb.mono HB1.out.size))
  go_wp2
  go_ret
  exact ⟨rfl, HB2.out⟩
end Go.Proofs.YtpijpeocdlnhiaaGreatDoor
