/- The example of the chapter on disks. -/
import Derived.Test.YtjhhmljebflanaaDoorDLive
namespace Go.Proofs.YtjhhmljebflanaaDoor
set_option linter.unusedVariables false
set_option linter.unusedSimpArgs false
open Go.RowKit

def nA : ByteArray := ⟨#[97]⟩
theorem nA_ok : namedB nA = true := by decide

set_option maxRecDepth 100000 in
set_option maxHeartbeats 1000000 in
theorem alive_any (w : World) : Calls Tryd.prog 9 #[] w fun e w' => e = .returned (.bool true) ∧ Below w.heap.size w w' := by
  go_enter Tryd.func9, Tryd.ntmps9
  go_wp2_with fail
  refine (live_new 10 w).mono ?_
  rintro e w1 ⟨x, rfl, -, hl⟩
  have HL := Lib.hid (show Live w w1 x ⟨10, [], 0, false⟩ from hl)
  clear hl
  go_wp2_with fail
  have h2 := live_create HL.out nA (by decide)
  rw [create_one nA_ok (by decide)] at h2
  refine h2.mono ?_
  rintro e w2 ⟨rfl, hl⟩
  have HL2 := Lib.hid (show Live w w2 x ⟨10, [⟨nA, [], 0⟩], 0, false⟩ from hl)
  clear hl h2 HL
  have HBY : Hid (Below w2.heap.size w2 (w2.alloc (.cells #[.int .u8 1, .int .u8 2, .int .u8 3, .int .u8 4, .int .u8 5] 5))) := (Below.refl _ _).alloc (Nat.le_refl _) _
  have HRD : Hid (Reads (w2.alloc (.cells #[.int .u8 1, .int .u8 2, .int .u8 3, .int .u8 4, .int .u8 5] 5)) (.slice (some ⟨w2.heap.size, 0, none⟩) 5 5) 5 1 (byts [1, 2, 3, 4, 5])) := Reads.block (heap_alloc_new _ _) 5 1 rfl
  go_wp2_with fail
  have h3 := live_append_new HL2.out HBY.out nA [1, 2, 3, 4, 5] (some ⟨w2.heap.size, 0, none⟩) 5 (by decide) (by decide) (by decide) HRD.out (fun ad had => by cases had; exact Nat.le_refl _)
  rw [append_one nA_ok (by decide) (by decide)] at h3
  refine h3.mono ?_
  rintro e w3 ⟨rfl, hl⟩
  have HL3 := Lib.hid (show Live w w3 x ⟨10, [⟨nA, [1, 2, 3, 4, 5], 0⟩], 0, false⟩ from hl)
  clear hl h3 HL2 HBY HRD
  have HBY : Hid (Below w3.heap.size w3 (w3.alloc (.cells #[.int .i64 2] 3))) := (Below.refl _ _).alloc (Nat.le_refl _) _
  have HRD : Hid (Reads (w3.alloc (.cells #[.int .i64 2] 3)) (.slice (some ⟨w3.heap.size, 0, none⟩) 1 1) 1 1 ([2].map (Value.int .i64))) := Reads.block (heap_alloc_new _ _) 1 1 rfl
  go_wp2_with fail
  have h4 := live_crash_new HL3.out HBY.out (some ⟨w3.heap.size, 0, none⟩) 1 [2] (by decide) (fun f hf => by simp at hf; subst hf; unfold maxLen; decide) HRD.out (by decide) (fun ad had => by cases had; exact Nat.le_refl _)
  refine h4.mono ?_
  rintro e w4 ⟨ss, ⟨hs1, hs2⟩, rfl, hl⟩
  rw [crash_one hs1 hs2] at hl
  have HL4 := Lib.hid (show Live w w4 x ⟨10, [⟨nA, [1, 2], 2⟩], 0, false⟩ from hl)
  clear hl h4 HL3 HBY HRD hs1 hs2
  go_wp2_with fail
  have h5 := live_read HL4.out nA (by decide)
  rw [read_one] at h5
  refine h5.mono ?_
  rintro e w5 ⟨a, c, rfl, hr, -, hl⟩
  have HB := Lib.hid hl.2
  obtain ⟨b, o, c', hv, hc2, -, hcn⟩ := hr.reads.at (by decide)
  cases hv
  have hc0 : w5.cell? ⟨b, o, none⟩ = some (.int .u8 1) := hcn 0 _ rfl
  have hc1 : w5.cell? ⟨b, o + 1, none⟩ = some (.int .u8 2) := hcn 1 _ rfl
  clear hr hl hcn h5 HL4
  go_wp2
  go_ret
  exact ⟨rfl, HB.out⟩
end Go.Proofs.YtjhhmljebflanaaDoor
