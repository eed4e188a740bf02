/- The text of a step. -/
import Derived.Test.YtccnmoicckjfbaaGreatDoorPVText
import Derived.Test.YtccnmoicckjfbaaGreatDoorShelf
namespace Go.Proofs.YtccnmoicckjfbaaGreatDoor
set_option linter.unusedVariables false
set_option linter.unusedSimpArgs false
open Go.RowKit

def wordsL : List ByteArray := [⟨#[]⟩, ⟨#[115, 101, 116]⟩, ⟨#[97, 100, 100]⟩, ⟨#[99, 97, 108, 108]⟩, ⟨#[115, 108, 101, 101, 112]⟩, ⟨#[114, 101, 99, 118]⟩, ⟨#[115, 112, 97, 119, 110]⟩, ⟨#[121, 105, 101, 108, 100]⟩, ⟨#[106, 117, 109, 112]⟩, ⟨#[122, 101, 114, 111]⟩, ⟨#[112, 97, 110, 105, 99]⟩, ⟨#[100, 111, 110, 101]⟩, ⟨#[102, 97, 105, 108]⟩]
/-- The table of the words lies where the program laid it. -/
def Words (w : World) : Prop := 0 < w.heap.size ∧ ∀ i x, wordsL[i]? = some x → w.cell? ⟨0, i, none⟩ = some (.string x)
theorem Words.later {w w' : World} (h : Words w) (hb : Below w.heap.size w w') : Words w' :=
  ⟨Nat.lt_of_lt_of_le h.1 hb.size, fun i x hx => (hb.cell (p := ⟨0, i, none⟩) h.1).trans (h.2 i x hx)⟩

set_option maxRecDepth 100000 in
set_option maxHeartbeats 2000000 in
theorem stext_done (n : Int) (s : ByteArray) (w : World) (hw : Words w) :
    Calls Tryz.prog 17 #[.agg #[.int .i64 11, .int .i64 n, .string s]] w fun e w' => e = .returned (.string ⟨#[100, 111, 110, 101]⟩) ∧ Below w.heap.size w w' := by
  have hX : (w.alloc (.cells #[.int .i64 11, .int .i64 n, .string s] 37)).heap[w.heap.size]? = some (.cells #[.int .i64 11, .int .i64 n, .string s] 37 (0, 0)) := heap_alloc_new w _
  have HX := Lib.hid hX
  have HBel : Hid (Below w.heap.size w (w.alloc (.cells #[.int .i64 11, .int .i64 n, .string s] 37))) := (Below.refl _ _).alloc (Nat.le_refl _) _
  have hwd := (hw.later HBel.out).2 11 _ rfl
  have H1 : Hid (decide ((11 : Int) ∈ numL) = false) := by rw [Hid]; decide
  have H2 : Hid (decide ((11 : Int) ∈ namL) = false) := by rw [Hid]; decide
  clear hX
  go_enter Tryz.func17, Tryz.ntmps17
  go_upto_region 1 with fail
  generalize w.alloc (.cells #[.int .i64 11, .int .i64 n, .string s] 37) = wa at *
  have x0 := cellAt HX.out 0 rfl
  go_wp2_with fail
  refine (numbered_any 11 _).mono ?_
  rintro e w2 ⟨rfl, hb2⟩
  rw [H1.out]
  have HX2 := Lib.hid ((hb2.block _ (lt_of_heap HX.out)).trans HX.out)
  have HB2 := Lib.hid (HBel.out.trans (hb2.mono HBel.out.size))
  clear hb2 x0 hwd
  have x0 := cellAt HX2.out 0 rfl
  go_wp2_with fail
  refine (named_any 11 _).mono ?_
  rintro e w3 ⟨rfl, hb3⟩
  rw [H2.out]
  have HB3 := Lib.hid (HB2.out.trans (hb3.mono HB2.out.size))
  clear hb3 x0
  go_wp2
  go_ret
  exact ⟨rfl, HB3.out⟩

set_option maxRecDepth 100000 in
set_option maxHeartbeats 2000000 in
theorem stext_call (n : Int) (s : ByteArray) (w : World) (hw : Words w) (hs : s.size ≤ 1000000) :
    Calls Tryz.prog 17 #[.agg #[.int .i64 3, .int .i64 n, .string s]] w fun e w' => e = .returned (.string ((⟨#[99, 97, 108, 108]⟩ : ByteArray) ++ ((⟨#[32]⟩ : ByteArray) ++ quoted s))) ∧ Below w.heap.size w w' := by
  have hX : (w.alloc (.cells #[.int .i64 3, .int .i64 n, .string s] 37)).heap[w.heap.size]? = some (.cells #[.int .i64 3, .int .i64 n, .string s] 37 (0, 0)) := heap_alloc_new w _
  have HX := Lib.hid hX
  have HBel : Hid (Below w.heap.size w (w.alloc (.cells #[.int .i64 3, .int .i64 n, .string s] 37))) := (Below.refl _ _).alloc (Nat.le_refl _) _
  have hwd := (hw.later HBel.out).2 3 _ rfl
  have H1 : Hid (decide ((3 : Int) ∈ numL) = false) := by rw [Hid]; decide
  have H2 : Hid (decide ((3 : Int) ∈ namL) = true) := by rw [Hid]; decide
  clear hX
  go_enter Tryz.func17, Tryz.ntmps17
  go_upto_region 1 with fail
  generalize w.alloc (.cells #[.int .i64 3, .int .i64 n, .string s] 37) = wa at *
  have x0 := cellAt HX.out 0 rfl
  go_wp2_with fail
  refine (numbered_any 3 _).mono ?_
  rintro e w2 ⟨rfl, hb2⟩
  rw [H1.out]
  have HX2 := Lib.hid ((hb2.block _ (lt_of_heap HX.out)).trans HX.out)
  have HB2 := Lib.hid (HBel.out.trans (hb2.mono HBel.out.size))
  clear hb2 x0 hwd
  have x0 := cellAt HX2.out 0 rfl
  go_wp2_with fail
  refine (named_any 3 _).mono ?_
  rintro e w3 ⟨rfl, hb3⟩
  rw [H2.out]
  have HX3 := Lib.hid ((hb3.block _ (lt_of_heap HX2.out)).trans HX2.out)
  have HB3 := Lib.hid (HB2.out.trans (hb3.mono HB2.out.size))
  clear hb3 x0
  have x2 := cellAt HX3.out 2 rfl
  go_wp2_with fail
  refine (vtop_text s _ hs).mono ?_
  rintro e w4 ⟨rfl, hb4⟩
  have HB4 := Lib.hid (HB3.out.trans (hb4.mono HB3.out.size))
  clear hb4 x2
  have hq : (quoted s).size ≤ 2000002 := by
    have h1 : (quoted s).size = (34 :: hexL s.data.toList ++ [34]).length := by unfold quoted; rfl
    rw [h1, List.length_append, List.length_cons, hexL_length, bsize]; simp; omega
  obtain ⟨q, hqe⟩ : ∃ q, q = quoted s := ⟨_, rfl⟩
  rw [← hqe] at hq ⊢
  have HQ := Lib.hid hqe
  clear hqe
  go_wp2
  go_ret
  exact ⟨by rw [← HQ.out]; rfl, HB4.out⟩
end Go.Proofs.YtccnmoicckjfbaaGreatDoor
