/- value.text of the kinds that are no lists. -/
import Derived.Test.YtpijpeocdlnhiaaGreatDoorTNum
import Derived.Test.YtpijpeocdlnhiaaGreatDoorPText
import Derived.Test.YtpijpeocdlnhiaaGreatDoorShelf
import Derived.Test.YtpijpeocdlnhiaaGreatDoorTPlainC
import Derived.Test.YtpijpeocdlnhiaaGreatDoorKind
namespace Go.Proofs.YtpijpeocdlnhiaaGreatDoor
set_option linter.unusedVariables false
set_option linter.unusedSimpArgs false
open Go.RowKit

abbrev Tab (w : World) : Prop := Lib.TabIs Tryz.prog w powName .u64 Lib.pow10Tab
theorem Tab.later {w w' : World} (h : Tab w) (hb : Below w.heap.size w w') : Tab w' := by
  unfold Tab Lib.TabIs World.var? at *
  cases hg : Tryz.prog.globalNamed powName with
  | none => simp [hg] at h
  | some g =>
    simp only [hg, Option.bind_some] at h ⊢
    have hlt : g < w.heap.size := by
      rcases Nat.lt_or_ge g w.heap.size with h' | h'
      · exact h'
      · rw [Array.getElem?_eq_none h'] at h; simp at h
    rw [hb.block g hlt]
    exact h
theorem below_grown (w : World) (k : Nat) (os : Array Obj) : Below w.heap.size w (Sort.grow (w.drewN k) os) :=
  ⟨rfl, rfl, rfl, by show w.heap.size ≤ (w.heap ++ os).size; rw [Array.size_append]; omega, fun j hj => by
    show (w.heap ++ os)[j]? = w.heap[j]?
    rw [Array.getElem?_append_left hj]⟩
/-- What the writers of texts lean on: two tables lie where the program laid them. -/
structure Tabs (w : World) : Prop where
  pow : Tab w
  tab : w.cell? ⟨9, 15, none⟩ = some (.int .u8 4)
theorem Tabs.later {w w' : World} (h : Tabs w) (hb : Below w.heap.size w w') : Tabs w' := ⟨h.pow.later hb, (hb.cell (p := ⟨9, 15, none⟩) (World.block_lt_of_cell? w _ h.tab)).trans h.tab⟩
set_option maxRecDepth 100000 in
set_option maxHeartbeats 1000000 in
theorem none_text (v : VV) (w : World) :
    Calls Tryz.prog 212 #[.agg #[], v.val] w fun e w' => e = .returned (.string ⟨nilS.toArray⟩) ∧ Below w.heap.size w w' := by
  obtain ⟨k, n, f, s, a, l, c⟩ := v
  simp only [VV.val]
  go_enter Tryz.func212, Tryz.ntmps212
  go_wp2
  go_ret
  exact ⟨rfl, ((Below.refl _ _).alloc (Nat.le_refl _) _).alloc (by simp) _⟩
set_option maxRecDepth 100000 in
set_option maxHeartbeats 1000000 in
theorem int_text (v : VV) (w : World) (hn : -9223372036854775808 ≤ v.n ∧ v.n ≤ 9223372036854775807) (hT : Tabs w) :
    Calls Tryz.prog 215 #[.agg #[], v.val] w fun e w' => e = .returned (.string ⟨(Lib.itoa v.n).toArray⟩) ∧ Below w.heap.size w w' := by
  obtain ⟨k, n, f, s, a, l, c⟩ := v
  simp only [VV.val] at hn ⊢
  have HB1 : Hid (Below w.heap.size w ((w.alloc (.cells #[] 104)).alloc (.cells #[.int .i64 k, .int .i64 n, .float .f64 f, .string s, .slice a l c] 26))) := ((Below.refl _ _).alloc (Nat.le_refl _) _).alloc (by simp) _
  have HF := Lib.hid (Tryz.strconv_FormatInt_10 n hn.1 hn.2 _ (hT.later HB1.out).pow)
  clear hT
  go_enter Tryz.func215, Tryz.ntmps215
  go_wp2_with fail
  refine HF.out.mono ?_
  rintro e w2 ⟨rfl, dk, dos, rfl⟩
  go_wp2_with fail
  go_ret
  exact ⟨rfl, HB1.out.trans ((below_grown _ dk dos).mono HB1.out.size)⟩
theorem numC_small (b : Nat) : (numC b).length ≤ 100 := by
  unfold numC
  repeat' split
  all_goals first
    | decide
    | simp [hex16]
theorem numTextL_small (f : Nat) : (numTextL f).length ≤ 100 := numC_small _
set_option maxRecDepth 100000 in
set_option maxHeartbeats 1000000 in
theorem float_text (v : VV) (w : World) (hf : v.f < 18446744073709551616) (hT : Tabs w) :
    Calls Tryz.prog 219 #[.agg #[], v.val] w fun e w' => e = .returned (.string ⟨(35 :: numTextL v.f).toArray⟩) ∧ Below w.heap.size w w' := by
  obtain ⟨k, n, f, s, a, l, c⟩ := v
  simp only [VV.val] at hf ⊢
  have HB1 : Hid (Below w.heap.size w ((w.alloc (.cells #[] 105)).alloc (.cells #[.int .i64 k, .int .i64 n, .float .f64 f, .string s, .slice a l c] 26))) := ((Below.refl _ _).alloc (Nat.le_refl _) _).alloc (by simp) _
  have HF := Lib.hid (ntext_any f hf _ (hT.later HB1.out).tab)
  obtain ⟨nt, hnt⟩ : ∃ nt : ByteArray, nt = ⟨(numTextL f).toArray⟩ := ⟨_, rfl⟩
  have hns : nt.size ≤ 100 := by rw [hnt]; show (numTextL f).toArray.size ≤ 100; rw [List.size_toArray]; exact numTextL_small f
  have hcc : (⟨(35 :: numTextL f).toArray⟩ : ByteArray) = ⟨#[35]⟩ ++ nt := by rw [hnt]; exact (ba_app [35] _).symm
  rw [hcc]
  rw [← hnt] at HF
  clear hT hcc hnt
  go_enter Tryz.func219, Tryz.ntmps219
  go_wp2_with fail
  refine HF.out.mono ?_
  rintro e w2 ⟨rfl, hb2⟩
  have HB2 := Lib.hid (HB1.out.trans (hb2.mono HB1.out.size))
  clear hb2
  go_wp2_with fail
  go_ret
  exact ⟨rfl, HB2.out⟩
theorem str_text (v : VV) (w : World) (hs : v.s.size ≤ 1000000) :
    Calls Tryz.prog 222 #[.agg #[], v.val] w fun e w' => e = .returned (.string ⟨(34 :: hexL v.s.data.toList ++ [34]).toArray⟩) ∧ Below w.heap.size w w' := vtext_any v.k v.n v.f v.s v.a v.l v.c w hs
end Go.Proofs.YtpijpeocdlnhiaaGreatDoor
