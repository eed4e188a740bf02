/- The text of a step of any kind. -/
import Derived.Test.YtoocagpjcbagoaaDoorPCheck
import Derived.Lib.ItoaLen
namespace Go.Proofs.YtoocagpjcbagoaaDoor
set_option linter.unusedVariables false
set_option linter.unusedSimpArgs false
open Go.RowKit

abbrev Tab (w : World) : Prop := Lib.TabIs Tryd.prog w powName .u64 Lib.pow10Tab
theorem below_grow (w : World) (k : Nat) (os : Array Obj) : Below w.heap.size w (Sort.grow (w.drewN k) os) :=
  ⟨rfl, rfl, rfl, by show w.heap.size ≤ (w.heap ++ os).size; rw [Array.size_append]; omega, fun j hj => by
    show (w.heap ++ os)[j]? = w.heap[j]?
    rw [Array.getElem?_append_left hj]⟩
theorem tab_below {w w' : World} (h : Tab w) (hb : Below w.heap.size w w') : Tab w' := by
  unfold Tab Lib.TabIs World.var? at *
  cases hg : Tryd.prog.globalNamed powName with
  | none => simp [hg] at h
  | some g =>
    simp only [hg, Option.bind_some] at h ⊢
    have hlt : g < w.heap.size := by
      rcases Nat.lt_or_ge g w.heap.size with h' | h'
      · exact h'
      · rw [Array.getElem?_eq_none h'] at h; simp at h
    rw [hb.block g hlt]
    exact h
theorem word_size {i : Nat} {x : ByteArray} (h : wordsL[i]? = some x) : x.size ≤ 5 := by
  have hall : ∀ y ∈ wordsL, y.size ≤ 5 := by decide
  exact hall x (List.mem_of_getElem? h)

set_option maxRecDepth 100000 in
set_option maxHeartbeats 2000000 in
theorem stext_bare (k : Nat) (hk : k = 7 ∨ k = 11) (wd : ByteArray) (hwd : wordsL[k]? = some wd) (n : Int) (s : ByteArray) (w : World) (hw : Words w) :
    Calls Tryd.prog 20 #[.agg #[.int .i64 k, .int .i64 n, .string s]] w fun e w' => e = .returned (.string wd) ∧ Below w.heap.size w w' := by
  have hX : (w.alloc (.cells #[.int .i64 k, .int .i64 n, .string s] 26)).heap[w.heap.size]? = some (.cells #[.int .i64 k, .int .i64 n, .string s] 26 (0, 0)) := heap_alloc_new w _
  have HX := Lib.hid hX
  have HBel : Hid (Below w.heap.size w (w.alloc (.cells #[.int .i64 k, .int .i64 n, .string s] 26))) := (Below.refl _ _).alloc (Nat.le_refl _) _
  have hwl := (hw.later HBel.out).2 k _ hwd
  have H1 : Hid (decide ((k : Int) ∈ numL) = false) := by rw [Hid]; rcases hk with rfl | rfl <;> decide
  have H2 : Hid (decide ((k : Int) ∈ namL) = false) := by rw [Hid]; rcases hk with rfl | rfl <;> decide
  have hk13 : k < 13 := by omega
  clear hX hk
  go_enter Tryd.func20, Tryd.ntmps20
  go_upto_region 1 with fail
  generalize w.alloc (.cells #[.int .i64 k, .int .i64 n, .string s] 26) = wa at *
  have x0 := cellAt HX.out 0 rfl
  go_wp2_with fail
  refine (numbered_any k _).mono ?_
  rintro e w2 ⟨rfl, hb2⟩
  rw [H1.out]
  have HX2 := Lib.hid ((hb2.block _ (lt_of_heap HX.out)).trans HX.out)
  have HB2 := Lib.hid (HBel.out.trans (hb2.mono HBel.out.size))
  clear hb2 x0 hwl
  have x0 := cellAt HX2.out 0 rfl
  go_wp2_with fail
  refine (named_any k _).mono ?_
  rintro e w3 ⟨rfl, hb3⟩
  rw [H2.out]
  have HB3 := Lib.hid (HB2.out.trans (hb3.mono HB2.out.size))
  clear hb3 x0
  go_wp2
  go_ret
  exact ⟨rfl, HB3.out⟩

set_option maxRecDepth 100000 in
set_option maxHeartbeats 2000000 in
theorem stext_named (k : Nat) (hk : k = 3 ∨ k = 5 ∨ k = 10 ∨ k = 12) (wd : ByteArray) (hwd : wordsL[k]? = some wd) (n : Int) (s : ByteArray) (w : World) (hw : Words w) (hs : s.size ≤ 1000000) :
    Calls Tryd.prog 20 #[.agg #[.int .i64 k, .int .i64 n, .string s]] w fun e w' => e = .returned (.string (wd ++ ((⟨#[32]⟩ : ByteArray) ++ quoted s))) ∧ Below w.heap.size w w' := by
  have hX : (w.alloc (.cells #[.int .i64 k, .int .i64 n, .string s] 26)).heap[w.heap.size]? = some (.cells #[.int .i64 k, .int .i64 n, .string s] 26 (0, 0)) := heap_alloc_new w _
  have HX := Lib.hid hX
  have HBel : Hid (Below w.heap.size w (w.alloc (.cells #[.int .i64 k, .int .i64 n, .string s] 26))) := (Below.refl _ _).alloc (Nat.le_refl _) _
  have hwl := (hw.later HBel.out).2 k _ hwd
  have hws := word_size hwd
  have H1 : Hid (decide ((k : Int) ∈ numL) = false) := by rw [Hid]; rcases hk with rfl | rfl | rfl | rfl <;> decide
  have H2 : Hid (decide ((k : Int) ∈ namL) = true) := by rw [Hid]; rcases hk with rfl | rfl | rfl | rfl <;> decide
  have hk13 : k < 13 := by omega
  clear hX hk
  go_enter Tryd.func20, Tryd.ntmps20
  go_upto_region 1 with fail
  generalize w.alloc (.cells #[.int .i64 k, .int .i64 n, .string s] 26) = wa at *
  have x0 := cellAt HX.out 0 rfl
  go_wp2_with fail
  refine (numbered_any k _).mono ?_
  rintro e w2 ⟨rfl, hb2⟩
  rw [H1.out]
  have HX2 := Lib.hid ((hb2.block _ (lt_of_heap HX.out)).trans HX.out)
  have HB2 := Lib.hid (HBel.out.trans (hb2.mono HBel.out.size))
  clear hb2 x0 hwl
  have x0 := cellAt HX2.out 0 rfl
  go_wp2_with fail
  refine (named_any k _).mono ?_
  rintro e w3 ⟨rfl, hb3⟩
  rw [H2.out]
  have HX3 := Lib.hid ((hb3.block _ (lt_of_heap HX2.out)).trans HX2.out)
  have HB3 := Lib.hid (HB2.out.trans (hb3.mono HB2.out.size))
  clear hb3 x0
  have x2 := cellAt HX3.out 2 rfl
  go_wp2_with fail
  refine (vtop_text s _ hs).mono ?_
  rintro e w4 ⟨rfl, hb4⟩
  have HB4 := Lib.hid (HB3.out.trans (hb4.mono HB3.out.size))
  clear hb4 x2
  have hq : (quoted s).size ≤ 2000002 := by
    have h1 : (quoted s).size = (34 :: hexL s.data.toList ++ [34]).length := by unfold quoted; rfl
    rw [h1, List.length_append, List.length_cons, hexL_length, bsize]; simp; omega
  obtain ⟨q, hqe⟩ : ∃ q, q = quoted s := ⟨_, rfl⟩
  rw [← hqe] at hq ⊢
  have HQ := Lib.hid hqe
  clear hqe
  go_wp2
  go_ret
  exact ⟨by rw [← HQ.out]; rfl, HB4.out⟩

set_option maxRecDepth 100000 in
set_option maxHeartbeats 2000000 in
theorem stext_num (k : Nat) (hk : k = 1 ∨ k = 2 ∨ k = 4 ∨ k = 6 ∨ k = 8 ∨ k = 9) (wd : ByteArray) (hwd : wordsL[k]? = some wd) (n : Int) (s : ByteArray) (w : World) (hw : Words w) (ht : Tab w) (hn : -9223372036854775808 ≤ n ∧ n ≤ 9223372036854775807) :
    Calls Tryd.prog 20 #[.agg #[.int .i64 k, .int .i64 n, .string s]] w fun e w' => e = .returned (.string (wd ++ ((⟨#[32]⟩ : ByteArray) ++ ⟨(Lib.itoa n).toArray⟩))) ∧ Below w.heap.size w w' := by
  have hX : (w.alloc (.cells #[.int .i64 k, .int .i64 n, .string s] 26)).heap[w.heap.size]? = some (.cells #[.int .i64 k, .int .i64 n, .string s] 26 (0, 0)) := heap_alloc_new w _
  have HX := Lib.hid hX
  have HBel : Hid (Below w.heap.size w (w.alloc (.cells #[.int .i64 k, .int .i64 n, .string s] 26))) := (Below.refl _ _).alloc (Nat.le_refl _) _
  have hwl := (hw.later HBel.out).2 k _ hwd
  have hws := word_size hwd
  have H1 : Hid (decide ((k : Int) ∈ numL) = true) := by rw [Hid]; rcases hk with rfl | rfl | rfl | rfl | rfl | rfl <;> decide
  have hk13 : k < 13 := by omega
  clear hX hk
  go_enter Tryd.func20, Tryd.ntmps20
  go_upto_region 1 with fail
  generalize w.alloc (.cells #[.int .i64 k, .int .i64 n, .string s] 26) = wa at *
  have x0 := cellAt HX.out 0 rfl
  go_wp2_with fail
  refine (numbered_any k _).mono ?_
  rintro e w2 ⟨rfl, hb2⟩
  rw [H1.out]
  have HX2 := Lib.hid ((hb2.block _ (lt_of_heap HX.out)).trans HX.out)
  have HB2 := Lib.hid (HBel.out.trans (hb2.mono HBel.out.size))
  clear hb2 x0 hwl
  have x1 := cellAt HX2.out 1 rfl
  have hc := Lib.hid (Tryd.strconv_FormatInt_10 n hn.1 hn.2 w2 (tab_below ht HB2.out))
  have hlen := Lib.itoa_length_le n hn.1 hn.2
  clear hn ht
  obtain ⟨q, hqe⟩ : ∃ q, q = Lib.itoa n := ⟨_, rfl⟩
  rw [← hqe] at hc hlen
  have HQ := Lib.hid hqe
  clear hqe
  go_wp2_with fail
  refine hc.out.mono ?_
  rintro e w4 ⟨rfl, ka, os, hw4⟩
  have hb4 : Below w2.heap.size w2 w4 := by rw [hw4]; exact below_grow _ _ _
  have HB4 := Lib.hid (HB2.out.trans (hb4.mono HB2.out.size))
  clear hb4 x1 hw4 hc
  have hsz : (⟨q.toArray⟩ : ByteArray).size ≤ 21 := by show q.toArray.size ≤ 21; simpa using hlen
  obtain ⟨qb, hqb⟩ : ∃ qb : ByteArray, qb = ⟨q.toArray⟩ := ⟨_, rfl⟩
  rw [← hqb] at hsz ⊢
  have HQB := Lib.hid hqb
  clear hqb
  go_wp2
  go_ret
  exact ⟨by rw [← HQ.out, ← HQB.out]; rfl, HB4.out⟩

/-- The text of a step. -/
def stextB (x : ST) : ByteArray :=
  if x.k ∈ numL then (wordsL.getD x.k.toNat ⟨#[]⟩) ++ ((⟨#[32]⟩ : ByteArray) ++ ⟨(Lib.itoa x.n).toArray⟩)
  else if x.k ∈ namL then (wordsL.getD x.k.toNat ⟨#[]⟩) ++ ((⟨#[32]⟩ : ByteArray) ++ quoted x.s)
  else wordsL.getD x.k.toNat ⟨#[]⟩

theorem stext_any (x : ST) (hk : 1 ≤ x.k ∧ x.k ≤ 12) (hn : -9223372036854775808 ≤ x.n ∧ x.n ≤ 9223372036854775807) (hs : x.s.size ≤ 1000000) (w : World) (hw : Words w) (ht : Tab w) :
    Calls Tryd.prog 20 #[x.val] w fun e w' => e = .returned (.string (stextB x)) ∧ Below w.heap.size w w' := by
  obtain ⟨k, n, s⟩ := x
  simp only at hk hn hs
  obtain ⟨j, rfl⟩ : ∃ j : Nat, k = j := ⟨k.toNat, by omega⟩
  have hj : j < wordsL.length := show j < 13 by omega
  have hwd : wordsL[j]? = some (wordsL.getD j ⟨#[]⟩) := by rw [List.getD_eq_getElem?_getD, List.getElem?_eq_getElem hj]; rfl
  unfold ST.val stextB
  simp only [Int.toNat_natCast]
  by_cases c1 : (j : Int) ∈ numL
  · rw [if_pos c1]
    exact stext_num j (by simp only [numL, List.mem_cons, List.not_mem_nil, or_false] at c1; omega) _ hwd n s w hw ht hn
  rw [if_neg c1]
  by_cases c2 : (j : Int) ∈ namL
  · rw [if_pos c2]
    exact stext_named j (by simp only [namL, List.mem_cons, List.not_mem_nil, or_false] at c2; omega) _ hwd n s w hw hs
  rw [if_neg c2]
  exact stext_bare j (by simp only [numL, namL, List.mem_cons, List.not_mem_nil, or_false] at c1 c2; omega) _ hwd n s w hw
end Go.Proofs.YtoocagpjcbagoaaDoor
