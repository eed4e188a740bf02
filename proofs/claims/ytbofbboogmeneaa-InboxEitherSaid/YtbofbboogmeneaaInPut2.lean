/- An inbox: the first signal of a name is put. -/
import Derived.Test.YtbofbboogmeneaaInPut
namespace Go.Proofs.Ytbofbboogmeneaa
set_option linter.unusedVariables false
set_option linter.unusedSimpArgs false
open Go.RowKit

set_option maxRecDepth 100000 in
set_option maxHeartbeats 1000000 in
theorem iput_first (x : Value) (name : ByteArray) (v : VV) (φ : World → World → VV → Prop) (V : ByteArray → List VV) (Q : ByteArray → List Nat) (W : Nat → Option ByteArray) (S : Nat → Prop) (w : World) (h : IRep w x V Q W S) (hQ : Q name = []) (hV : V name = [])
    (hcl : ∀ w1, Chg S w w1 → Copies v w1 φ) :
    Calls Try.prog 15 #[x, .string name, v.val] w fun e w' => e = .returned (.tuple #[.int .u64 0, .bool false]) ∧ ∃ u w1 w2, Chg S w w1 ∧ φ w1 w2 u ∧ Below w1.heap.size w1 w2 ∧ Chg (fun k => S k ∨ (w.heap.size ≤ k ∧ k < w1.heap.size)) w2 w' ∧ IRep w' x (upd V name [u]) Q W (fun k => S k ∨ (w.heap.size ≤ k ∧ k < w1.heap.size) ∨ w2.heap.size ≤ k) ∧ Chg S w w' := by
  obtain ⟨vk, vn, vf, vs, va, vl, vc⟩ := v

  obtain ⟨bx, bv, bq, bw, col, pv, pq, rfl, h2⟩ := h
  have hc0 := cellAt h2.blk 0 (v := .map (some bv)) rfl
  have hc1 := cellAt h2.blk 1 (v := .map (some bq)) rfl
  have hbx := lt_of_heap h2.blk
  have hlk := look_q (h2.mq.frame (w' := w.alloc (.cells #[.int .i64 vk, .int .i64 vn, .float .f64 vf, .string vs, .slice va vl vc] 31)) (Below.heap_alloc _ _ _ h2.mq.lt)) name false
  rw [vmap_none hQ] at hlk
  simp only [Option.getD_none, Bool.false_eq_true, if_false] at hlk
  have hlk2 := look_v (h2.mv.frame (w' := w.alloc (.cells #[.int .i64 vk, .int .i64 vn, .float .f64 vf, .string vs, .slice va vl vc] 31)) (Below.heap_alloc _ _ _ h2.mv.lt)) name true
  rw [vmap_none hV] at hlk2
  simp only [Option.getD_none, Option.isSome_none, if_true] at hlk2
  have H2 := Lib.hid h2
  have HCL := Lib.hid hcl
  have HV := Lib.hid hV
  clear h2 hQ hcl hV
  simp only [VV.val] at *
  go_enter Try.func15, Try.ntmps15
  go_wp2_with fail
  refine (qpeek_nil _).mono ?_
  rintro e w1 ⟨rfl, rfl⟩
  have hA : Chg (fun _ => False) w ((w.alloc (.cells #[.int .i64 vk, .int .i64 vn, .float .f64 vf, .string vs, .slice va vl vc] 31)).alloc (.cells #[.slice none 0 0] 69)) := ((Chg.refl _ w).alloc _).alloc _
  have hb0 := heap_alloc_new w (.cells #[.int .i64 vk, .int .i64 vn, .float .f64 vf, .string vs, .slice va vl vc] 31)
  have hb1 := heap_alloc_new (w.alloc (.cells #[.int .i64 vk, .int .i64 vn, .float .f64 vf, .string vs, .slice va vl vc] 31)) (.cells #[.slice none 0 0] 69)
  have hb2 := Below.heap_alloc (w.alloc (.cells #[.int .i64 vk, .int .i64 vn, .float .f64 vf, .string vs, .slice va vl vc] 31)) (.cells #[.slice none 0 0] 69) w.heap.size (by simp)
  rw [hb0] at hb2
  rw [show (w.alloc (.cells #[.int .i64 vk, .int .i64 vn, .float .f64 vf, .string vs, .slice va vl vc] 31)).heap.size = w.heap.size + 1 by simp] at hb1
  have HA := Lib.hid hA
  have HB1 := Lib.hid hb1
  have HB2 := Lib.hid hb2
  have HM := Lib.hid (H2.out.mv.frame (hA.block bv H2.out.mv.lt (fun h => h)))
  have HSZ : Hid (((w.alloc (.cells #[.int .i64 vk, .int .i64 vn, .float .f64 vf, .string vs, .slice va vl vc] 31)).alloc (.cells #[.slice none 0 0] 69)).heap.size = w.heap.size + 2) := by simp [Hid]
  clear hA hb0 hb1 hb2
  go_wp2_with (at_mapUpdate; refine wpList_upd keyS Try.underlying60 rfl rfl (b := bv) rfl HM.out (k := name) rfl (val := .pointer (some ⟨w.heap.size + 1, 0, none⟩)) rfl ?_)
  generalize (w.alloc (.cells #[.int .i64 vk, .int .i64 vn, .float .f64 vf, .string vs, .slice va vl vc] 31)).alloc (.cells #[.slice none 0 0] 69) = wd at *
  intro w3 hm3 hch3 hsz3
  have hbv : bv < w.heap.size := H2.out.mv.lt
  have HB13 := Lib.hid (hch3.heap HB1.out (by intro e; omega))
  have HB23 := Lib.hid (hch3.heap HB2.out (by intro e; omega))
  have HC3 := Lib.hid (HA.out.mono (T := fun k => k = bv) (fun _ h => h.elim) |>.trans hch3 (fun k hk => .inl hk))
  have HM3 := Lib.hid hm3
  have HS3 := Lib.hid (show w3.heap.size = w.heap.size + 2 by have := HSZ.out; omega)
  have HCL3 := Lib.hid (HCL.out w3 (HC3.out.mono (fun k hk => by rw [hk]; exact H2.out.sx.2.1)))
  clear hm3 hch3 hsz3 hc0 hc1 hlk hlk2
  have hx0 := cellAt HB23.out 0 (v := .int .i64 vk) rfl
  have hx1 := cellAt HB23.out 1 (v := .int .i64 vn) rfl
  have hx2 := cellAt HB23.out 2 (v := .float .f64 vf) rfl
  have hx3 := cellAt HB23.out 3 (v := .string vs) rfl
  have hx4 := cellAt HB23.out 4 (v := .slice va vl vc) rfl
  go_wp2_with fail
  refine Calls.mono HCL3.out ?_
  rintro e w4 ⟨u, rfl, hφ, hbl⟩
  have HPHI := Lib.hid hφ
  have HBL := Lib.hid hbl
  have hs3 : w3.heap.size = w.heap.size + 2 := HS3.out
  have hp4 : PRep w4 (.pointer (some ⟨w.heap.size + 1, 0, none⟩)) [] (fun k => k = w.heap.size + 1) :=
    ⟨w.heap.size + 1, .slice none 0 0, fun _ => False, rfl, (hbl.block _ (by omega)).trans HB13.out, Row.nil _ _ _ _, by simp, rfl, fun k hk => hk.elim⟩
  have HPU := Lib.hid (ppush_any _ [] u _ w4 hp4 (by simp))
  have HM4 := Lib.hid (HM3.out.frame (hbl.block bv (by omega)))
  have HC4 := Lib.hid (HC3.out.trans (Chg.ofBelow (S := fun k => k = bv) hbl) (fun k hk => .inl hk))
  clear hφ hbl hp4 hx0 hx1 hx2 hx3 hx4
  go_wp2_with fail
  refine HPU.out.mono ?_
  rintro e w5 ⟨rfl, hp5, hch5⟩
  have HP5 := Lib.hid hp5
  have HC5 := Lib.hid hch5
  clear hp5 hch5
  go_wp2
  go_ret2
  have hle : w3.heap.size ≤ w4.heap.size := HBL.out.size
  have hC : Chg (fun k => k = bv) w w5 := HC4.out.trans HC5.out (fun k hk => .inr (by omega))
  refine ⟨rfl, u, w3, w4, HC3.out.mono (fun k hk => by rw [hk]; exact H2.out.sx.2.1), HPHI.out, HBL.out, HC5.out.mono (fun k hk => .inr (by omega)), ?_, hC.mono (fun k hk => by rw [hk]; exact H2.out.sx.2.1)⟩
  refine H2.out.setVN (fun k hk => by omega) name [u] (.pointer (some ⟨w.heap.size + 1, 0, none⟩)) (hC.mono (fun k hk => .inl hk)) ?_ (fun _ => HP5.out.mono (fun k hk => .inr (by omega)))
  rw [← vmap_put _ _ _ _ _ (by simp)]
  exact HM4.out.frame (HC5.out.block bv HM4.out.lt (by omega))

/-- A signal is put for which nobody waits. -/
theorem iput_keep (x : Value) (name : ByteArray) (v : VV) (φ : World → World → VV → Prop) (V : ByteArray → List VV) (Q : ByteArray → List Nat) (W : Nat → Option ByteArray) (S : Nat → Prop) (w : World) (h : IRep w x V Q W S) (hQ : Q name = []) (hlen : (V name).length < 1000)
    (hcl : ∀ w1, Chg S w w1 → Copies v w1 φ) :
    Calls Try.prog 15 #[x, .string name, v.val] w fun e w' => e = .returned (.tuple #[.int .u64 0, .bool false]) ∧ ∃ u w1 w2, Chg S w w1 ∧ φ w1 w2 u ∧ Below w1.heap.size w1 w2 ∧ Chg (fun k => S k ∨ (w.heap.size ≤ k ∧ k < w1.heap.size)) w2 w' ∧ IRep w' x (upd V name (V name ++ [u])) Q W (fun k => S k ∨ (w.heap.size ≤ k ∧ k < w1.heap.size) ∨ w2.heap.size ≤ k) ∧ Chg S w w' := by
  by_cases hV : V name = []
  · rw [hV]
    exact iput_first x name v φ V Q W S w h hQ hV hcl
  · exact iput_more x name v φ V Q W S w h hQ hV hlen hcl
end Go.Proofs.Ytbofbboogmeneaa
