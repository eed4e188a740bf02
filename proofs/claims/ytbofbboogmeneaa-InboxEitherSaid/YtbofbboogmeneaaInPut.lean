/- An inbox: a signal is put. -/
import Derived.Test.YtbofbboogmeneaaInForget
namespace Go.Proofs.Ytbofbboogmeneaa
set_option linter.unusedVariables false
set_option linter.unusedSimpArgs false
open Go.RowKit

set_option maxRecDepth 100000 in
set_option maxHeartbeats 1000000 in
theorem iput_wake (x : Value) (name : ByteArray) (v : VV) (a : Nat) (r : List Nat) (V : ByteArray → List VV) (Q : ByteArray → List Nat) (W : Nat → Option ByteArray) (S : Nat → Prop) (w : World) (h : IRep w x V Q W S) (hQ : Q name = a :: r) :
    Calls Try.prog 15 #[x, .string name, v.val] w fun e w' => e = .returned (.tuple #[.int .u64 a, .bool true]) ∧ IRep w' x V (upd Q name r) (fun k => if k = a then none else W k) (fun k => S k ∨ w.heap.size ≤ k) ∧ Chg S w w' := by
  obtain ⟨vk, vn, vf, vs, va, vl, vc⟩ := v
  have hA : Chg S w (w.alloc (.cells #[.int .i64 vk, .int .i64 vn, .float .f64 vf, .string vs, .slice va vl vc] 31)) := (Chg.refl S w).alloc _
  have h1 := h.frame (w' := w.alloc (.cells #[.int .i64 vk, .int .i64 vn, .float .f64 vf, .string vs, .slice va vl vc] 31)) (fun k _ hk => Below.heap_alloc _ _ _ hk)
  have HF := Lib.hid (iforget_any x a name [] r V Q W S _ h1 (by rw [hQ]; rfl))
  obtain ⟨bx, bv, bq, bw, col, pv, pq, rfl, h2⟩ := h
  have hc1 := cellAt h2.blk 1 (v := .map (some bq)) rfl
  have hbx := lt_of_heap h2.blk
  have hlk := look_q (h2.mq.frame (w' := w.alloc (.cells #[.int .i64 vk, .int .i64 vn, .float .f64 vf, .string vs, .slice va vl vc] 31)) (Below.heap_alloc _ _ _ h2.mq.lt)) name false
  have hne : Q name ≠ [] := by rw [hQ]; simp
  have hq := (h2.lines name hne).frame (w' := w.alloc (.cells #[.int .i64 vk, .int .i64 vn, .float .f64 vf, .string vs, .slice va vl vc] 31)) (fun k _ hk => Below.heap_alloc _ _ _ hk)
  rw [vmap_some hne] at hlk
  rw [hQ] at hq
  simp only [Option.getD_some, Bool.false_eq_true, if_false] at hlk
  have HPK := Lib.hid (qpeek_any _ a r _ _ hq)
  have HA := Lib.hid hA
  have HSZ : Hid (w.heap.size ≤ (w.alloc (.cells #[.int .i64 vk, .int .i64 vn, .float .f64 vf, .string vs, .slice va vl vc] 31)).heap.size) := by simp [Hid]
  clear h2 h1 hne hq hQ hA
  simp only [VV.val] at *
  go_enter Try.func15, Try.ntmps15
  go_wp2_with fail
  refine HPK.out.mono ?_
  rintro e w1 ⟨rfl, rfl⟩
  go_wp2_with fail
  refine HF.out.mono ?_
  rintro e w1 ⟨rfl, hi, hch⟩
  have HI := Lib.hid hi
  have HCH := Lib.hid hch
  clear hi hch hc1 hlk
  go_wp2
  go_ret2
  exact ⟨rfl, HI.out.mono (fun k hk => by rcases hk with h | h; exact .inl h; exact .inr (Nat.le_trans HSZ.out h)), HA.out.trans HCH.out (fun k hk => .inl hk)⟩

/-- What a copy comes to. -/
def Copies (v : VV) (w : World) (φ : World → World → VV → Prop) : Prop :=
  Calls Try.prog 21 #[v.val] w fun e w' => ∃ u : VV, e = .returned u.val ∧ φ w w' u ∧ Below w.heap.size w w'

theorem copies_leaf (k n : Int) (f : Nat) (s : ByteArray) (w : World) : Copies (leaf k n f s) w (fun _ _ u => u = leaf k n f s) :=
  (vclone_leaf k n f s w).mono fun e w' h => ⟨_, h.1, rfl, h.2⟩

set_option maxRecDepth 100000 in
set_option maxHeartbeats 1000000 in
theorem iput_more (x : Value) (name : ByteArray) (v : VV) (φ : World → World → VV → Prop) (V : ByteArray → List VV) (Q : ByteArray → List Nat) (W : Nat → Option ByteArray) (S : Nat → Prop) (w : World) (h : IRep w x V Q W S) (hQ : Q name = []) (hV : V name ≠ []) (hlen : (V name).length < 1000)
    (hcl : ∀ w1, Chg S w w1 → Copies v w1 φ) :
    Calls Try.prog 15 #[x, .string name, v.val] w fun e w' => e = .returned (.tuple #[.int .u64 0, .bool false]) ∧ ∃ u w1 w2, Chg S w w1 ∧ φ w1 w2 u ∧ Below w1.heap.size w1 w2 ∧ Chg (fun k => S k ∨ (w.heap.size ≤ k ∧ k < w1.heap.size)) w2 w' ∧ IRep w' x (upd V name (V name ++ [u])) Q W (fun k => S k ∨ (w.heap.size ≤ k ∧ k < w1.heap.size) ∨ w2.heap.size ≤ k) ∧ Chg S w w' := by
  obtain ⟨vk, vn, vf, vs, va, vl, vc⟩ := v
  have hA : Chg S w (w.alloc (.cells #[.int .i64 vk, .int .i64 vn, .float .f64 vf, .string vs, .slice va vl vc] 31)) := (Chg.refl S w).alloc _
  obtain ⟨bx, bv, bq, bw, col, pv, pq, rfl, h2⟩ := h
  have HA0 := Lib.hid (show Chg (fun k => S k ∧ col k = .pile name) w (w.alloc (.cells #[.int .i64 vk, .int .i64 vn, .float .f64 vf, .string vs, .slice va vl vc] 31)) from (Chg.refl _ w).alloc _)
  have hc0 := cellAt h2.blk 0 (v := .map (some bv)) rfl
  have hc1 := cellAt h2.blk 1 (v := .map (some bq)) rfl
  have hbx := lt_of_heap h2.blk
  have hlk := look_q (h2.mq.frame (w' := w.alloc (.cells #[.int .i64 vk, .int .i64 vn, .float .f64 vf, .string vs, .slice va vl vc] 31)) (Below.heap_alloc _ _ _ h2.mq.lt)) name false
  rw [vmap_none hQ] at hlk
  simp only [Option.getD_none, Bool.false_eq_true, if_false] at hlk
  have hlk2 := look_v (h2.mv.frame (w' := w.alloc (.cells #[.int .i64 vk, .int .i64 vn, .float .f64 vf, .string vs, .slice va vl vc] 31)) (Below.heap_alloc _ _ _ h2.mv.lt)) name true
  rw [vmap_some hV] at hlk2
  simp only [Option.getD_some, Option.isSome_some, if_true] at hlk2
  have H2 := Lib.hid h2
  have HA := Lib.hid hA
  have HCL := Lib.hid (hcl _ hA)
  have HV := Lib.hid hV
  have HSZ : Hid (w.heap.size ≤ (w.alloc (.cells #[.int .i64 vk, .int .i64 vn, .float .f64 vf, .string vs, .slice va vl vc] 31)).heap.size) := by simp [Hid]
  clear h2 hQ hA hcl hV
  simp only [VV.val] at *
  go_enter Try.func15, Try.ntmps15
  go_wp2_with fail
  refine (qpeek_nil _).mono ?_
  rintro e w1 ⟨rfl, rfl⟩
  go_wp2_with fail
  refine Calls.mono HCL.out ?_
  rintro e w2 ⟨u, rfl, hφ, hbl⟩
  have HPHI := Lib.hid hφ
  have HBL := Lib.hid hbl
  have HC2 := Lib.hid (HA0.out.trans (Chg.ofBelow (S := fun k => S k ∧ col k = .pile name) hbl) (fun k hk => .inl hk))
  have HP2 := Lib.hid ((H2.out.piles name HV.out).frame (w' := w2) (fun k hk hl => (hbl.block k (by simp <;> omega)).trans (Below.heap_alloc _ _ _ hl)))
  clear hφ hbl hc0 hc1 hlk hlk2
  go_wp2_with fail
  refine (ppush_any _ _ u _ w2 HP2.out hlen).mono ?_
  rintro e w3 ⟨rfl, hp3, hch3⟩
  have HP3 := Lib.hid hp3
  have HC3 := Lib.hid hch3
  clear hp3 hch3
  go_wp2
  go_ret2
  have hle : w.heap.size ≤ w2.heap.size := HC2.out.size
  have hC : Chg (fun k => S k ∧ col k = .pile name) w w3 := HC2.out.trans HC3.out (fun k hk => .inl hk)
  refine ⟨rfl, u, _, w2, HA.out, HPHI.out, HBL.out, HC3.out.mono (fun k hk => .inl hk.1), ?_, hC.mono (fun k hk => hk.1)⟩
  refine H2.out.setVN (fun k hk => by have := HSZ.out; rcases hk with h | h <;> omega) name _ (pv name) (hC.mono (fun k hk => .inr hk)) ?_ (fun _ => HP3.out.mono (fun k hk => by rcases hk with h | h; exact .inl h; exact .inr (.inr h)))
  rw [← vmap_keep _ _ _ _ (by simp) HV.out]
  exact H2.out.mv.frame (hC.block bv H2.out.mv.lt (fun e => by rw [H2.out.cx.2.1] at e; cases e.2))
end Go.Proofs.Ytbofbboogmeneaa
