/- RefLog -/
import Derived.Test.YtgdmdbdljmlkkaaGreatDoorTz19
import Derived.Test.YtgdmdbdljmlkkaaGreatDoorTz21
set_option maxRecDepth 100000
set_option linter.unusedVariables false
set_option linter.unusedSimpArgs false
namespace Go.Proofs.YtgdmdbdljmlkkaaGreatDoor
open Go.RowKit
abbrev rlog (v : Value) (M : LS) : Value := .agg #[.int .i64 M.D.room, v, .int .i64 M.D.plan, .bool M.D.down, .int .i64 M.most, .int .i64 M.n, .int .i64 M.size, .int .i64 M.waiting]
theorem cells8w {w : World} {b : Nat} {x0 x1 x2 x3 x4 x5 x6 x7 : Value} {t : TypeId} {fr : Nat × Nat} (h : w.heap[b]? = some (.cells #[x0, x1, x2, x3, x4, x5, x6, x7] t fr)) :
   w.cell? ⟨b, 0, none⟩ = some x0 ∧ w.cell? ⟨b, 1, none⟩ = some x1 ∧ w.cell? ⟨b, 2, none⟩ = some x2 ∧ w.cell? ⟨b, 3, none⟩ = some x3 ∧ w.cell? ⟨b, 4, none⟩ = some x4 ∧ w.cell? ⟨b, 5, none⟩ = some x5 ∧ w.cell? ⟨b, 6, none⟩ = some x6 ∧ w.cell? ⟨b, 7, none⟩ = some x7 :=
 ⟨cellAt h 0 rfl, cellAt h 1 rfl, cellAt h 2 rfl, cellAt h 3 rfl, cellAt h 4 rfl, cellAt h 5 rfl, cellAt h 6 rfl, cellAt h 7 rfl⟩
theorem refName_any (n : Int) (w : World) :
   Calls Tryz.prog 68 #[.int .i64 n] w fun e w' => e = .returned (.tuple #[.string (nameI n), .bool (decide (1 ≤ n ∧ n ≤ 99999999))]) ∧ w = w' := by
 by_cases h : 1 ≤ n ∧ n ≤ 99999999
 · obtain ⟨m, rfl⟩ := Int.eq_ofNat_of_zero_le (show 0 ≤ n by omega)
   rw [nameI_yes (by omega) (by omega), decide_eq_true h]
   exact refName_yes m w (by omega) (by omega)
 · rw [nameI_no (by omega), decide_eq_false h]
   exact refName_no n w (by omega)
theorem rname_any (v : Value) (M : LS) (w : World) (hv : ∃ a n c, v = .slice a n c) :
   Calls Tryz.prog 96 #[rlog v M] w fun e w' => e = .returned (.string (nameI M.n)) ∧ Below w.heap.size w w' := by
 obtain ⟨a, l, c, rfl⟩ := hv
 obtain ⟨n, size, wt, most, ⟨room, fs, plan, down⟩⟩ := M
 simp only [rlog]
 have HB : Hid (Below w.heap.size w (w.alloc (.cells #[.int .i64 room, .slice a l c, .int .i64 plan, .bool down, .int .i64 most, .int .i64 n, .int .i64 size, .int .i64 wt] 34))) := (Below.refl _ _).alloc (Nat.le_refl _) _
 go_enter Tryz.func96, Tryz.ntmps96
 go_wp2_with fail
 refine (refName_any n _).mono ?_
 rintro e w1 ⟨rfl, rfl⟩
 generalize decide (1 ≤ n ∧ n ≤ 99999999) = q
 go_wp2
 go_ret
 exact ⟨rfl, HB.out⟩
theorem belh_step {w0 a b : World} (h : Hid (Below w0.heap.size w0 a)) (hb : Below a.heap.size a b) : Hid (Below w0.heap.size w0 b) := h.out.trans (hb.mono h.out.size)
def DoP (w : World) (T : Nat → Prop) (r : DS × Int) (e : Ending) (w' : World) : Prop :=
 ∃ a c R', e = .returned (.tuple #[rdisk r.1.room (.slice a R'.length c) r.1.plan r.1.down, .int .i64 r.2]) ∧ R'.map RF.f = r.1.files ∧ RLi w' (.slice a R'.length c) R' (fun k => T k ∨ w.heap.size ≤ k) ∧ Below w.heap.size w w'
theorem dop_of {w : World} {T : Nat → Prop} {r : DS × Int} {e : Ending} {w' : World} (h : RPost w T r e w') : DoP w T r e w' := by
 obtain ⟨v, R, he, hf, hr, hb⟩ := h
 obtain ⟨a, c, rfl⟩ := slice_form hr.row
 exact ⟨a, c, R, he, hf, hr, hb⟩
def MPst (w : World) (T : Nat → Prop) (r : LS × Int) (e : Ending) (w' : World) : Prop :=
 ∃ v' R', e = .returned (.tuple #[rlog v' r.1, .int .i64 r.2]) ∧ R'.map RF.f = r.1.D.files ∧ RLi w' v' R' (fun k => T k ∨ w.heap.size ≤ k) ∧ Below w.heap.size w w'
structure MidP (wa W : World) (b4 n0 : Nat) (T : Nat → Prop) (r1 : Int) (a3 : Option Addr) (c3 : Nat) (R3 : List RF) (r3 : Int) (r4 : Bool) : Prop where
 blk : W.heap[b4]? = some (.cells #[.int .i64 r1, .slice a3 R3.length c3, .int .i64 r3, .bool r4] 32 (0, 0))
 lst : RLi W (.slice a3 R3.length c3) R3 (fun k => (T k ∧ k < n0) ∨ (n0 + 2 ≤ k ∧ k ≠ b4))
 bel : Below wa.heap.size wa W
 beh : wa.heap.size ≤ b4
theorem mid_late {wa w3 : World} {n0 m : Nat} {T : Nat → Prop} {r1 : Int} {a3 : Option Addr} {c3 : Nat} {R3 : List RF} {r3 : Int} {r4 : Bool} (hb : Below wa.heap.size wa w3) (hr : RLi w3 (.slice a3 R3.length c3) R3 (fun k => (T k ∧ k < n0) ∨ m ≤ k)) (hm : n0 + 2 ≤ m) (h0 : n0 ≤ wa.heap.size) :
   MidP wa (w3.alloc (.cells #[.int .i64 r1, .slice a3 R3.length c3, .int .i64 r3, .bool r4] 32)) w3.heap.size n0 T r1 a3 c3 R3 r3 r4 := by
 have hs := hb.size
 exact ⟨heap_alloc_new _ _, (hr.tight.below ((Below.refl _ _).alloc (Nat.le_refl _) _)).mono (fun k hk => by rcases hk.1 with h | h; exact .inl h; exact .inr ⟨by omega, by have := hk.2; omega⟩), hb.alloc hs _, hs⟩
theorem mid_set {wa w3 : World} {n0 m b4 : Nat} {T : Nat → Prop} {r1 : Int} {a3 : Option Addr} {c3 : Nat} {R3 : List RF} {r3 : Int} {r4 : Bool} {x0 x1 x2 x3 : Value} (hz : w3.heap[b4]? = some (.cells #[x0, x1, x2, x3] 32 (0, 0))) (hb : Below wa.heap.size wa w3) (hr : RLi w3 (.slice a3 R3.length c3) R3 (fun k => (T k ∧ k < n0) ∨ m ≤ k)) (hm : n0 + 2 ≤ b4 ∧ b4 < m) (h4 : wa.heap.size ≤ b4) :
   MidP wa ((((w3.setCell ⟨b4, 0, none⟩ (.int .i64 r1)).setCell ⟨b4, 1, none⟩ (.slice a3 R3.length c3)).setCell ⟨b4, 2, none⟩ (.int .i64 r3)).setCell ⟨b4, 3, none⟩ (.bool r4)) b4 n0 T r1 a3 c3 R3 r3 r4 := by
 have hno : ¬ ((T b4 ∧ b4 < n0) ∨ m ≤ b4) := by rintro (h | h) <;> omega
 exact ⟨heap_store (heap_store (heap_store (heap_store hz 0 _) 1 _) 2 _) 3 _,
   ((((hr.store (p := ⟨b4, 0, none⟩) hno _).store (p := ⟨b4, 1, none⟩) hno _).store (p := ⟨b4, 2, none⟩) hno _).store (p := ⟨b4, 3, none⟩) hno _).mono (fun k hk => by rcases hk with h | h; exact .inl h; exact .inr ⟨by omega, by omega⟩),
   (((hb.setCell (p := ⟨b4, 0, none⟩) h4 _).setCell (p := ⟨b4, 1, none⟩) h4 _).setCell (p := ⟨b4, 2, none⟩) h4 _).setCell (p := ⟨b4, 3, none⟩) h4 _, h4⟩
set_option maxHeartbeats 4000000 in
theorem rlog_end {fn : Func} {p u : Tmp} (hres : fn.results = #[.cell p 34, .tmp u]) {w W : World} {b2 : Nat} {T TT : Nat → Prop} {n size wt most room plan : Int} {down : Bool} {v : Value} {R : List RF} {r : LS × Int} {x0 x1 x2 x3 x4 x5 x6 x7 : Value} (code : Int) (hz : W.heap[b2]? = some (.cells #[x0, x1, x2, x3, x4, x5, x6, x7] 34 (0, 0)))
   (hb2 : w.heap.size ≤ b2) (hb : Below w.heap.size w W) (hr : RLi W v R TT) (hTT : ∀ k, TT k → T k ∨ w.heap.size ≤ k) (hno : ¬ TT b2) (he : r = (⟨n, size, wt, most, ⟨room, R.map RF.f, plan, down⟩⟩, code)) {tmps : Array Value} (h4 : tmps.getD p undef = .pointer (some ⟨b2, 0, none⟩)) (h5 : tmps.getD u undef = .int .i64 code) :
   bodyPost Tryz.prog fn (MPst w T r) Exit.ret { tmps := tmps, defers := [] } ((((((((W.setCell ⟨b2, 0, none⟩ (.int .i64 room)).setCell ⟨b2, 1, none⟩ v).setCell ⟨b2, 2, none⟩ (.int .i64 plan)).setCell ⟨b2, 3, none⟩ (.bool down)).setCell ⟨b2, 4, none⟩ (.int .i64 most)).setCell ⟨b2, 5, none⟩ (.int .i64 n)).setCell ⟨b2, 6, none⟩ (.int .i64 size)).setCell ⟨b2, 7, none⟩ (.int .i64 wt)) := by
 have H0 : (W.setCell ⟨b2, 0, none⟩ (.int .i64 room)).heap[b2]? = some (.cells #[.int .i64 room, x1, x2, x3, x4, x5, x6, x7] 34 (0, 0)) := heap_store hz 0 (.int .i64 room)
 have H1 : ((W.setCell ⟨b2, 0, none⟩ (.int .i64 room)).setCell ⟨b2, 1, none⟩ (v)).heap[b2]? = some (.cells #[.int .i64 room, v, x2, x3, x4, x5, x6, x7] 34 (0, 0)) := heap_store H0 1 (v)
 have H2 : (((W.setCell ⟨b2, 0, none⟩ (.int .i64 room)).setCell ⟨b2, 1, none⟩ (v)).setCell ⟨b2, 2, none⟩ (.int .i64 plan)).heap[b2]? = some (.cells #[.int .i64 room, v, .int .i64 plan, x3, x4, x5, x6, x7] 34 (0, 0)) := heap_store H1 2 (.int .i64 plan)
 have H3 : ((((W.setCell ⟨b2, 0, none⟩ (.int .i64 room)).setCell ⟨b2, 1, none⟩ (v)).setCell ⟨b2, 2, none⟩ (.int .i64 plan)).setCell ⟨b2, 3, none⟩ (.bool down)).heap[b2]? = some (.cells #[.int .i64 room, v, .int .i64 plan, .bool down, x4, x5, x6, x7] 34 (0, 0)) := heap_store H2 3 (.bool down)
 have H4 : (((((W.setCell ⟨b2, 0, none⟩ (.int .i64 room)).setCell ⟨b2, 1, none⟩ (v)).setCell ⟨b2, 2, none⟩ (.int .i64 plan)).setCell ⟨b2, 3, none⟩ (.bool down)).setCell ⟨b2, 4, none⟩ (.int .i64 most)).heap[b2]? = some (.cells #[.int .i64 room, v, .int .i64 plan, .bool down, .int .i64 most, x5, x6, x7] 34 (0, 0)) := heap_store H3 4 (.int .i64 most)
 have H5 : ((((((W.setCell ⟨b2, 0, none⟩ (.int .i64 room)).setCell ⟨b2, 1, none⟩ (v)).setCell ⟨b2, 2, none⟩ (.int .i64 plan)).setCell ⟨b2, 3, none⟩ (.bool down)).setCell ⟨b2, 4, none⟩ (.int .i64 most)).setCell ⟨b2, 5, none⟩ (.int .i64 n)).heap[b2]? = some (.cells #[.int .i64 room, v, .int .i64 plan, .bool down, .int .i64 most, .int .i64 n, x6, x7] 34 (0, 0)) := heap_store H4 5 (.int .i64 n)
 have H6 : (((((((W.setCell ⟨b2, 0, none⟩ (.int .i64 room)).setCell ⟨b2, 1, none⟩ (v)).setCell ⟨b2, 2, none⟩ (.int .i64 plan)).setCell ⟨b2, 3, none⟩ (.bool down)).setCell ⟨b2, 4, none⟩ (.int .i64 most)).setCell ⟨b2, 5, none⟩ (.int .i64 n)).setCell ⟨b2, 6, none⟩ (.int .i64 size)).heap[b2]? = some (.cells #[.int .i64 room, v, .int .i64 plan, .bool down, .int .i64 most, .int .i64 n, .int .i64 size, x7] 34 (0, 0)) := heap_store H5 6 (.int .i64 size)
 have H7 : ((((((((W.setCell ⟨b2, 0, none⟩ (.int .i64 room)).setCell ⟨b2, 1, none⟩ (v)).setCell ⟨b2, 2, none⟩ (.int .i64 plan)).setCell ⟨b2, 3, none⟩ (.bool down)).setCell ⟨b2, 4, none⟩ (.int .i64 most)).setCell ⟨b2, 5, none⟩ (.int .i64 n)).setCell ⟨b2, 6, none⟩ (.int .i64 size)).setCell ⟨b2, 7, none⟩ (.int .i64 wt)).heap[b2]? = some (.cells #[.int .i64 room, v, .int .i64 plan, .bool down, .int .i64 most, .int .i64 n, .int .i64 size, .int .i64 wt] 34 (0, 0)) := heap_store H6 7 (.int .i64 wt)
 refine bodyPost_ret (results_row_tmp1 (P := Tryz.prog) hres _ _ b2 34 #[.int .i64 room, v, .int .i64 plan, .bool down, .int .i64 most, .int .i64 n, .int .i64 size, .int .i64 wt] (0, 0) _ h4 H7 Tryz.underlying34 rfl rfl) rfl ?_
 rw [h5, he]
 refine ⟨v, R, rfl, rfl, ?_, (((((((hb.setCell (p := ⟨b2, 0, none⟩) hb2 _).setCell (p := ⟨b2, 1, none⟩) hb2 _).setCell (p := ⟨b2, 2, none⟩) hb2 _).setCell (p := ⟨b2, 3, none⟩) hb2 _).setCell (p := ⟨b2, 4, none⟩) hb2 _).setCell (p := ⟨b2, 5, none⟩) hb2 _).setCell (p := ⟨b2, 6, none⟩) hb2 _).setCell (p := ⟨b2, 7, none⟩) hb2 _⟩
 exact ((((((((hr.store (p := ⟨b2, 0, none⟩) hno _).store (p := ⟨b2, 1, none⟩) hno _).store (p := ⟨b2, 2, none⟩) hno _).store (p := ⟨b2, 3, none⟩) hno _).store (p := ⟨b2, 4, none⟩) hno _).store (p := ⟨b2, 5, none⟩) hno _).store (p := ⟨b2, 6, none⟩) hno _).store (p := ⟨b2, 7, none⟩) hno _).mono hTT
theorem syn_done {n size wt most room plan : Int} {down : Bool} {fs : List DF} {D : DS} (h : (D, (0 : Int)) = doF 3 ⟨room, fs, plan, down⟩ (nameI n) ⟨#[]⟩ []) : synG opsF ⟨n, size, wt, most, ⟨room, fs, plan, down⟩⟩ = (⟨n, size, 0, most, D⟩, 0) := by
 have e : opsF.syn ⟨room, fs, plan, down⟩ (nameI n) = (D, 0) := h.symm
 unfold synG
 simp only [e, if_true]
theorem syn_fell {n size wt most room plan c : Int} {down : Bool} {fs : List DF} {D : DS} (h : (D, c) = doF 3 ⟨room, fs, plan, down⟩ (nameI n) ⟨#[]⟩ []) (hc : c ≠ 0) : synG opsF ⟨n, size, wt, most, ⟨room, fs, plan, down⟩⟩ = (⟨n, size, wt, most, D⟩, c) := by
 have e : opsF.syn ⟨room, fs, plan, down⟩ (nameI n) = (D, c) := h.symm
 unfold synG
 simp only [e, if_neg hc]
set_option maxHeartbeats 8000000 in
theorem rsyncL_any (M : LS) (v : Value) (R : List RF) (T : Nat → Prop) (w : World) (h : RLi w v R T) (hf : R.map RF.f = M.D.files) (hL : R.length ≤ 5000) (hp : 0 ≤ M.D.plan ∧ M.D.plan ≤ 9223372036854775807) (hs : sumR R ≤ 1000000000) :
   Calls Tryz.prog 41 #[rlog v M] w (MPst w T (synG opsF M)) := by
 obtain ⟨a, c, rfl⟩ := slice_form h.row
 obtain ⟨n, size, wt, most, ⟨room, fs, plan, down⟩⟩ := M
 simp only at hf hp
 subst hf
 have hnm := nameI_size n
 have HDO : Hid (∀ w', Below w.heap.size w w' → Calls Tryz.prog 64 #[.agg #[.int .i64 room, .slice a R.length c, .int .i64 plan, .bool down], .agg #[.int .i64 3, .string (nameI n), .string ⟨#[]⟩, .slice none 0 0]] w' (DoP w' (fun k => T k ∧ k < w.heap.size) (doF 3 ⟨room, R.map RF.f, plan, down⟩ (nameI n) ⟨#[]⟩ []))) := fun w' hb =>
   (rdo3_any room plan down _ R _ (nameI n) ⟨#[]⟩ [] none 0 w' (h.tight.below hb) hL hp (by omega) (Nat.zero_le _) (Reads.nil _ _) (by simpa using hs)).mono (fun e w2 he => dop_of he)
 have HNM : Hid (∀ w', Below w.heap.size w w' → Calls Tryz.prog 96 #[.agg #[.int .i64 room, .slice a R.length c, .int .i64 plan, .bool down, .int .i64 most, .int .i64 n, .int .i64 size, .int .i64 wt]] w' fun e w2 => e = .returned (.string (nameI n)) ∧ Below w'.heap.size w' w2) := fun w' hb =>
   (rname_any (.slice a R.length c) ⟨n, size, wt, most, ⟨room, R.map RF.f, plan, down⟩⟩ w' ⟨_, _, _, rfl⟩)
 obtain ⟨r, hr⟩ : ∃ r, r = doF 3 ⟨room, R.map RF.f, plan, down⟩ (nameI n) ⟨#[]⟩ [] := ⟨_, rfl⟩
 rw [← hr] at HDO
 have HR := Lib.hid hr
 generalize nameI n = nm at HDO HNM
 clear h hr hnm
 obtain ⟨⟨r1, r2, r3, r4⟩, r5⟩ := r
 go_enter Tryz.func41, Tryz.ntmps41
 go_upto_region 1 with fail
 have HB1 : Hid (Below w.heap.size w ((w.alloc (.cells #[.int .i64 room, .slice a R.length c, .int .i64 plan, .bool down, .int .i64 most, .int .i64 n, .int .i64 size, .int .i64 wt] 34)).alloc (.cells #[.int .i64 0, .slice none 0 0, .int .i64 0, .bool false, .int .i64 0, .int .i64 0, .int .i64 0, .int .i64 0] 34))) := ((Below.refl _ _).alloc (Nat.le_refl _) _).alloc (by simp) _
 have HX1 : Hid (((w.alloc (.cells #[.int .i64 room, .slice a R.length c, .int .i64 plan, .bool down, .int .i64 most, .int .i64 n, .int .i64 size, .int .i64 wt] 34)).alloc (.cells #[.int .i64 0, .slice none 0 0, .int .i64 0, .bool false, .int .i64 0, .int .i64 0, .int .i64 0, .int .i64 0] 34)).heap[w.heap.size]? = some (.cells #[.int .i64 room, .slice a R.length c, .int .i64 plan, .bool down, .int .i64 most, .int .i64 n, .int .i64 size, .int .i64 wt] 34 (0, 0))) := (alloc2_low w _ _).trans (heap_alloc_new w _)
 have HZ1 : Hid (((w.alloc (.cells #[.int .i64 room, .slice a R.length c, .int .i64 plan, .bool down, .int .i64 most, .int .i64 n, .int .i64 size, .int .i64 wt] 34)).alloc (.cells #[.int .i64 0, .slice none 0 0, .int .i64 0, .bool false, .int .i64 0, .int .i64 0, .int .i64 0, .int .i64 0] 34)).heap[w.heap.size + 1]? = some (.cells #[.int .i64 0, .slice none 0 0, .int .i64 0, .bool false, .int .i64 0, .int .i64 0, .int .i64 0, .int .i64 0] 34 (0, 0))) := alloc2_high w _ _ (heap_alloc_new _ _)
 have hsz1 : ((w.alloc (.cells #[.int .i64 room, .slice a R.length c, .int .i64 plan, .bool down, .int .i64 most, .int .i64 n, .int .i64 size, .int .i64 wt] 34)).alloc (.cells #[.int .i64 0, .slice none 0 0, .int .i64 0, .bool false, .int .i64 0, .int .i64 0, .int .i64 0, .int .i64 0] 34)).heap.size = w.heap.size + 2 := by simp
 have HSZ1 := Lib.hid hsz1
 clear hsz1
 generalize (w.alloc (.cells #[.int .i64 room, .slice a R.length c, .int .i64 plan, .bool down, .int .i64 most, .int .i64 n, .int .i64 size, .int .i64 wt] 34)).alloc (.cells #[.int .i64 0, .slice none 0 0, .int .i64 0, .bool false, .int .i64 0, .int .i64 0, .int .i64 0, .int .i64 0] 34) = wa at *
 obtain ⟨x0, x1, x2, x3, x4, x5, x6, x7⟩ := cells8w HX1.out
 have HK : Hid (∀ w', Hid (Below wa.heap.size wa w') → w'.cell? ⟨w.heap.size, 0, none⟩ = some (.int .i64 room) ∧ w'.cell? ⟨w.heap.size, 1, none⟩ = some (.slice a R.length c) ∧ w'.cell? ⟨w.heap.size, 2, none⟩ = some (.int .i64 plan) ∧ w'.cell? ⟨w.heap.size, 3, none⟩ = some (.bool down) ∧ w'.cell? ⟨w.heap.size, 4, none⟩ = some (.int .i64 most) ∧ w'.cell? ⟨w.heap.size, 5, none⟩ = some (.int .i64 n) ∧ w'.cell? ⟨w.heap.size, 6, none⟩ = some (.int .i64 size) ∧ w'.cell? ⟨w.heap.size, 7, none⟩ = some (.int .i64 wt)) := fun w' hb => cells8w ((hb.out.block _ (lt_of_heap HX1.out)).trans HX1.out)
 have HBA : Hid (Below wa.heap.size wa wa.drew) := (Below.refl _ _).drew
 have HBB : Hid (Below wa.heap.size wa (wa.drew.alloc (.cells #[.int .i64 0, .slice none 0 0, .int .i64 0, .bool false] 32))) := HBA.out.alloc (Nat.le_refl _) _
 go_region_held3 (fun w' => w'.cell? ⟨w.heap.size, 0, none⟩ = some (.int .i64 room) ∧ w'.cell? ⟨w.heap.size, 1, none⟩ = some (.slice a R.length c) ∧ w'.cell? ⟨w.heap.size, 2, none⟩ = some (.int .i64 plan) ∧ w'.cell? ⟨w.heap.size, 3, none⟩ = some (.bool down) ∧ w'.cell? ⟨w.heap.size, 4, none⟩ = some (.int .i64 most) ∧ w'.cell? ⟨w.heap.size, 5, none⟩ = some (.int .i64 n) ∧ w'.cell? ⟨w.heap.size, 6, none⟩ = some (.int .i64 size) ∧ w'.cell? ⟨w.heap.size, 7, none⟩ = some (.int .i64 wt)) (first | exact HK.out _ (by assumption) | exact HK.out _ (Lib.hid (by repeat (first | exact Hid.out (by assumption) | (refine Below.setCell ?_ (by first | exact Nat.le_refl _ | (dsimp only; assumption) | (dsimp only; omega)) _)))))
   (first
   | (go_at_call 96; refine (HNM.out _ (HB1.out.trans ((Hid.out (by assumption : Hid (Below wa.heap.size wa _))).mono HB1.out.size))).mono ?_; rintro e w2 ⟨rfl, hb2⟩
      have HB2 := belh_step (w0 := wa) (by assumption) hb2
      have HB2a := Lib.hid (HB2.out.alloc HB2.out.size (.cells #[.int .i64 0, .slice none 0 0, .int .i64 0, .bool false] 32))
      have hs2 := HB2.out.size
      try have Z2 : Hid (w2.heap[wa.heap.size]? = some (.cells #[.int .i64 0, .slice none 0 0, .int .i64 0, .bool false] 32 (0, 0))) := (hb2.block wa.heap.size (by simp)).trans (heap_alloc_new wa.drew _)
      clear hb2)
   | (go_at_call 64; refine (HDO.out _ (HB1.out.trans ((Hid.out (by assumption : Hid (Below wa.heap.size wa _))).mono HB1.out.size))).mono ?_; rintro e w3 ⟨a3, c3, R3, rfl, hf3, hr3, hb3⟩
      have HF3 := Lib.hid hf3
      have HR3 := Lib.hid hr3
      have HB3 := belh_step (w0 := wa) (by assumption) hb3
      have HB3a := Lib.hid (HB3.out.alloc HB3.out.size (.cells #[.int .i64 0, .slice none 0 0, .int .i64 0, .bool false] 32))
      have HB3b := Lib.hid (HB3.out.alloc HB3.out.size (.cells #[.int .i64 r1, .slice a3 R3.length c3, .int .i64 r3, .bool r4] 32))
      first
      | (have Z3 := Lib.hid ((hb3.block _ (lt_of_heap Z2.out)).trans Z2.out)
         obtain ⟨z0, z1, z2, z3⟩ := cells4 Z3.out
         have f0 := freeAt Z3.out 0
         have f1 := freeAt Z3.out 1
         have f2 := freeAt Z3.out 2
         have f3 := freeAt Z3.out 3)
      | (have Z3 : Hid (w3.heap[w2.heap.size]? = some (.cells #[.int .i64 0, .slice none 0 0, .int .i64 0, .bool false] 32 (0, 0))) := (hb3.block w2.heap.size (by simp)).trans (heap_alloc_new w2 _)
         obtain ⟨z0, z1, z2, z3⟩ := cells4 Z3.out
         have f0 := freeAt Z3.out 0
         have f1 := freeAt Z3.out 1
         have f2 := freeAt Z3.out 2
         have f3 := freeAt Z3.out 3)
      | skip
      clear hf3 hr3 hb3))
 all_goals clear HK HBA HBB HNM HDO x0 x1 x2 x3 x4 x5 x6 x7
 all_goals first
 | (have HM := Lib.hid (mid_set (T := T) (r1 := r1) (r3 := r3) (r4 := r4) (n0 := w.heap.size) (b4 := wa.heap.size) Z3.out HB3.out HR3.out (by have := HSZ1.out; have := hs2; have := lt_of_heap Z2.out; omega) (Nat.le_refl _))
    generalize (((w3.setCell ⟨wa.heap.size, 0, none⟩ (.int .i64 r1)).setCell ⟨wa.heap.size, 1, none⟩ (.slice a3 R3.length c3)).setCell ⟨wa.heap.size, 2, none⟩ (.int .i64 r3)).setCell ⟨wa.heap.size, 3, none⟩ (.bool r4) = W4 at HM ⊢
    generalize hb4 : wa.heap.size = b4 at HM ⊢
    clear hb4)
 | (have HM := Lib.hid (mid_set (T := T) (r1 := r1) (r3 := r3) (r4 := r4) (n0 := w.heap.size) (b4 := w2.heap.size) Z3.out HB3.out HR3.out (by have := HSZ1.out; have := hs2; simp <;> omega) hs2)
    generalize (((w3.setCell ⟨w2.heap.size, 0, none⟩ (.int .i64 r1)).setCell ⟨w2.heap.size, 1, none⟩ (.slice a3 R3.length c3)).setCell ⟨w2.heap.size, 2, none⟩ (.int .i64 r3)).setCell ⟨w2.heap.size, 3, none⟩ (.bool r4) = W4 at HM ⊢
    generalize w2.heap.size = b4 at HM ⊢)
 | (have HM := Lib.hid (mid_late (T := T) (r1 := r1) (r3 := r3) (r4 := r4) (n0 := w.heap.size) HB3.out HR3.out (by have := HSZ1.out; have := hs2; simp <;> omega) (by have := HSZ1.out; omega))
    generalize w3.alloc (.cells #[.int .i64 r1, .slice a3 R3.length c3, .int .i64 r3, .bool r4] 32) = W4 at HM ⊢
    generalize w3.heap.size = b4 at HM ⊢)
 all_goals
   have HX4 := Lib.hid ((HM.out.bel.block _ (lt_of_heap HX1.out)).trans HX1.out)
   have HZ4 := Lib.hid ((HM.out.bel.block _ (lt_of_heap HZ1.out)).trans HZ1.out)
   have HB4 := Lib.hid (HB1.out.trans (HM.out.bel.mono HB1.out.size))
   have hb4 : w.heap.size + 2 ≤ b4 := by have := HM.out.beh; have := HSZ1.out; omega
   obtain ⟨y0, y1, y2, y3⟩ := cells4 HM.out.blk
   obtain ⟨x0, x1, x2, x3, x4, x5, x6, x7⟩ := cells8w HX4.out
   obtain ⟨z0, z1, z2, z3, z4, z5, z6, z7⟩ := cells8w HZ4.out
   have g0 := freeAt HX4.out 0
   have g1 := freeAt HX4.out 1
   have g2 := freeAt HX4.out 2
   have g3 := freeAt HX4.out 3
   go_upto_region 3 with fail
   have HX5 : Hid (((((W4.setCell ⟨w.heap.size, 0, none⟩ (.int .i64 r1)).setCell ⟨w.heap.size, 1, none⟩ (.slice a3 R3.length c3)).setCell ⟨w.heap.size, 2, none⟩ (.int .i64 r3)).setCell ⟨w.heap.size, 3, none⟩ (.bool r4)).heap[w.heap.size]? = some (.cells #[.int .i64 r1, .slice a3 R3.length c3, .int .i64 r3, .bool r4, .int .i64 most, .int .i64 n, .int .i64 size, .int .i64 wt] 34 (0, 0))) := heap_store (heap_store (heap_store (heap_store HX4.out 0 _) 1 _) 2 _) 3 _
   have hn1 : w.heap.size + 1 ≠ w.heap.size := by omega
   have HZ5 : Hid (((((W4.setCell ⟨w.heap.size, 0, none⟩ (.int .i64 r1)).setCell ⟨w.heap.size, 1, none⟩ (.slice a3 R3.length c3)).setCell ⟨w.heap.size, 2, none⟩ (.int .i64 r3)).setCell ⟨w.heap.size, 3, none⟩ (.bool r4)).heap[w.heap.size + 1]? = _) := (Below.heap_setCell _ ⟨w.heap.size, 3, none⟩ _ _ hn1).trans ((Below.heap_setCell _ ⟨w.heap.size, 2, none⟩ _ _ hn1).trans ((Below.heap_setCell _ ⟨w.heap.size, 1, none⟩ _ _ hn1).trans ((Below.heap_setCell _ ⟨w.heap.size, 0, none⟩ _ _ hn1).trans HZ4.out)))
   have HB5 : Hid (Below w.heap.size w ((((W4.setCell ⟨w.heap.size, 0, none⟩ (.int .i64 r1)).setCell ⟨w.heap.size, 1, none⟩ (.slice a3 R3.length c3)).setCell ⟨w.heap.size, 2, none⟩ (.int .i64 r3)).setCell ⟨w.heap.size, 3, none⟩ (.bool r4))) := (((HB4.out.setCell (p := ⟨w.heap.size, 0, none⟩) (Nat.le_refl _) _).setCell (p := ⟨w.heap.size, 1, none⟩) (Nat.le_refl _) _).setCell (p := ⟨w.heap.size, 2, none⟩) (Nat.le_refl _) _).setCell (p := ⟨w.heap.size, 3, none⟩) (Nat.le_refl _) _
   have hno : ¬ ((T w.heap.size ∧ w.heap.size < w.heap.size) ∨ (w.heap.size + 2 ≤ w.heap.size ∧ w.heap.size ≠ b4)) := by rintro (h | h) <;> omega
   have HR5 : Hid (RLi ((((W4.setCell ⟨w.heap.size, 0, none⟩ (.int .i64 r1)).setCell ⟨w.heap.size, 1, none⟩ (.slice a3 R3.length c3)).setCell ⟨w.heap.size, 2, none⟩ (.int .i64 r3)).setCell ⟨w.heap.size, 3, none⟩ (.bool r4)) (.slice a3 R3.length c3) R3 (fun k => (T k ∧ k < w.heap.size) ∨ (w.heap.size + 2 ≤ k ∧ k ≠ b4))) := (((HM.out.lst.store (p := ⟨w.heap.size, 0, none⟩) hno _).store (p := ⟨w.heap.size, 1, none⟩) hno _).store (p := ⟨w.heap.size, 2, none⟩) hno _).store (p := ⟨w.heap.size, 3, none⟩) hno _
   clear x0 x1 x2 x3 x4 x5 x6 x7 y0 y1 y2 y3 z0 z1 z2 z3 z4 z5 z6 z7 g0 g1 g2 g3 HX4 HZ4 HB4 HM
   generalize ((((W4.setCell ⟨w.heap.size, 0, none⟩ (.int .i64 r1)).setCell ⟨w.heap.size, 1, none⟩ (.slice a3 R3.length c3)).setCell ⟨w.heap.size, 2, none⟩ (.int .i64 r3)).setCell ⟨w.heap.size, 3, none⟩ (.bool r4)) = W5 at *
   have hno2 : ¬ ((T (w.heap.size + 1) ∧ w.heap.size + 1 < w.heap.size) ∨ (w.heap.size + 2 ≤ w.heap.size + 1 ∧ w.heap.size + 1 ≠ b4)) := by rintro (h | h) <;> omega
   have hTT : ∀ k, ((T k ∧ k < w.heap.size) ∨ (w.heap.size + 2 ≤ k ∧ k ≠ b4)) → T k ∨ w.heap.size ≤ k := fun k hk => by rcases hk with h | h; exact .inl h.1; exact .inr (by omega)
   have HNO := Lib.hid hno2
   have HTT := Lib.hid hTT
   clear hno2 hTT
   obtain ⟨x0, x1, x2, x3, x4, x5, x6, x7⟩ := cells8w HX5.out
   obtain ⟨z0, z1, z2, z3, z4, z5, z6, z7⟩ := cells8w HZ5.out
   have q0 := freeAt HZ5.out 0
   have q1 := freeAt HZ5.out 1
   have q2 := freeAt HZ5.out 2
   have q3 := freeAt HZ5.out 3
   have q4 := freeAt HZ5.out 4
   have q5 := freeAt HZ5.out 5
   have q6 := freeAt HZ5.out 6
   have q7 := freeAt HZ5.out 7
   have HF := Lib.hid (show R3.map RF.f = r2 from HF3.out)
   by_cases hr5 : r5 = 0
   · subst hr5
     have g7 := freeAt HX5.out 7
     go_upto_region 5 with fail
     have HX6 : Hid ((W5.setCell ⟨w.heap.size, 7, none⟩ (.int .i64 0)).heap[w.heap.size]? = some (.cells #[.int .i64 r1, .slice a3 R3.length c3, .int .i64 r3, .bool r4, .int .i64 most, .int .i64 n, .int .i64 size, .int .i64 0] 34 (0, 0))) := heap_store HX5.out 7 _
     have HZ6 : Hid ((W5.setCell ⟨w.heap.size, 7, none⟩ (.int .i64 0)).heap[w.heap.size + 1]? = _) := (Below.heap_setCell _ ⟨w.heap.size, 7, none⟩ _ _ hn1).trans HZ5.out
     have HB6 : Hid (Below w.heap.size w (W5.setCell ⟨w.heap.size, 7, none⟩ (.int .i64 0))) := HB5.out.setCell (p := ⟨w.heap.size, 7, none⟩) (Nat.le_refl _) _
     have HR6 : Hid (RLi (W5.setCell ⟨w.heap.size, 7, none⟩ (.int .i64 0)) (.slice a3 R3.length c3) R3 (fun k => (T k ∧ k < w.heap.size) ∨ (w.heap.size + 2 ≤ k ∧ k ≠ b4))) := HR5.out.store (p := ⟨w.heap.size, 7, none⟩) hno _
     clear x0 x1 x2 x3 x4 x5 x6 x7 z0 z1 z2 z3 z4 z5 z6 z7 q0 q1 q2 q3 q4 q5 q6 q7 g7 HX5 HZ5 HB5 HR5
     generalize W5.setCell ⟨w.heap.size, 7, none⟩ (.int .i64 0) = W6 at *
     obtain ⟨x0, x1, x2, x3, x4, x5, x6, x7⟩ := cells8w HX6.out
     obtain ⟨z0, z1, z2, z3, z4, z5, z6, z7⟩ := cells8w HZ6.out
     have q0 := freeAt HZ6.out 0
     have q1 := freeAt HZ6.out 1
     have q2 := freeAt HZ6.out 2
     have q3 := freeAt HZ6.out 3
     have q4 := freeAt HZ6.out 4
     have q5 := freeAt HZ6.out 5
     have q6 := freeAt HZ6.out 6
     have q7 := freeAt HZ6.out 7
     go_wp2
     try simp only [Exit.inBlock, Exit.then]
     exact rlog_end Tryz.results41 (b2 := w.heap.size + 1) (room := r1) (plan := r3) (down := r4) 0 HZ6.out (by omega) HB6.out HR6.out HTT.out HNO.out (by rw [HF.out]; exact syn_done HR.out) rfl rfl
   · have hb5 : (r5 == 0) = false := by simpa using hr5
     go_wp2
     try simp only [Exit.inBlock, Exit.then]
     exact rlog_end Tryz.results41 (b2 := w.heap.size + 1) (room := r1) (plan := r3) (down := r4) r5 HZ5.out (by omega) HB5.out HR5.out HTT.out HNO.out (by rw [HF.out]; exact syn_fell HR.out hr5) rfl rfl
end Go.Proofs.YtgdmdbdljmlkkaaGreatDoor
