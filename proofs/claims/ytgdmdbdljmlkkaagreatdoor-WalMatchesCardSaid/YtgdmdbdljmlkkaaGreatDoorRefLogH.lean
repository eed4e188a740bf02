/- The reference's log: its name, and how its methods end. -/
import Derived.Test.YtgdmdbdljmlkkaaGreatDoorWRecs
import Derived.Test.YtgdmdbdljmlkkaaGreatDoorWal3
import Derived.Test.YtgdmdbdljmlkkaaGreatDoorRd2
import Derived.Test.YtgdmdbdljmlkkaaGreatDoorRd3
import Derived.Test.YtgdmdbdljmlkkaaGreatDoorSegName
namespace Go.Proofs.YtgdmdbdljmlkkaaGreatDoor
set_option linter.unusedVariables false
set_option linter.unusedSimpArgs false
open Go.RowKit

/-- The reference's log, by value; v: its files. -/
abbrev rlog (v : Value) (M : LS) : Value := .agg #[.int .i64 M.D.room, v, .int .i64 M.D.plan, .bool M.D.down, .int .i64 M.most, .int .i64 M.n, .int .i64 M.size, .int .i64 M.waiting]
abbrev lcells (v : Value) (M : LS) : Array Value := #[.int .i64 M.D.room, v, .int .i64 M.D.plan, .bool M.D.down, .int .i64 M.most, .int .i64 M.n, .int .i64 M.size, .int .i64 M.waiting]
theorem cells8w {w : World} {b : Nat} {x0 x1 x2 x3 x4 x5 x6 x7 : Value} {t : TypeId} {fr : Nat × Nat} (h : w.heap[b]? = some (.cells #[x0, x1, x2, x3, x4, x5, x6, x7] t fr)) :
    w.cell? ⟨b, 0, none⟩ = some x0 ∧ w.cell? ⟨b, 1, none⟩ = some x1 ∧ w.cell? ⟨b, 2, none⟩ = some x2 ∧ w.cell? ⟨b, 3, none⟩ = some x3 ∧ w.cell? ⟨b, 4, none⟩ = some x4 ∧ w.cell? ⟨b, 5, none⟩ = some x5 ∧ w.cell? ⟨b, 6, none⟩ = some x6 ∧ w.cell? ⟨b, 7, none⟩ = some x7 :=
  ⟨cellAt h 0 rfl, cellAt h 1 rfl, cellAt h 2 rfl, cellAt h 3 rfl, cellAt h 4 rfl, cellAt h 5 rfl, cellAt h 6 rfl, cellAt h 7 rfl⟩

theorem refName_any (n : Int) (w : World) :
    Calls Tryz.prog 68 #[.int .i64 n] w fun e w' => e = .returned (.tuple #[.string (nameI n), .bool (decide (1 ≤ n ∧ n ≤ 99999999))]) ∧ w = w' := by
  by_cases h : 1 ≤ n ∧ n ≤ 99999999
  · obtain ⟨m, rfl⟩ := Int.eq_ofNat_of_zero_le (show 0 ≤ n by omega)
    rw [nameI_yes (by omega) (by omega), decide_eq_true h]
    exact refName_yes m w (by omega) (by omega)
  · rw [nameI_no (by omega), decide_eq_false h]
    exact refName_no n w (by omega)
set_option maxRecDepth 100000 in
theorem rname_any (v : Value) (M : LS) (w : World) (hv : ∃ a n c, v = .slice a n c) :
    Calls Tryz.prog 96 #[rlog v M] w fun e w' => e = .returned (.string (nameI M.n)) ∧ Below w.heap.size w w' := by
  obtain ⟨a, l, c, rfl⟩ := hv
  obtain ⟨n, size, wt, most, ⟨room, fs, plan, down⟩⟩ := M
  simp only [rlog]
  have HB : Hid (Below w.heap.size w (w.alloc (.cells #[.int .i64 room, .slice a l c, .int .i64 plan, .bool down, .int .i64 most, .int .i64 n, .int .i64 size, .int .i64 wt] 34))) := (Below.refl _ _).alloc (Nat.le_refl _) _
  go_enter Tryz.func96, Tryz.ntmps96
  go_wp2_with fail
  refine (refName_any n _).mono ?_
  rintro e w1 ⟨rfl, rfl⟩
  generalize decide (1 ≤ n ∧ n ≤ 99999999) = q
  go_wp2
  go_ret
  exact ⟨rfl, HB.out⟩

theorem belh_step {w0 a b : World} (h : Hid (Below w0.heap.size w0 a)) (hb : Below a.heap.size a b) : Hid (Below w0.heap.size w0 b) := h.out.trans (hb.mono h.out.size)
/-- What a change of the reference's disk leaves. -/
def DoP (w : World) (T : Nat → Prop) (r : DS × Int) (e : Ending) (w' : World) : Prop :=
  ∃ a c R', e = .returned (.tuple #[rdisk r.1.room (.slice a R'.length c) r.1.plan r.1.down, .int .i64 r.2]) ∧ R'.map RF.f = r.1.files ∧ RLi w' (.slice a R'.length c) R' (fun k => T k ∨ w.heap.size ≤ k) ∧ Below w.heap.size w w'
theorem dop_of {w : World} {T : Nat → Prop} {r : DS × Int} {e : Ending} {w' : World} (h : RPost w T r e w') : DoP w T r e w' := by
  obtain ⟨v, R, he, hf, hr, hb⟩ := h
  obtain ⟨a, c, rfl⟩ := slice_form hr.row
  exact ⟨a, c, R, he, hf, hr, hb⟩
/-- What a call of the reference's log leaves. -/
def MPst (w : World) (T : Nat → Prop) (r : LS × Int) (e : Ending) (w' : World) : Prop :=
  ∃ v' R', e = .returned (.tuple #[rlog v' r.1, .int .i64 r.2]) ∧ R'.map RF.f = r.1.D.files ∧ RLi w' v' R' (fun k => T k ∨ w.heap.size ≤ k) ∧ Below w.heap.size w w'

/-- Behind a drawn call of Do: the disk that it gave, in a block of its own. -/
structure MidP (wa W : World) (b4 n0 : Nat) (T : Nat → Prop) (r1 : Int) (a3 : Option Addr) (c3 : Nat) (R3 : List RF) (r3 : Int) (r4 : Bool) : Prop where
  blk : W.heap[b4]? = some (.cells #[.int .i64 r1, .slice a3 R3.length c3, .int .i64 r3, .bool r4] 32 (0, 0))
  lst : RLi W (.slice a3 R3.length c3) R3 (fun k => (T k ∧ k < n0) ∨ (n0 + 2 ≤ k ∧ k ≠ b4))
  bel : Below wa.heap.size wa W
  beh : wa.heap.size ≤ b4
theorem mid_late {wa w3 : World} {n0 m : Nat} {T : Nat → Prop} {r1 : Int} {a3 : Option Addr} {c3 : Nat} {R3 : List RF} {r3 : Int} {r4 : Bool} (hb : Below wa.heap.size wa w3) (hr : RLi w3 (.slice a3 R3.length c3) R3 (fun k => (T k ∧ k < n0) ∨ m ≤ k)) (hm : n0 + 2 ≤ m) (h0 : n0 ≤ wa.heap.size) :
    MidP wa (w3.alloc (.cells #[.int .i64 r1, .slice a3 R3.length c3, .int .i64 r3, .bool r4] 32)) w3.heap.size n0 T r1 a3 c3 R3 r3 r4 := by
  have hs := hb.size
  exact ⟨heap_alloc_new _ _, (hr.tight.below ((Below.refl _ _).alloc (Nat.le_refl _) _)).mono (fun k hk => by rcases hk.1 with h | h; exact .inl h; exact .inr ⟨by omega, by have := hk.2; omega⟩), hb.alloc hs _, hs⟩
theorem mid_set {wa w3 : World} {n0 m b4 : Nat} {T : Nat → Prop} {r1 : Int} {a3 : Option Addr} {c3 : Nat} {R3 : List RF} {r3 : Int} {r4 : Bool} {x0 x1 x2 x3 : Value} (hz : w3.heap[b4]? = some (.cells #[x0, x1, x2, x3] 32 (0, 0))) (hb : Below wa.heap.size wa w3) (hr : RLi w3 (.slice a3 R3.length c3) R3 (fun k => (T k ∧ k < n0) ∨ m ≤ k)) (hm : n0 + 2 ≤ b4 ∧ b4 < m) (h4 : wa.heap.size ≤ b4) :
    MidP wa ((((w3.setCell ⟨b4, 0, none⟩ (.int .i64 r1)).setCell ⟨b4, 1, none⟩ (.slice a3 R3.length c3)).setCell ⟨b4, 2, none⟩ (.int .i64 r3)).setCell ⟨b4, 3, none⟩ (.bool r4)) b4 n0 T r1 a3 c3 R3 r3 r4 := by
  have hno : ¬ ((T b4 ∧ b4 < n0) ∨ m ≤ b4) := by rintro (h | h) <;> omega
  exact ⟨heap_store (heap_store (heap_store (heap_store hz 0 _) 1 _) 2 _) 3 _,
    ((((hr.store (p := ⟨b4, 0, none⟩) hno _).store (p := ⟨b4, 1, none⟩) hno _).store (p := ⟨b4, 2, none⟩) hno _).store (p := ⟨b4, 3, none⟩) hno _).mono (fun k hk => by rcases hk with h | h; exact .inl h; exact .inr ⟨by omega, by omega⟩),
    (((hb.setCell (p := ⟨b4, 0, none⟩) h4 _).setCell (p := ⟨b4, 1, none⟩) h4 _).setCell (p := ⟨b4, 2, none⟩) h4 _).setCell (p := ⟨b4, 3, none⟩) h4 _, h4⟩

set_option maxRecDepth 100000 in
set_option maxHeartbeats 4000000 in
/-- How the reference's methods end: the log is stored into the result's block. -/
theorem rlog_end {fn : Func} {p u : Tmp} (hres : fn.results = #[.cell p 34, .tmp u]) {w W : World} {b2 : Nat} {T TT : Nat → Prop} {n size wt most room plan : Int} {down : Bool} {v : Value} {R : List RF} {r : LS × Int} {x0 x1 x2 x3 x4 x5 x6 x7 : Value} (code : Int) (hz : W.heap[b2]? = some (.cells #[x0, x1, x2, x3, x4, x5, x6, x7] 34 (0, 0)))
    (hb2 : w.heap.size ≤ b2) (hb : Below w.heap.size w W) (hr : RLi W v R TT) (hTT : ∀ k, TT k → T k ∨ w.heap.size ≤ k) (hno : ¬ TT b2) (he : r = (⟨n, size, wt, most, ⟨room, R.map RF.f, plan, down⟩⟩, code)) {tmps : Array Value} (h4 : tmps.getD p undef = .pointer (some ⟨b2, 0, none⟩)) (h5 : tmps.getD u undef = .int .i64 code) :
    bodyPost Tryz.prog fn (MPst w T r) Exit.ret { tmps := tmps, defers := [] } ((((((((W.setCell ⟨b2, 0, none⟩ (.int .i64 room)).setCell ⟨b2, 1, none⟩ v).setCell ⟨b2, 2, none⟩ (.int .i64 plan)).setCell ⟨b2, 3, none⟩ (.bool down)).setCell ⟨b2, 4, none⟩ (.int .i64 most)).setCell ⟨b2, 5, none⟩ (.int .i64 n)).setCell ⟨b2, 6, none⟩ (.int .i64 size)).setCell ⟨b2, 7, none⟩ (.int .i64 wt)) := by
  have H0 : (W.setCell ⟨b2, 0, none⟩ (.int .i64 room)).heap[b2]? = some (.cells #[.int .i64 room, x1, x2, x3, x4, x5, x6, x7] 34 (0, 0)) := heap_store hz 0 (.int .i64 room)
  have H1 : ((W.setCell ⟨b2, 0, none⟩ (.int .i64 room)).setCell ⟨b2, 1, none⟩ (v)).heap[b2]? = some (.cells #[.int .i64 room, v, x2, x3, x4, x5, x6, x7] 34 (0, 0)) := heap_store H0 1 (v)
  have H2 : (((W.setCell ⟨b2, 0, none⟩ (.int .i64 room)).setCell ⟨b2, 1, none⟩ (v)).setCell ⟨b2, 2, none⟩ (.int .i64 plan)).heap[b2]? = some (.cells #[.int .i64 room, v, .int .i64 plan, x3, x4, x5, x6, x7] 34 (0, 0)) := heap_store H1 2 (.int .i64 plan)
  have H3 : ((((W.setCell ⟨b2, 0, none⟩ (.int .i64 room)).setCell ⟨b2, 1, none⟩ (v)).setCell ⟨b2, 2, none⟩ (.int .i64 plan)).setCell ⟨b2, 3, none⟩ (.bool down)).heap[b2]? = some (.cells #[.int .i64 room, v, .int .i64 plan, .bool down, x4, x5, x6, x7] 34 (0, 0)) := heap_store H2 3 (.bool down)
  have H4 : (((((W.setCell ⟨b2, 0, none⟩ (.int .i64 room)).setCell ⟨b2, 1, none⟩ (v)).setCell ⟨b2, 2, none⟩ (.int .i64 plan)).setCell ⟨b2, 3, none⟩ (.bool down)).setCell ⟨b2, 4, none⟩ (.int .i64 most)).heap[b2]? = some (.cells #[.int .i64 room, v, .int .i64 plan, .bool down, .int .i64 most, x5, x6, x7] 34 (0, 0)) := heap_store H3 4 (.int .i64 most)
  have H5 : ((((((W.setCell ⟨b2, 0, none⟩ (.int .i64 room)).setCell ⟨b2, 1, none⟩ (v)).setCell ⟨b2, 2, none⟩ (.int .i64 plan)).setCell ⟨b2, 3, none⟩ (.bool down)).setCell ⟨b2, 4, none⟩ (.int .i64 most)).setCell ⟨b2, 5, none⟩ (.int .i64 n)).heap[b2]? = some (.cells #[.int .i64 room, v, .int .i64 plan, .bool down, .int .i64 most, .int .i64 n, x6, x7] 34 (0, 0)) := heap_store H4 5 (.int .i64 n)
  have H6 : (((((((W.setCell ⟨b2, 0, none⟩ (.int .i64 room)).setCell ⟨b2, 1, none⟩ (v)).setCell ⟨b2, 2, none⟩ (.int .i64 plan)).setCell ⟨b2, 3, none⟩ (.bool down)).setCell ⟨b2, 4, none⟩ (.int .i64 most)).setCell ⟨b2, 5, none⟩ (.int .i64 n)).setCell ⟨b2, 6, none⟩ (.int .i64 size)).heap[b2]? = some (.cells #[.int .i64 room, v, .int .i64 plan, .bool down, .int .i64 most, .int .i64 n, .int .i64 size, x7] 34 (0, 0)) := heap_store H5 6 (.int .i64 size)
  have H7 : ((((((((W.setCell ⟨b2, 0, none⟩ (.int .i64 room)).setCell ⟨b2, 1, none⟩ (v)).setCell ⟨b2, 2, none⟩ (.int .i64 plan)).setCell ⟨b2, 3, none⟩ (.bool down)).setCell ⟨b2, 4, none⟩ (.int .i64 most)).setCell ⟨b2, 5, none⟩ (.int .i64 n)).setCell ⟨b2, 6, none⟩ (.int .i64 size)).setCell ⟨b2, 7, none⟩ (.int .i64 wt)).heap[b2]? = some (.cells #[.int .i64 room, v, .int .i64 plan, .bool down, .int .i64 most, .int .i64 n, .int .i64 size, .int .i64 wt] 34 (0, 0)) := heap_store H6 7 (.int .i64 wt)
  refine bodyPost_ret (results_row_tmp1 (P := Tryz.prog) hres _ _ b2 34 #[.int .i64 room, v, .int .i64 plan, .bool down, .int .i64 most, .int .i64 n, .int .i64 size, .int .i64 wt] (0, 0) _ h4 H7 Tryz.underlying34 rfl rfl) rfl ?_
  rw [h5, he]
  refine ⟨v, R, rfl, rfl, ?_, (((((((hb.setCell (p := ⟨b2, 0, none⟩) hb2 _).setCell (p := ⟨b2, 1, none⟩) hb2 _).setCell (p := ⟨b2, 2, none⟩) hb2 _).setCell (p := ⟨b2, 3, none⟩) hb2 _).setCell (p := ⟨b2, 4, none⟩) hb2 _).setCell (p := ⟨b2, 5, none⟩) hb2 _).setCell (p := ⟨b2, 6, none⟩) hb2 _).setCell (p := ⟨b2, 7, none⟩) hb2 _⟩
  exact ((((((((hr.store (p := ⟨b2, 0, none⟩) hno _).store (p := ⟨b2, 1, none⟩) hno _).store (p := ⟨b2, 2, none⟩) hno _).store (p := ⟨b2, 3, none⟩) hno _).store (p := ⟨b2, 4, none⟩) hno _).store (p := ⟨b2, 5, none⟩) hno _).store (p := ⟨b2, 6, none⟩) hno _).store (p := ⟨b2, 7, none⟩) hno _).mono hTT
set_option maxRecDepth 100000 in
set_option maxHeartbeats 4000000 in
/-- The same with one result. -/
theorem rlog_end1 {fn : Func} {p : Tmp} (hres : fn.results = #[.cell p 34]) {W : World} {b2 : Nat} {n size wt most room plan : Int} {down : Bool} {v : Value} {x0 x1 x2 x3 x4 x5 x6 x7 : Value} (hz : W.heap[b2]? = some (.cells #[x0, x1, x2, x3, x4, x5, x6, x7] 34 (0, 0)))
    {tmps : Array Value} (h4 : tmps.getD p undef = .pointer (some ⟨b2, 0, none⟩)) {Q : Ending → World → Prop}
    (hQ : Q (.returned (.agg #[.int .i64 room, v, .int .i64 plan, .bool down, .int .i64 most, .int .i64 n, .int .i64 size, .int .i64 wt])) ((((((((W.setCell ⟨b2, 0, none⟩ (.int .i64 room)).setCell ⟨b2, 1, none⟩ v).setCell ⟨b2, 2, none⟩ (.int .i64 plan)).setCell ⟨b2, 3, none⟩ (.bool down)).setCell ⟨b2, 4, none⟩ (.int .i64 most)).setCell ⟨b2, 5, none⟩ (.int .i64 n)).setCell ⟨b2, 6, none⟩ (.int .i64 size)).setCell ⟨b2, 7, none⟩ (.int .i64 wt))) :
    bodyPost Tryz.prog fn Q Exit.ret { tmps := tmps, defers := [] } ((((((((W.setCell ⟨b2, 0, none⟩ (.int .i64 room)).setCell ⟨b2, 1, none⟩ v).setCell ⟨b2, 2, none⟩ (.int .i64 plan)).setCell ⟨b2, 3, none⟩ (.bool down)).setCell ⟨b2, 4, none⟩ (.int .i64 most)).setCell ⟨b2, 5, none⟩ (.int .i64 n)).setCell ⟨b2, 6, none⟩ (.int .i64 size)).setCell ⟨b2, 7, none⟩ (.int .i64 wt)) := by
  have H0 : (W.setCell ⟨b2, 0, none⟩ (.int .i64 room)).heap[b2]? = some (.cells #[.int .i64 room, x1, x2, x3, x4, x5, x6, x7] 34 (0, 0)) := heap_store hz 0 (.int .i64 room)
  have H1 : ((W.setCell ⟨b2, 0, none⟩ (.int .i64 room)).setCell ⟨b2, 1, none⟩ (v)).heap[b2]? = some (.cells #[.int .i64 room, v, x2, x3, x4, x5, x6, x7] 34 (0, 0)) := heap_store H0 1 (v)
  have H2 : (((W.setCell ⟨b2, 0, none⟩ (.int .i64 room)).setCell ⟨b2, 1, none⟩ (v)).setCell ⟨b2, 2, none⟩ (.int .i64 plan)).heap[b2]? = some (.cells #[.int .i64 room, v, .int .i64 plan, x3, x4, x5, x6, x7] 34 (0, 0)) := heap_store H1 2 (.int .i64 plan)
  have H3 : ((((W.setCell ⟨b2, 0, none⟩ (.int .i64 room)).setCell ⟨b2, 1, none⟩ (v)).setCell ⟨b2, 2, none⟩ (.int .i64 plan)).setCell ⟨b2, 3, none⟩ (.bool down)).heap[b2]? = some (.cells #[.int .i64 room, v, .int .i64 plan, .bool down, x4, x5, x6, x7] 34 (0, 0)) := heap_store H2 3 (.bool down)
  have H4 : (((((W.setCell ⟨b2, 0, none⟩ (.int .i64 room)).setCell ⟨b2, 1, none⟩ (v)).setCell ⟨b2, 2, none⟩ (.int .i64 plan)).setCell ⟨b2, 3, none⟩ (.bool down)).setCell ⟨b2, 4, none⟩ (.int .i64 most)).heap[b2]? = some (.cells #[.int .i64 room, v, .int .i64 plan, .bool down, .int .i64 most, x5, x6, x7] 34 (0, 0)) := heap_store H3 4 (.int .i64 most)
  have H5 : ((((((W.setCell ⟨b2, 0, none⟩ (.int .i64 room)).setCell ⟨b2, 1, none⟩ (v)).setCell ⟨b2, 2, none⟩ (.int .i64 plan)).setCell ⟨b2, 3, none⟩ (.bool down)).setCell ⟨b2, 4, none⟩ (.int .i64 most)).setCell ⟨b2, 5, none⟩ (.int .i64 n)).heap[b2]? = some (.cells #[.int .i64 room, v, .int .i64 plan, .bool down, .int .i64 most, .int .i64 n, x6, x7] 34 (0, 0)) := heap_store H4 5 (.int .i64 n)
  have H6 : (((((((W.setCell ⟨b2, 0, none⟩ (.int .i64 room)).setCell ⟨b2, 1, none⟩ (v)).setCell ⟨b2, 2, none⟩ (.int .i64 plan)).setCell ⟨b2, 3, none⟩ (.bool down)).setCell ⟨b2, 4, none⟩ (.int .i64 most)).setCell ⟨b2, 5, none⟩ (.int .i64 n)).setCell ⟨b2, 6, none⟩ (.int .i64 size)).heap[b2]? = some (.cells #[.int .i64 room, v, .int .i64 plan, .bool down, .int .i64 most, .int .i64 n, .int .i64 size, x7] 34 (0, 0)) := heap_store H5 6 (.int .i64 size)
  have H7 : ((((((((W.setCell ⟨b2, 0, none⟩ (.int .i64 room)).setCell ⟨b2, 1, none⟩ (v)).setCell ⟨b2, 2, none⟩ (.int .i64 plan)).setCell ⟨b2, 3, none⟩ (.bool down)).setCell ⟨b2, 4, none⟩ (.int .i64 most)).setCell ⟨b2, 5, none⟩ (.int .i64 n)).setCell ⟨b2, 6, none⟩ (.int .i64 size)).setCell ⟨b2, 7, none⟩ (.int .i64 wt)).heap[b2]? = some (.cells #[.int .i64 room, v, .int .i64 plan, .bool down, .int .i64 most, .int .i64 n, .int .i64 size, .int .i64 wt] 34 (0, 0)) := heap_store H6 7 (.int .i64 wt)
  exact bodyPost_ret (results_cell_row (P := Tryz.prog) hres _ _ b2 34 #[.int .i64 room, v, .int .i64 plan, .bool down, .int .i64 most, .int .i64 n, .int .i64 size, .int .i64 wt] (0, 0) _ h4 H7 Tryz.underlying34 rfl rfl) rfl hQ

end Go.Proofs.YtgdmdbdljmlkkaaGreatDoor
