/- Texts for trimTwice_holds, joined: RefLog, WalPut, Live8. -/
import Derived.Test.YtgdmdbdljmlkkaaGreatDoorTt15
import Derived.Test.YtgdmdbdljmlkkaaGreatDoorTt18
import Derived.Test.YtgdmdbdljmlkkaaGreatDoorTt20
import Derived.Test.YtgdmdbdljmlkkaaGreatDoorTt14
import Derived.Test.YtgdmdbdljmlkkaaGreatDoorTt16
set_option linter.unusedVariables false
set_option linter.unusedSimpArgs false
namespace Go.Proofs.YtgdmdbdljmlkkaaGreatDoor
open Go.RowKit
abbrev rlog (v : Value) (M : LS) : Value := .agg #[.int .i64 M.D.room, v, .int .i64 M.D.plan, .bool M.D.down, .int .i64 M.most, .int .i64 M.n, .int .i64 M.size, .int .i64 M.waiting]
theorem cells8w {w : World} {b : Nat} {x0 x1 x2 x3 x4 x5 x6 x7 : Value} {t : TypeId} {fr : Nat × Nat} (h : w.heap[b]? = some (.cells #[x0, x1, x2, x3, x4, x5, x6, x7] t fr)) :
    w.cell? ⟨b, 0, none⟩ = some x0 ∧ w.cell? ⟨b, 1, none⟩ = some x1 ∧ w.cell? ⟨b, 2, none⟩ = some x2 ∧ w.cell? ⟨b, 3, none⟩ = some x3 ∧ w.cell? ⟨b, 4, none⟩ = some x4 ∧ w.cell? ⟨b, 5, none⟩ = some x5 ∧ w.cell? ⟨b, 6, none⟩ = some x6 ∧ w.cell? ⟨b, 7, none⟩ = some x7 :=
  ⟨cellAt h 0 rfl, cellAt h 1 rfl, cellAt h 2 rfl, cellAt h 3 rfl, cellAt h 4 rfl, cellAt h 5 rfl, cellAt h 6 rfl, cellAt h 7 rfl⟩
theorem refName_any (n : Int) (w : World) :
    Calls Tryz.prog 68 #[.int .i64 n] w fun e w' => e = .returned (.tuple #[.string (nameI n), .bool (decide (1 ≤ n ∧ n ≤ 99999999))]) ∧ w = w' := by
  by_cases h : 1 ≤ n ∧ n ≤ 99999999
  · obtain ⟨m, rfl⟩ := Int.eq_ofNat_of_zero_le (show 0 ≤ n by omega)
    rw [nameI_yes (by omega) (by omega), decide_eq_true h]
    exact refName_yes m w (by omega) (by omega)
  · rw [nameI_no (by omega), decide_eq_false h]
    exact refName_no n w (by omega)
set_option maxRecDepth 100000 in
theorem rname_any (v : Value) (M : LS) (w : World) (hv : ∃ a n c, v = .slice a n c) :
    Calls Tryz.prog 96 #[rlog v M] w fun e w' => e = .returned (.string (nameI M.n)) ∧ Below w.heap.size w w' := by
  obtain ⟨a, l, c, rfl⟩ := hv
  obtain ⟨n, size, wt, most, ⟨room, fs, plan, down⟩⟩ := M
  simp only [rlog]
  have HB : Hid (Below w.heap.size w (w.alloc (.cells #[.int .i64 room, .slice a l c, .int .i64 plan, .bool down, .int .i64 most, .int .i64 n, .int .i64 size, .int .i64 wt] 34))) := (Below.refl _ _).alloc (Nat.le_refl _) _
  go_enter Tryz.func96, Tryz.ntmps96
  go_wp2_with fail
  refine (refName_any n _).mono ?_
  rintro e w1 ⟨rfl, rfl⟩
  generalize decide (1 ≤ n ∧ n ≤ 99999999) = q
  go_wp2
  go_ret
  exact ⟨rfl, HB.out⟩
theorem belh_step {w0 a b : World} (h : Hid (Below w0.heap.size w0 a)) (hb : Below a.heap.size a b) : Hid (Below w0.heap.size w0 b) := h.out.trans (hb.mono h.out.size)
def DoP (w : World) (T : Nat → Prop) (r : DS × Int) (e : Ending) (w' : World) : Prop :=
  ∃ a c R', e = .returned (.tuple #[rdisk r.1.room (.slice a R'.length c) r.1.plan r.1.down, .int .i64 r.2]) ∧ R'.map RF.f = r.1.files ∧ RLi w' (.slice a R'.length c) R' (fun k => T k ∨ w.heap.size ≤ k) ∧ Below w.heap.size w w'
theorem dop_of {w : World} {T : Nat → Prop} {r : DS × Int} {e : Ending} {w' : World} (h : RPost w T r e w') : DoP w T r e w' := by
  obtain ⟨v, R, he, hf, hr, hb⟩ := h
  obtain ⟨a, c, rfl⟩ := slice_form hr.row
  exact ⟨a, c, R, he, hf, hr, hb⟩
def MPst (w : World) (T : Nat → Prop) (r : LS × Int) (e : Ending) (w' : World) : Prop :=
  ∃ v' R', e = .returned (.tuple #[rlog v' r.1, .int .i64 r.2]) ∧ R'.map RF.f = r.1.D.files ∧ RLi w' v' R' (fun k => T k ∨ w.heap.size ≤ k) ∧ Below w.heap.size w w'
structure MidP (wa W : World) (b4 n0 : Nat) (T : Nat → Prop) (r1 : Int) (a3 : Option Addr) (c3 : Nat) (R3 : List RF) (r3 : Int) (r4 : Bool) : Prop where
  blk : W.heap[b4]? = some (.cells #[.int .i64 r1, .slice a3 R3.length c3, .int .i64 r3, .bool r4] 32 (0, 0))
  lst : RLi W (.slice a3 R3.length c3) R3 (fun k => (T k ∧ k < n0) ∨ (n0 + 2 ≤ k ∧ k ≠ b4))
  bel : Below wa.heap.size wa W
  beh : wa.heap.size ≤ b4
theorem mid_late {wa w3 : World} {n0 m : Nat} {T : Nat → Prop} {r1 : Int} {a3 : Option Addr} {c3 : Nat} {R3 : List RF} {r3 : Int} {r4 : Bool} (hb : Below wa.heap.size wa w3) (hr : RLi w3 (.slice a3 R3.length c3) R3 (fun k => (T k ∧ k < n0) ∨ m ≤ k)) (hm : n0 + 2 ≤ m) (h0 : n0 ≤ wa.heap.size) :
    MidP wa (w3.alloc (.cells #[.int .i64 r1, .slice a3 R3.length c3, .int .i64 r3, .bool r4] 32)) w3.heap.size n0 T r1 a3 c3 R3 r3 r4 := by
  have hs := hb.size
  exact ⟨heap_alloc_new _ _, (hr.tight.below ((Below.refl _ _).alloc (Nat.le_refl _) _)).mono (fun k hk => by rcases hk.1 with h | h; exact .inl h; exact .inr ⟨by omega, by have := hk.2; omega⟩), hb.alloc hs _, hs⟩
theorem mid_set {wa w3 : World} {n0 m b4 : Nat} {T : Nat → Prop} {r1 : Int} {a3 : Option Addr} {c3 : Nat} {R3 : List RF} {r3 : Int} {r4 : Bool} {x0 x1 x2 x3 : Value} (hz : w3.heap[b4]? = some (.cells #[x0, x1, x2, x3] 32 (0, 0))) (hb : Below wa.heap.size wa w3) (hr : RLi w3 (.slice a3 R3.length c3) R3 (fun k => (T k ∧ k < n0) ∨ m ≤ k)) (hm : n0 + 2 ≤ b4 ∧ b4 < m) (h4 : wa.heap.size ≤ b4) :
    MidP wa ((((w3.setCell ⟨b4, 0, none⟩ (.int .i64 r1)).setCell ⟨b4, 1, none⟩ (.slice a3 R3.length c3)).setCell ⟨b4, 2, none⟩ (.int .i64 r3)).setCell ⟨b4, 3, none⟩ (.bool r4)) b4 n0 T r1 a3 c3 R3 r3 r4 := by
  have hno : ¬ ((T b4 ∧ b4 < n0) ∨ m ≤ b4) := by rintro (h | h) <;> omega
  exact ⟨heap_store (heap_store (heap_store (heap_store hz 0 _) 1 _) 2 _) 3 _,
    ((((hr.store (p := ⟨b4, 0, none⟩) hno _).store (p := ⟨b4, 1, none⟩) hno _).store (p := ⟨b4, 2, none⟩) hno _).store (p := ⟨b4, 3, none⟩) hno _).mono (fun k hk => by rcases hk with h | h; exact .inl h; exact .inr ⟨by omega, by omega⟩),
    (((hb.setCell (p := ⟨b4, 0, none⟩) h4 _).setCell (p := ⟨b4, 1, none⟩) h4 _).setCell (p := ⟨b4, 2, none⟩) h4 _).setCell (p := ⟨b4, 3, none⟩) h4 _, h4⟩
set_option maxRecDepth 100000 in
set_option maxHeartbeats 4000000 in
theorem rlog_end {fn : Func} {p u : Tmp} (hres : fn.results = #[.cell p 34, .tmp u]) {w W : World} {b2 : Nat} {T TT : Nat → Prop} {n size wt most room plan : Int} {down : Bool} {v : Value} {R : List RF} {r : LS × Int} {x0 x1 x2 x3 x4 x5 x6 x7 : Value} (code : Int) (hz : W.heap[b2]? = some (.cells #[x0, x1, x2, x3, x4, x5, x6, x7] 34 (0, 0)))
    (hb2 : w.heap.size ≤ b2) (hb : Below w.heap.size w W) (hr : RLi W v R TT) (hTT : ∀ k, TT k → T k ∨ w.heap.size ≤ k) (hno : ¬ TT b2) (he : r = (⟨n, size, wt, most, ⟨room, R.map RF.f, plan, down⟩⟩, code)) {tmps : Array Value} (h4 : tmps.getD p undef = .pointer (some ⟨b2, 0, none⟩)) (h5 : tmps.getD u undef = .int .i64 code) :
    bodyPost Tryz.prog fn (MPst w T r) Exit.ret { tmps := tmps, defers := [] } ((((((((W.setCell ⟨b2, 0, none⟩ (.int .i64 room)).setCell ⟨b2, 1, none⟩ v).setCell ⟨b2, 2, none⟩ (.int .i64 plan)).setCell ⟨b2, 3, none⟩ (.bool down)).setCell ⟨b2, 4, none⟩ (.int .i64 most)).setCell ⟨b2, 5, none⟩ (.int .i64 n)).setCell ⟨b2, 6, none⟩ (.int .i64 size)).setCell ⟨b2, 7, none⟩ (.int .i64 wt)) := by
  have H0 : (W.setCell ⟨b2, 0, none⟩ (.int .i64 room)).heap[b2]? = some (.cells #[.int .i64 room, x1, x2, x3, x4, x5, x6, x7] 34 (0, 0)) := heap_store hz 0 (.int .i64 room)
  have H1 : ((W.setCell ⟨b2, 0, none⟩ (.int .i64 room)).setCell ⟨b2, 1, none⟩ (v)).heap[b2]? = some (.cells #[.int .i64 room, v, x2, x3, x4, x5, x6, x7] 34 (0, 0)) := heap_store H0 1 (v)
  have H2 : (((W.setCell ⟨b2, 0, none⟩ (.int .i64 room)).setCell ⟨b2, 1, none⟩ (v)).setCell ⟨b2, 2, none⟩ (.int .i64 plan)).heap[b2]? = some (.cells #[.int .i64 room, v, .int .i64 plan, x3, x4, x5, x6, x7] 34 (0, 0)) := heap_store H1 2 (.int .i64 plan)
  have H3 : ((((W.setCell ⟨b2, 0, none⟩ (.int .i64 room)).setCell ⟨b2, 1, none⟩ (v)).setCell ⟨b2, 2, none⟩ (.int .i64 plan)).setCell ⟨b2, 3, none⟩ (.bool down)).heap[b2]? = some (.cells #[.int .i64 room, v, .int .i64 plan, .bool down, x4, x5, x6, x7] 34 (0, 0)) := heap_store H2 3 (.bool down)
  have H4 : (((((W.setCell ⟨b2, 0, none⟩ (.int .i64 room)).setCell ⟨b2, 1, none⟩ (v)).setCell ⟨b2, 2, none⟩ (.int .i64 plan)).setCell ⟨b2, 3, none⟩ (.bool down)).setCell ⟨b2, 4, none⟩ (.int .i64 most)).heap[b2]? = some (.cells #[.int .i64 room, v, .int .i64 plan, .bool down, .int .i64 most, x5, x6, x7] 34 (0, 0)) := heap_store H3 4 (.int .i64 most)
  have H5 : ((((((W.setCell ⟨b2, 0, none⟩ (.int .i64 room)).setCell ⟨b2, 1, none⟩ (v)).setCell ⟨b2, 2, none⟩ (.int .i64 plan)).setCell ⟨b2, 3, none⟩ (.bool down)).setCell ⟨b2, 4, none⟩ (.int .i64 most)).setCell ⟨b2, 5, none⟩ (.int .i64 n)).heap[b2]? = some (.cells #[.int .i64 room, v, .int .i64 plan, .bool down, .int .i64 most, .int .i64 n, x6, x7] 34 (0, 0)) := heap_store H4 5 (.int .i64 n)
  have H6 : (((((((W.setCell ⟨b2, 0, none⟩ (.int .i64 room)).setCell ⟨b2, 1, none⟩ (v)).setCell ⟨b2, 2, none⟩ (.int .i64 plan)).setCell ⟨b2, 3, none⟩ (.bool down)).setCell ⟨b2, 4, none⟩ (.int .i64 most)).setCell ⟨b2, 5, none⟩ (.int .i64 n)).setCell ⟨b2, 6, none⟩ (.int .i64 size)).heap[b2]? = some (.cells #[.int .i64 room, v, .int .i64 plan, .bool down, .int .i64 most, .int .i64 n, .int .i64 size, x7] 34 (0, 0)) := heap_store H5 6 (.int .i64 size)
  have H7 : ((((((((W.setCell ⟨b2, 0, none⟩ (.int .i64 room)).setCell ⟨b2, 1, none⟩ (v)).setCell ⟨b2, 2, none⟩ (.int .i64 plan)).setCell ⟨b2, 3, none⟩ (.bool down)).setCell ⟨b2, 4, none⟩ (.int .i64 most)).setCell ⟨b2, 5, none⟩ (.int .i64 n)).setCell ⟨b2, 6, none⟩ (.int .i64 size)).setCell ⟨b2, 7, none⟩ (.int .i64 wt)).heap[b2]? = some (.cells #[.int .i64 room, v, .int .i64 plan, .bool down, .int .i64 most, .int .i64 n, .int .i64 size, .int .i64 wt] 34 (0, 0)) := heap_store H6 7 (.int .i64 wt)
  refine bodyPost_ret (results_row_tmp1 (P := Tryz.prog) hres _ _ b2 34 #[.int .i64 room, v, .int .i64 plan, .bool down, .int .i64 most, .int .i64 n, .int .i64 size, .int .i64 wt] (0, 0) _ h4 H7 Tryz.underlying34 rfl rfl) rfl ?_
  rw [h5, he]
  refine ⟨v, R, rfl, rfl, ?_, (((((((hb.setCell (p := ⟨b2, 0, none⟩) hb2 _).setCell (p := ⟨b2, 1, none⟩) hb2 _).setCell (p := ⟨b2, 2, none⟩) hb2 _).setCell (p := ⟨b2, 3, none⟩) hb2 _).setCell (p := ⟨b2, 4, none⟩) hb2 _).setCell (p := ⟨b2, 5, none⟩) hb2 _).setCell (p := ⟨b2, 6, none⟩) hb2 _).setCell (p := ⟨b2, 7, none⟩) hb2 _⟩
  exact ((((((((hr.store (p := ⟨b2, 0, none⟩) hno _).store (p := ⟨b2, 1, none⟩) hno _).store (p := ⟨b2, 2, none⟩) hno _).store (p := ⟨b2, 3, none⟩) hno _).store (p := ⟨b2, 4, none⟩) hno _).store (p := ⟨b2, 5, none⟩) hno _).store (p := ⟨b2, 6, none⟩) hno _).store (p := ⟨b2, 7, none⟩) hno _).mono hTT
theorem appG_eq (L : LS) (r : List UInt8) (a : DS × Int) (ha : appendD L.D (nameI L.n) (frameB r) = a) : appG opsD L r = if a.2 ≠ 0 then ({ L with D := a.1 }, a.2) else (⟨L.n, L.size + (r.length + 8), L.waiting + 1, L.most, a.1⟩, 0) := by
  subst ha; rfl
set_option maxRecDepth 100000 in
set_option maxHeartbeats 4000000 in
theorem put_any (L : LS) (bl : Nat) (d : Value) (S : Nat → Prop) (ra : Option Addr) (rc : Nat) (r : List UInt8) (w : World) (h : LAt w bl d L S) (hS : ∀ k, S k → k < w.heap.size) (hT : ∀ w', Chg S w w' → Tab w') {s n k : Nat} (hb : BndL L s n k) (hs : s ≤ 100000000) (hk : k ≤ 100000000)
    (hr : Reads w (.slice ra r.length rc) r.length 1 (byts r)) (hl : r.length ≤ 10000000) (hmost : -9000000000000000000 ≤ L.most ∧ L.most ≤ 9000000000000000000) :
    Calls Tryz.prog 40 #[.pointer (some ⟨bl, 0, none⟩), .slice ra r.length rc] w (LPost w bl d S (putG opsD L r)) := by
  have HL := Lib.hid h
  have HTB := Lib.hid hT
  have HBN := Lib.hid hb
  have HSL := Lib.hid hS
  have hbl := lt_of_heap h.blk
  obtain ⟨Q, hQ⟩ : ∃ Q, Q = LPost w bl d S (putG opsD L r) := ⟨_, rfl⟩
  have HQD := Lib.hid hQ
  rw [← hQ]
  have hbn0 := hb.n0
  have hbs := hb.size
  have hbw := hb.waiting
  by_cases hr0 : r = []
  · have HQ : Hid (Q (.returned (.int .i64 2)) w) := by
      rw [HQD.out, show putG opsD L r = (L, 2) by unfold putG; rw [if_pos hr0]]
      exact ⟨rfl, HL.out.mono (fun k hk => .inl hk), Chg.refl _ _⟩
    subst hr0
    clear h hT hb hS hQ hr
    simp only [List.length_nil]
    go_enter Tryz.func40, Tryz.ntmps40
    go_wp2
    exact HQ.out
  have HRL := Lib.hid (frameB_length r)
  have hpos : 0 < r.length := List.length_pos_iff.2 hr0
  have hmk := make_any ra rc r w hr (by omega)
  have HPUT : Hid (putG opsD L r = if 1048576 < r.length ∨ L.most < (r.length : Int) + 8 then (L, 4) else if 0 < L.size ∧ L.most < L.size + (r.length + 8) then (if (rotG opsD L).2 ≠ 0 then rotG opsD L else appG opsD (rotG opsD L).1 r) else appG opsD L r) := by
    unfold putG; rw [Hid, if_neg hr0]
  generalize putG opsD L r = PV at HQD HPUT
  have hne : ((r.length : Int) == 0) = false := by simp; omega
  have hne2 : decide (r.length = 0) = false := by simp; omega
  obtain ⟨rl, hrl⟩ : ∃ rl, rl = r.length := ⟨_, rfl⟩
  have HLR := Lib.hid hrl
  rw [← hrl] at hne hne2 hpos hl ⊢
  rw [← hrl] at hmk HPUT HRL
  have HMK := Lib.hid hmk
  clear h hT hb hS hQ hr hmk hrl hr0
  by_cases hbig : 1048576 < rl
  · rw [if_pos hbig] at HMK
    have HQ : Hid (∀ w1, Below w.heap.size w w1 → Q (.returned (.int .i64 4)) w1) := fun w1 hb1 => by
      rw [HQD.out, HPUT.out, if_pos (.inl hbig)]
      exact ⟨rfl, (HL.out.later hb1).mono (fun k hk => .inl hk), Chg.ofBelow hb1⟩
    go_enter Tryz.func40, Tryz.ntmps40
    go_wp2_with fail
    refine HMK.out.mono ?_
    rintro e w1 ⟨rfl, hb1⟩
    have HQ1 := Lib.hid (HQ.out w1 hb1)
    clear hb1 HQ
    go_wp2
    exact HQ1.out
  rw [if_neg hbig] at HMK
  go_enter Tryz.func40, Tryz.ntmps40
  go_wp2_with fail
  refine HMK.out.mono ?_
  rintro e w1 ⟨⟨ab, cb, rfl, hrow⟩, hb1⟩
  rw [HRL.out] at hrow ⊢
  have HROW := Lib.hid hrow
  have HB1 := Lib.hid hb1
  have HL1 := Lib.hid (HL.out.later hb1)
  clear hrow hb1 HMK
  by_cases hlong : L.most < (rl : Int) + 8
  · have HQ : Hid (Q (.returned (.int .i64 4)) w1) := by
      rw [HQD.out, HPUT.out, if_pos (.inr hlong)]
      exact ⟨rfl, HL1.out.mono (fun k hk => .inl hk), Chg.ofBelow HB1.out⟩
    obtain ⟨l0, l1, l2, l3, l4⟩ := cells5w HL1.out.blk
    go_wp2
    exact HQ.out
  rw [if_neg (show ¬ (1048576 < rl ∨ L.most < (rl : Int) + 8) by omega)] at HPUT
  obtain ⟨l0, l1, l2, l3, l4⟩ := cells5w HL1.out.blk
  go_upto_region 8 with fail
  by_cases hrot : 0 < L.size ∧ L.most < L.size + (rl + 8)
  · rw [if_pos hrot] at HPUT
    obtain ⟨hr1, hr2⟩ := hrot
    have hr3 : decide (0 < L.size) = true := decide_eq_true hr1
    go_quiet (fail)
    have HBD : Hid (Below w.heap.size w (w1.drewN nq)) := ⟨HB1.out.os, HB1.out.tape, HB1.out.output, HB1.out.size, HB1.out.block⟩
    have HLD : Hid (LAt (w1.drewN nq) bl d L S) := HL1.out.frame (fun _ _ _ => rfl)
    have HRD : Hid (Row (w1.drewN nq) 5 1 (.slice ab (rl + 8) cb) (rl + 8) (byts (frameB r)) (fun k => w.heap.size ≤ k)) := HROW.out.frame (fun _ _ _ => rfl)
    clear HL1 HROW HB1 l0 l1 l2 l3 l4
    generalize w1.drewN nq = wd at *
    have hsz := HBD.out.size
    have HR := Lib.hid (rotate_any L bl d S wd HLD.out (fun k hk => Nat.lt_of_lt_of_le (HSL.out k hk) hsz) (fun w' hc => HTB.out w' ((Chg.ofBelow HBD.out).trans hc (fun k hk => .inl hk))) HBN.out.d (by omega))
    have HBR := Lib.hid (bnd_rot HBN.out)
    have hmr : (rotG opsD L).1.most = L.most := by unfold rotG; repeat (first | rfl | split)
    obtain ⟨⟨LX, cr⟩, hcr⟩ : ∃ rr, rr = rotG opsD L := ⟨_, rfl⟩
    rw [← hcr] at HR HPUT HBR
    clear hcr hmr
    simp only at HBR
    go_wp2_with fail
    refine HR.out.mono ?_
    rintro e wx ⟨rfl, hlx, hcx⟩
    simp only at hlx ⊢
    have HCX := Lib.hid ((Chg.ofBelow (S := S) HBD.out).trans hcx (fun k hk => .inl hk))
    have HLX := Lib.hid hlx.tight
    have HRX : Hid (Row wx 5 1 (.slice ab (rl + 8) cb) (rl + 8) (byts (frameB r)) (fun k => w.heap.size ≤ k ∧ k < wd.heap.size)) :=
      HRD.out.tight.frame (fun k hk hl => hcx.block k hl (fun e => by have := HSL.out k e; omega))
    have HNX : Hid (∀ k, (w.heap.size ≤ k ∧ k < wd.heap.size) → ¬ ((S k ∨ wd.heap.size ≤ k) ∧ k < wx.heap.size)) := fun k hk e => by
      rcases e.1 with e1 | e1
      · have := HSL.out k e1; omega
      · omega
    have HTX : Hid (∀ k, ((S k ∨ wd.heap.size ≤ k) ∧ k < wx.heap.size) → S k ∨ w.heap.size ≤ k) := fun k hk => by
      rcases hk.1 with e1 | e1
      · exact .inl e1
      · exact .inr (by omega)
    generalize hTT : (fun k => (S k ∨ wd.heap.size ≤ k) ∧ k < wx.heap.size) = TT at HLX
    have HNX2 : Hid (∀ k, (w.heap.size ≤ k ∧ k < wd.heap.size) → ¬ TT k) := by rw [← hTT]; exact HNX.out
    have HTX2 : Hid (∀ k, TT k → S k ∨ w.heap.size ≤ k) := by rw [← hTT]; exact HTX.out
    have HTK : Hid (∀ k, TT k → k < wx.heap.size) := by rw [← hTT]; exact fun k hk => hk.2
    generalize hWW : (fun k => w.heap.size ≤ k ∧ k < wd.heap.size) = WW at HRX
    have HNX3 : Hid (∀ k, WW k → ¬ TT k) := by rw [← hWW]; exact HNX2.out
    clear hlx hcx HR HLD HRD HBD hTT HNX HTX HNX2 hWW
    by_cases hcz : cr = 0
    · subst hcz
      simp only [ne_eq, not_true, if_false] at HPUT
      have HBX := HBR
      have hx1 := HBX.out.size
      have hx2 := HBX.out.waiting
      have hx0 := HBX.out.n0
      have HKA : Hid (∀ w', Hid (Below wx.heap.size wx w') → w'.cell? ⟨bl, 3, none⟩ = some d) := fun w' hb => cellAt ((hb.out.block _ (lt_of_heap HLX.out.blk)).trans HLX.out.blk) 3 rfl
      have HKB : Hid (∀ w', Hid (Chg (fun k => TT k ∧ k ≠ bl) wx w') → w'.cell? ⟨bl, 3, none⟩ = some d) := fun w' hc => cellAt (hc.out.heap HLX.out.blk (fun e => e.2 rfl)) 3 rfl
      have HTAB : Hid (Tab wx) := HTB.out wx HCX.out
      have HN : Hid (∀ w', Hid (Below wx.heap.size wx w') → Calls Tryz.prog 99 #[.pointer (some ⟨bl, 0, none⟩)] w' fun e w2 => e = .returned (.string (nameI LX.n)) ∧ Below wx.heap.size wx w2) := fun w' hb =>
        (pname_any bl 0 LX.n w' (cellAt ((hb.out.block _ (lt_of_heap HLX.out.blk)).trans HLX.out.blk) 0 rfl) (tab_below HTAB.out hb.out)).mono (fun e w2 he => ⟨he.1, hb.out.trans (he.2.mono hb.out.size)⟩)
      have HAP : Hid (∀ w', Hid (Below wx.heap.size wx w') → Calls Tryz.prog 72 #[d, .string (nameI LX.n), .slice ab (rl + 8) cb] w' (DIn wx bl d TT (appendD LX.D (nameI LX.n) (frameB r)))) := fun w' hb => by
        have hd : DRep w' d LX.D (fun k => (TT k ∧ k ≠ bl) ∧ k < wx.heap.size) := HLX.out.dsk.tight.frame (fun k hk _ => hb.out.block k hk.2)
        have hro := (HRX.out.frame (fun k hk hl => hb.out.block k hl))
        have hrd := hro.reads
        have hc := append_any d (nameI LX.n) (frameB r) ab cb LX.D (fun k => (TT k ∧ k ≠ bl) ∧ k < wx.heap.size) w' hd HBX.out.d.plan (by have := HBX.out.d.sum; omega) (by rw [HRL.out]; omega) (by rw [HRL.out]; exact hrd) (fun ad had h0 e => by
          rw [had] at hro
          exact HNX3.out _ (hro.at_block) e.1.1)
        rw [HRL.out] at hc
        refine hc.mono ?_
        rintro e w2 ⟨he, hr, hch⟩
        have hs := hb.out.size
        exact ⟨he, hr.mono (fun k hk => by rcases hk with hk | hk; exact .inl hk.1; exact .inr (by omega)), (Chg.ofBelow hb.out).trans (hch.mono (T := fun k => TT k ∧ k ≠ bl) (fun k hk => hk.1)) (fun k hk => .inl hk)⟩
      obtain ⟨A, hA⟩ : ∃ A, appendD LX.D (nameI LX.n) (frameB r) = A := ⟨_, rfl⟩
      have hae := appG_eq LX r A hA
      rw [hA] at HAP
      rw [hae] at HPUT
      have HBA : Hid (Below wx.heap.size wx wx) := Below.refl _ _
      have HBA2 : Hid (Below wx.heap.size wx wx.drew) := (Below.refl _ _).drew
      have HLRI : Hid ((r.length : Int) = (rl : Int)) := by rw [Hid, ← HLR.out]
      rw [HLRI.out] at HPUT
      clear hA hae HRX HNX3 HTAB
      go_upto_region 12 with fail
      have k0 := HKA.out wx HBA.out
      go_region_held3 (fun w' => w'.cell? ⟨bl, 3, none⟩ = some d) (first | exact HKA.out _ (by assumption) | exact HKB.out _ (by assumption))
        (first
        | (go_at_call 99; refine (HN.out _ (by assumption)).mono ?_; rintro e w2 ⟨rfl, hb2⟩
           have HB2 := Lib.hid hb2
           clear hb2)
        | (go_at_call 72; refine (HAP.out _ (by assumption)).mono ?_; rintro e w3 ⟨rfl, hd3, hc3⟩
           have HD3 := Lib.hid hd3
           have HC3 := Lib.hid hc3
           clear hd3 hc3))
      have HL3 := Lib.hid (HLX.out.disk HD3.out HC3.out)
      have HC4 : Hid (Chg S w w3) := HCX.out.trans (HC3.out) (fun k hk => by rcases HTX2.out k hk.1 with e | e; exact .inl e; exact .inr e)
      obtain ⟨aD, ac⟩ := A
      simp only at *
      clear HD3 HC3 HKA HKB HN HAP k0 HBA HBA2
      have hwx : Hid (w.heap.size ≤ wx.heap.size) := HCX.out.size
      by_cases hac : ac = 0
      · subst hac
        simp only [ne_eq, not_true, if_false] at HPUT
        obtain ⟨m0, m1, m2, m3, m4⟩ := cells5w HL3.out.blk
        have f1 := freeAt HL3.out.blk 1
        have f2 := freeAt HL3.out.blk 2
        simp only at m1 m2
        have HQ : Hid (∀ w5, w5.heap[bl]? = some (.cells #[.int .i64 LX.n, .int .i64 (LX.size + (rl + 8)), .int .i64 (LX.waiting + 1), d, .int .i64 LX.most] 148 (0, 0)) → Chg (fun k => k = bl) w3 w5 → Q (.returned (.int .i64 0)) w5) := fun w5 hb5 hc5 => by
          rw [HQD.out, HPUT.out]
          refine ⟨rfl, (HL3.out.head (L' := ⟨LX.n, LX.size + (rl + 8), LX.waiting + 1, LX.most, aD⟩) rfl hb5 hc5).mono (fun k hk => by have := hwx.out; rcases hk with e | e; exact HTX2.out k e; exact .inr (by omega)), HC4.out.trans hc5 (fun k hk => by have e : k = bl := hk; rw [e]; exact HTX2.out bl HLX.out.own)⟩
        have HB5 := Lib.hid (heap_store (heap_store HL3.out.blk 1 (.int .i64 (LX.size + (rl + 8)))) 2 (.int .i64 (LX.waiting + 1)))
        have HC5 : Hid (Chg (fun k => k = bl) w3 ((w3.setCell ⟨bl, 1, none⟩ (.int .i64 (LX.size + (rl + 8)))).setCell ⟨bl, 2, none⟩ (.int .i64 (LX.waiting + 1)))) := ((Chg.refl (fun k => k = bl) _).setCell (p := ⟨bl, 1, none⟩) (.inl rfl) _).setCell (p := ⟨bl, 2, none⟩) (.inl rfl) _
        clear HL3
        go_wp2
        exact HQ.out _ HB5.out HC5.out
      · have HQ : Hid (Q (.returned (.int .i64 ac)) w3) := by
          rw [HQD.out, HPUT.out]
          simp only [ne_eq, hac, not_false_iff, if_true]
          exact ⟨rfl, HL3.out.mono (fun k hk => by have := hwx.out; rcases hk with e | e; exact HTX2.out k e; exact .inr (by omega)), HC4.out⟩
        have hz1 : (ac == 0) = false := by simpa using hac
        have hz2 : (ac != 0) = true := by simpa using hac
        clear HL3
        go_wp2
        exact HQ.out
    · have HQ : Hid (Q (.returned (.int .i64 cr)) wx) := by
        rw [HQD.out, HPUT.out]
        simp only [ne_eq, hcz, not_false_iff, if_true]
        exact ⟨rfl, HLX.out.mono (fun k hk => HTX2.out k hk), HCX.out⟩
      have hz1 : (cr == 0) = false := by simpa using hcz
      have hz2 : (cr != 0) = true := by simpa using hcz
      go_wp2
      exact HQ.out
  · rw [if_neg hrot] at HPUT
    have HL1' := HL1
    by_cases hr1 : 0 < L.size
    · have hr2 : ¬ L.most < L.size + (rl + 8) := fun e => hrot ⟨hr1, e⟩
      have hr3 : decide (0 < L.size) = true := decide_eq_true hr1
      clear hrot
      go_quiet (fail)
      have HCX : Hid (Chg S w (w1.drewN nq)) := (Chg.ofBelow (S := S) HB1.out).drewN nq
      have HLX : Hid (LAt (w1.drewN nq) bl d L S) := HL1.out.frame (fun _ _ _ => rfl)
      have HRX : Hid (Row (w1.drewN nq) 5 1 (.slice ab (rl + 8) cb) (rl + 8) (byts (frameB r)) (fun k => w.heap.size ≤ k)) := HROW.out.frame (fun _ _ _ => rfl)
      have hsz := HB1.out.size
      have HTK : Hid (∀ k, S k → k < (w1.drewN nq).heap.size) := fun k hk => Nat.lt_of_lt_of_le (HSL.out k hk) hsz
      clear HL1 HL1' HROW HB1 l0 l1 l2 l3 l4
      generalize w1.drewN nq = wx at *
      clear hsz
      obtain ⟨TT, hTT⟩ : ∃ TT, TT = S := ⟨_, rfl⟩
      obtain ⟨WW, hWW⟩ : ∃ WW : Nat → Prop, WW = (fun k => w.heap.size ≤ k) := ⟨_, rfl⟩
      have HNX3 : Hid (∀ k, WW k → ¬ TT k) := fun k hk e => by rw [hWW] at hk; rw [hTT] at e; have := HSL.out k e; omega
      have HTX2 : Hid (∀ k, TT k → S k ∨ w.heap.size ≤ k) := fun k hk => by rw [hTT] at hk; exact .inl hk
      rw [← hTT] at HLX HTK
      rw [← hWW] at HRX
      clear hTT hWW
      have HBX := HBN.out.more (s' := s) (n' := n + 1) (k' := k + 1) (Nat.le_refl _) (by omega) (by omega)
      have HBX := Lib.hid HBX
      obtain ⟨LX, hLX⟩ : ∃ LX, LX = L := ⟨_, rfl⟩
      rw [← hLX] at HPUT HLX HBX
      clear hLX HBN HL
      have hx1 := HBX.out.size
      have hx2 := HBX.out.waiting
      have hx0 := HBX.out.n0
      have HKA : Hid (∀ w', Hid (Below wx.heap.size wx w') → w'.cell? ⟨bl, 3, none⟩ = some d) := fun w' hb => cellAt ((hb.out.block _ (lt_of_heap HLX.out.blk)).trans HLX.out.blk) 3 rfl
      have HKB : Hid (∀ w', Hid (Chg (fun k => TT k ∧ k ≠ bl) wx w') → w'.cell? ⟨bl, 3, none⟩ = some d) := fun w' hc => cellAt (hc.out.heap HLX.out.blk (fun e => e.2 rfl)) 3 rfl
      have HTAB : Hid (Tab wx) := HTB.out wx HCX.out
      have HN : Hid (∀ w', Hid (Below wx.heap.size wx w') → Calls Tryz.prog 99 #[.pointer (some ⟨bl, 0, none⟩)] w' fun e w2 => e = .returned (.string (nameI LX.n)) ∧ Below wx.heap.size wx w2) := fun w' hb =>
        (pname_any bl 0 LX.n w' (cellAt ((hb.out.block _ (lt_of_heap HLX.out.blk)).trans HLX.out.blk) 0 rfl) (tab_below HTAB.out hb.out)).mono (fun e w2 he => ⟨he.1, hb.out.trans (he.2.mono hb.out.size)⟩)
      have HAP : Hid (∀ w', Hid (Below wx.heap.size wx w') → Calls Tryz.prog 72 #[d, .string (nameI LX.n), .slice ab (rl + 8) cb] w' (DIn wx bl d TT (appendD LX.D (nameI LX.n) (frameB r)))) := fun w' hb => by
        have hd : DRep w' d LX.D (fun k => (TT k ∧ k ≠ bl) ∧ k < wx.heap.size) := HLX.out.dsk.tight.frame (fun k hk _ => hb.out.block k hk.2)
        have hro := (HRX.out.frame (fun k hk hl => hb.out.block k hl))
        have hrd := hro.reads
        have hc := append_any d (nameI LX.n) (frameB r) ab cb LX.D (fun k => (TT k ∧ k ≠ bl) ∧ k < wx.heap.size) w' hd HBX.out.d.plan (by have := HBX.out.d.sum; omega) (by rw [HRL.out]; omega) (by rw [HRL.out]; exact hrd) (fun ad had h0 e => by
          rw [had] at hro
          exact HNX3.out _ (hro.at_block) e.1.1)
        rw [HRL.out] at hc
        refine hc.mono ?_
        rintro e w2 ⟨he, hr, hch⟩
        have hs := hb.out.size
        exact ⟨he, hr.mono (fun k hk => by rcases hk with hk | hk; exact .inl hk.1; exact .inr (by omega)), (Chg.ofBelow hb.out).trans (hch.mono (T := fun k => TT k ∧ k ≠ bl) (fun k hk => hk.1)) (fun k hk => .inl hk)⟩
      obtain ⟨A, hA⟩ : ∃ A, appendD LX.D (nameI LX.n) (frameB r) = A := ⟨_, rfl⟩
      have hae := appG_eq LX r A hA
      rw [hA] at HAP
      rw [hae] at HPUT
      have HBA : Hid (Below wx.heap.size wx wx) := Below.refl _ _
      have HBA2 : Hid (Below wx.heap.size wx wx.drew) := (Below.refl _ _).drew
      have HLRI : Hid ((r.length : Int) = (rl : Int)) := by rw [Hid, ← HLR.out]
      rw [HLRI.out] at HPUT
      clear hA hae HRX HNX3 HTAB
      go_upto_region 12 with fail
      have k0 := HKA.out wx HBA.out
      go_region_held3 (fun w' => w'.cell? ⟨bl, 3, none⟩ = some d) (first | exact HKA.out _ (by assumption) | exact HKB.out _ (by assumption))
        (first
        | (go_at_call 99; refine (HN.out _ (by assumption)).mono ?_; rintro e w2 ⟨rfl, hb2⟩
           have HB2 := Lib.hid hb2
           clear hb2)
        | (go_at_call 72; refine (HAP.out _ (by assumption)).mono ?_; rintro e w3 ⟨rfl, hd3, hc3⟩
           have HD3 := Lib.hid hd3
           have HC3 := Lib.hid hc3
           clear hd3 hc3))
      have HL3 := Lib.hid (HLX.out.disk HD3.out HC3.out)
      have HC4 : Hid (Chg S w w3) := HCX.out.trans (HC3.out) (fun k hk => by rcases HTX2.out k hk.1 with e | e; exact .inl e; exact .inr e)
      obtain ⟨aD, ac⟩ := A
      simp only at *
      clear HD3 HC3 HKA HKB HN HAP k0 HBA HBA2
      have hwx : Hid (w.heap.size ≤ wx.heap.size) := HCX.out.size
      by_cases hac : ac = 0
      · subst hac
        simp only [ne_eq, not_true, if_false] at HPUT
        obtain ⟨m0, m1, m2, m3, m4⟩ := cells5w HL3.out.blk
        have f1 := freeAt HL3.out.blk 1
        have f2 := freeAt HL3.out.blk 2
        simp only at m1 m2
        have HQ : Hid (∀ w5, w5.heap[bl]? = some (.cells #[.int .i64 LX.n, .int .i64 (LX.size + (rl + 8)), .int .i64 (LX.waiting + 1), d, .int .i64 LX.most] 148 (0, 0)) → Chg (fun k => k = bl) w3 w5 → Q (.returned (.int .i64 0)) w5) := fun w5 hb5 hc5 => by
          rw [HQD.out, HPUT.out]
          refine ⟨rfl, (HL3.out.head (L' := ⟨LX.n, LX.size + (rl + 8), LX.waiting + 1, LX.most, aD⟩) rfl hb5 hc5).mono (fun k hk => by have := hwx.out; rcases hk with e | e; exact HTX2.out k e; exact .inr (by omega)), HC4.out.trans hc5 (fun k hk => by have e : k = bl := hk; rw [e]; exact HTX2.out bl HLX.out.own)⟩
        have HB5 := Lib.hid (heap_store (heap_store HL3.out.blk 1 (.int .i64 (LX.size + (rl + 8)))) 2 (.int .i64 (LX.waiting + 1)))
        have HC5 : Hid (Chg (fun k => k = bl) w3 ((w3.setCell ⟨bl, 1, none⟩ (.int .i64 (LX.size + (rl + 8)))).setCell ⟨bl, 2, none⟩ (.int .i64 (LX.waiting + 1)))) := ((Chg.refl (fun k => k = bl) _).setCell (p := ⟨bl, 1, none⟩) (.inl rfl) _).setCell (p := ⟨bl, 2, none⟩) (.inl rfl) _
        clear HL3
        go_wp2
        exact HQ.out _ HB5.out HC5.out
      · have HQ : Hid (Q (.returned (.int .i64 ac)) w3) := by
          rw [HQD.out, HPUT.out]
          simp only [ne_eq, hac, not_false_iff, if_true]
          exact ⟨rfl, HL3.out.mono (fun k hk => by have := hwx.out; rcases hk with e | e; exact HTX2.out k e; exact .inr (by omega)), HC4.out⟩
        have hz1 : (ac == 0) = false := by simpa using hac
        have hz2 : (ac != 0) = true := by simpa using hac
        clear HL3
        go_wp2
        exact HQ.out
    · have hr3 : decide (0 < L.size) = false := decide_eq_false hr1
      clear hrot
      go_quiet (fail)
      have HCX : Hid (Chg S w (w1.drewN nq)) := (Chg.ofBelow (S := S) HB1.out).drewN nq
      have HLX : Hid (LAt (w1.drewN nq) bl d L S) := HL1.out.frame (fun _ _ _ => rfl)
      have HRX : Hid (Row (w1.drewN nq) 5 1 (.slice ab (rl + 8) cb) (rl + 8) (byts (frameB r)) (fun k => w.heap.size ≤ k)) := HROW.out.frame (fun _ _ _ => rfl)
      have hsz := HB1.out.size
      have HTK : Hid (∀ k, S k → k < (w1.drewN nq).heap.size) := fun k hk => Nat.lt_of_lt_of_le (HSL.out k hk) hsz
      clear HL1 HL1' HROW HB1 l0 l1 l2 l3 l4
      generalize w1.drewN nq = wx at *
      clear hsz
      obtain ⟨TT, hTT⟩ : ∃ TT, TT = S := ⟨_, rfl⟩
      obtain ⟨WW, hWW⟩ : ∃ WW : Nat → Prop, WW = (fun k => w.heap.size ≤ k) := ⟨_, rfl⟩
      have HNX3 : Hid (∀ k, WW k → ¬ TT k) := fun k hk e => by rw [hWW] at hk; rw [hTT] at e; have := HSL.out k e; omega
      have HTX2 : Hid (∀ k, TT k → S k ∨ w.heap.size ≤ k) := fun k hk => by rw [hTT] at hk; exact .inl hk
      rw [← hTT] at HLX HTK
      rw [← hWW] at HRX
      clear hTT hWW
      have HBX := HBN.out.more (s' := s) (n' := n + 1) (k' := k + 1) (Nat.le_refl _) (by omega) (by omega)
      have HBX := Lib.hid HBX
      obtain ⟨LX, hLX⟩ : ∃ LX, LX = L := ⟨_, rfl⟩
      rw [← hLX] at HPUT HLX HBX
      clear hLX HBN HL
      have hx1 := HBX.out.size
      have hx2 := HBX.out.waiting
      have hx0 := HBX.out.n0
      have HKA : Hid (∀ w', Hid (Below wx.heap.size wx w') → w'.cell? ⟨bl, 3, none⟩ = some d) := fun w' hb => cellAt ((hb.out.block _ (lt_of_heap HLX.out.blk)).trans HLX.out.blk) 3 rfl
      have HKB : Hid (∀ w', Hid (Chg (fun k => TT k ∧ k ≠ bl) wx w') → w'.cell? ⟨bl, 3, none⟩ = some d) := fun w' hc => cellAt (hc.out.heap HLX.out.blk (fun e => e.2 rfl)) 3 rfl
      have HTAB : Hid (Tab wx) := HTB.out wx HCX.out
      have HN : Hid (∀ w', Hid (Below wx.heap.size wx w') → Calls Tryz.prog 99 #[.pointer (some ⟨bl, 0, none⟩)] w' fun e w2 => e = .returned (.string (nameI LX.n)) ∧ Below wx.heap.size wx w2) := fun w' hb =>
        (pname_any bl 0 LX.n w' (cellAt ((hb.out.block _ (lt_of_heap HLX.out.blk)).trans HLX.out.blk) 0 rfl) (tab_below HTAB.out hb.out)).mono (fun e w2 he => ⟨he.1, hb.out.trans (he.2.mono hb.out.size)⟩)
      have HAP : Hid (∀ w', Hid (Below wx.heap.size wx w') → Calls Tryz.prog 72 #[d, .string (nameI LX.n), .slice ab (rl + 8) cb] w' (DIn wx bl d TT (appendD LX.D (nameI LX.n) (frameB r)))) := fun w' hb => by
        have hd : DRep w' d LX.D (fun k => (TT k ∧ k ≠ bl) ∧ k < wx.heap.size) := HLX.out.dsk.tight.frame (fun k hk _ => hb.out.block k hk.2)
        have hro := (HRX.out.frame (fun k hk hl => hb.out.block k hl))
        have hrd := hro.reads
        have hc := append_any d (nameI LX.n) (frameB r) ab cb LX.D (fun k => (TT k ∧ k ≠ bl) ∧ k < wx.heap.size) w' hd HBX.out.d.plan (by have := HBX.out.d.sum; omega) (by rw [HRL.out]; omega) (by rw [HRL.out]; exact hrd) (fun ad had h0 e => by
          rw [had] at hro
          exact HNX3.out _ (hro.at_block) e.1.1)
        rw [HRL.out] at hc
        refine hc.mono ?_
        rintro e w2 ⟨he, hr, hch⟩
        have hs := hb.out.size
        exact ⟨he, hr.mono (fun k hk => by rcases hk with hk | hk; exact .inl hk.1; exact .inr (by omega)), (Chg.ofBelow hb.out).trans (hch.mono (T := fun k => TT k ∧ k ≠ bl) (fun k hk => hk.1)) (fun k hk => .inl hk)⟩
      obtain ⟨A, hA⟩ : ∃ A, appendD LX.D (nameI LX.n) (frameB r) = A := ⟨_, rfl⟩
      have hae := appG_eq LX r A hA
      rw [hA] at HAP
      rw [hae] at HPUT
      have HBA : Hid (Below wx.heap.size wx wx) := Below.refl _ _
      have HBA2 : Hid (Below wx.heap.size wx wx.drew) := (Below.refl _ _).drew
      have HLRI : Hid ((r.length : Int) = (rl : Int)) := by rw [Hid, ← HLR.out]
      rw [HLRI.out] at HPUT
      clear hA hae HRX HNX3 HTAB
      go_upto_region 12 with fail
      have k0 := HKA.out wx HBA.out
      go_region_held3 (fun w' => w'.cell? ⟨bl, 3, none⟩ = some d) (first | exact HKA.out _ (by assumption) | exact HKB.out _ (by assumption))
        (first
        | (go_at_call 99; refine (HN.out _ (by assumption)).mono ?_; rintro e w2 ⟨rfl, hb2⟩
           have HB2 := Lib.hid hb2
           clear hb2)
        | (go_at_call 72; refine (HAP.out _ (by assumption)).mono ?_; rintro e w3 ⟨rfl, hd3, hc3⟩
           have HD3 := Lib.hid hd3
           have HC3 := Lib.hid hc3
           clear hd3 hc3))
      have HL3 := Lib.hid (HLX.out.disk HD3.out HC3.out)
      have HC4 : Hid (Chg S w w3) := HCX.out.trans (HC3.out) (fun k hk => by rcases HTX2.out k hk.1 with e | e; exact .inl e; exact .inr e)
      obtain ⟨aD, ac⟩ := A
      simp only at *
      clear HD3 HC3 HKA HKB HN HAP k0 HBA HBA2
      have hwx : Hid (w.heap.size ≤ wx.heap.size) := HCX.out.size
      by_cases hac : ac = 0
      · subst hac
        simp only [ne_eq, not_true, if_false] at HPUT
        obtain ⟨m0, m1, m2, m3, m4⟩ := cells5w HL3.out.blk
        have f1 := freeAt HL3.out.blk 1
        have f2 := freeAt HL3.out.blk 2
        simp only at m1 m2
        have HQ : Hid (∀ w5, w5.heap[bl]? = some (.cells #[.int .i64 LX.n, .int .i64 (LX.size + (rl + 8)), .int .i64 (LX.waiting + 1), d, .int .i64 LX.most] 148 (0, 0)) → Chg (fun k => k = bl) w3 w5 → Q (.returned (.int .i64 0)) w5) := fun w5 hb5 hc5 => by
          rw [HQD.out, HPUT.out]
          refine ⟨rfl, (HL3.out.head (L' := ⟨LX.n, LX.size + (rl + 8), LX.waiting + 1, LX.most, aD⟩) rfl hb5 hc5).mono (fun k hk => by have := hwx.out; rcases hk with e | e; exact HTX2.out k e; exact .inr (by omega)), HC4.out.trans hc5 (fun k hk => by have e : k = bl := hk; rw [e]; exact HTX2.out bl HLX.out.own)⟩
        have HB5 := Lib.hid (heap_store (heap_store HL3.out.blk 1 (.int .i64 (LX.size + (rl + 8)))) 2 (.int .i64 (LX.waiting + 1)))
        have HC5 : Hid (Chg (fun k => k = bl) w3 ((w3.setCell ⟨bl, 1, none⟩ (.int .i64 (LX.size + (rl + 8)))).setCell ⟨bl, 2, none⟩ (.int .i64 (LX.waiting + 1)))) := ((Chg.refl (fun k => k = bl) _).setCell (p := ⟨bl, 1, none⟩) (.inl rfl) _).setCell (p := ⟨bl, 2, none⟩) (.inl rfl) _
        clear HL3
        go_wp2
        exact HQ.out _ HB5.out HC5.out
      · have HQ : Hid (Q (.returned (.int .i64 ac)) w3) := by
          rw [HQD.out, HPUT.out]
          simp only [ne_eq, hac, not_false_iff, if_true]
          exact ⟨rfl, HL3.out.mono (fun k hk => by have := hwx.out; rcases hk with e | e; exact HTX2.out k e; exact .inr (by omega)), HC4.out⟩
        have hz1 : (ac == 0) = false := by simpa using hac
        have hz2 : (ac != 0) = true := by simpa using hac
        clear HL3
        go_wp2
        exact HQ.out
def seg0 : Seg := ⟨0, [], [], 0⟩
theorem nameI_one : nameI 1 = ⟨#[108, 111, 103, 45, 48, 48, 48, 48, 48, 48, 48, 49]⟩ := by decide +kernel
theorem segD0 (room : Int) : segD room seg0 = ⟨room, [⟨nameI 1, [], 0⟩], 0, false⟩ := by
  unfold segD Seg.files Seg.last seg0
  simp [preF, framesB]
theorem segL0 (room most : Int) : segL room most seg0 = ⟨1, 0, 0, most, ⟨room, [⟨nameI 1, [], 0⟩], 0, false⟩⟩ := by
  have h := segD0 room
  unfold segL
  rw [h]
  simp [seg0, framesB]
theorem seg0_good (most : Int) : seg0.good most where
  num := by decide
  wt := Nat.le_refl _
  lens := by intro r hr; simp [seg0, Seg.all] at hr
  fit := by intro c hc; right; simpa [seg0] using hc
theorem createD_new (room : Int) : createD ⟨room, [], 0, false⟩ (nameI 1) = (⟨room, [⟨nameI 1, [], 0⟩], 0, false⟩, 0) := by
  have hn : namedB (nameI 1) = true := nameI_named (n := 1) (by decide) (by decide)
  unfold createD beginD
  simp [hn, findD]
  decide
theorem doF_new (room : Int) : doF 1 ⟨room, [], 0, false⟩ (nameI 1) ⟨#[]⟩ [] = (⟨room, [⟨nameI 1, [], 0⟩], 0, false⟩, 0) :=
  doF_create (D := ⟨room, [], 0, false⟩) rfl rfl (nameI_named (n := 1) (by decide) (by decide)) rfl
theorem rel_refl0 (room : Int) : Rel ⟨room, [⟨nameI 1, [], 0⟩], 0, false⟩ ⟨room, [⟨nameI 1, [], 0⟩], 0, false⟩ := ⟨rfl, rfl, rfl, by simp, by simp, fun _ => rfl⟩
theorem relL_refl0 (room most : Int) : RelL (segL room most seg0) (segL room most seg0) := ⟨rfl, rfl, rfl, rfl, by rw [segL0]; exact rel_refl0 room⟩
section
variable {w0 w w' : World} {bl bx : Nat} {L : LS} {room most : Int} {s : Seg} {q : Nat} {S : Nat → Prop}
end
end Go.Proofs.YtgdmdbdljmlkkaaGreatDoor
