/- The reference's log: Sync. -/
import Derived.Test.YtgdmdbdljmlkkaaGreatDoorRefLogH
namespace Go.Proofs.YtgdmdbdljmlkkaaGreatDoor
set_option linter.unusedVariables false
set_option linter.unusedSimpArgs false
open Go.RowKit

theorem syn_done {n size wt most room plan : Int} {down : Bool} {fs : List DF} {D : DS} (h : (D, (0 : Int)) = doF 3 ⟨room, fs, plan, down⟩ (nameI n) ⟨#[]⟩ []) : synG opsF ⟨n, size, wt, most, ⟨room, fs, plan, down⟩⟩ = (⟨n, size, 0, most, D⟩, 0) := by
  have e : opsF.syn ⟨room, fs, plan, down⟩ (nameI n) = (D, 0) := h.symm
  unfold synG
  simp only [e, if_true]
theorem syn_fell {n size wt most room plan c : Int} {down : Bool} {fs : List DF} {D : DS} (h : (D, c) = doF 3 ⟨room, fs, plan, down⟩ (nameI n) ⟨#[]⟩ []) (hc : c ≠ 0) : synG opsF ⟨n, size, wt, most, ⟨room, fs, plan, down⟩⟩ = (⟨n, size, wt, most, D⟩, c) := by
  have e : opsF.syn ⟨room, fs, plan, down⟩ (nameI n) = (D, c) := h.symm
  unfold synG
  simp only [e, if_neg hc]

set_option maxRecDepth 100000 in
set_option maxHeartbeats 8000000 in
theorem rsyncL_any (M : LS) (v : Value) (R : List RF) (T : Nat → Prop) (w : World) (h : RLi w v R T) (hf : R.map RF.f = M.D.files) (hL : R.length ≤ 5000) (hp : 0 ≤ M.D.plan ∧ M.D.plan ≤ 9223372036854775807) (hs : sumR R ≤ 1000000000) :
    Calls Tryz.prog 41 #[rlog v M] w (MPst w T (synG opsF M)) := by
  obtain ⟨a, c, rfl⟩ := slice_form h.row
  obtain ⟨n, size, wt, most, ⟨room, fs, plan, down⟩⟩ := M
  simp only at hf hp
  subst hf
  have hnm := nameI_size n
  have HDO : Hid (∀ w', Below w.heap.size w w' → Calls Tryz.prog 64 #[.agg #[.int .i64 room, .slice a R.length c, .int .i64 plan, .bool down], .agg #[.int .i64 3, .string (nameI n), .string ⟨#[]⟩, .slice none 0 0]] w' (DoP w' (fun k => T k ∧ k < w.heap.size) (doF 3 ⟨room, R.map RF.f, plan, down⟩ (nameI n) ⟨#[]⟩ []))) := fun w' hb =>
    (rdo3_any room plan down _ R _ (nameI n) ⟨#[]⟩ [] none 0 w' (h.tight.below hb) hL hp (by omega) (Nat.zero_le _) (Reads.nil _ _) (by simpa using hs)).mono (fun e w2 he => dop_of he)
  have HNM : Hid (∀ w', Below w.heap.size w w' → Calls Tryz.prog 96 #[.agg #[.int .i64 room, .slice a R.length c, .int .i64 plan, .bool down, .int .i64 most, .int .i64 n, .int .i64 size, .int .i64 wt]] w' fun e w2 => e = .returned (.string (nameI n)) ∧ Below w'.heap.size w' w2) := fun w' hb =>
    (rname_any (.slice a R.length c) ⟨n, size, wt, most, ⟨room, R.map RF.f, plan, down⟩⟩ w' ⟨_, _, _, rfl⟩)
  obtain ⟨r, hr⟩ : ∃ r, r = doF 3 ⟨room, R.map RF.f, plan, down⟩ (nameI n) ⟨#[]⟩ [] := ⟨_, rfl⟩
  rw [← hr] at HDO
  have HR := Lib.hid hr
  generalize nameI n = nm at HDO HNM
  clear h hr hnm
  obtain ⟨⟨r1, r2, r3, r4⟩, r5⟩ := r
  go_enter Tryz.func41, Tryz.ntmps41
  go_upto_region 1 with fail
  have HB1 : Hid (Below w.heap.size w ((w.alloc (.cells #[.int .i64 room, .slice a R.length c, .int .i64 plan, .bool down, .int .i64 most, .int .i64 n, .int .i64 size, .int .i64 wt] 34)).alloc (.cells #[.int .i64 0, .slice none 0 0, .int .i64 0, .bool false, .int .i64 0, .int .i64 0, .int .i64 0, .int .i64 0] 34))) := ((Below.refl _ _).alloc (Nat.le_refl _) _).alloc (by simp) _
  have HX1 : Hid (((w.alloc (.cells #[.int .i64 room, .slice a R.length c, .int .i64 plan, .bool down, .int .i64 most, .int .i64 n, .int .i64 size, .int .i64 wt] 34)).alloc (.cells #[.int .i64 0, .slice none 0 0, .int .i64 0, .bool false, .int .i64 0, .int .i64 0, .int .i64 0, .int .i64 0] 34)).heap[w.heap.size]? = some (.cells #[.int .i64 room, .slice a R.length c, .int .i64 plan, .bool down, .int .i64 most, .int .i64 n, .int .i64 size, .int .i64 wt] 34 (0, 0))) := (alloc2_low w _ _).trans (heap_alloc_new w _)
  have HZ1 : Hid (((w.alloc (.cells #[.int .i64 room, .slice a R.length c, .int .i64 plan, .bool down, .int .i64 most, .int .i64 n, .int .i64 size, .int .i64 wt] 34)).alloc (.cells #[.int .i64 0, .slice none 0 0, .int .i64 0, .bool false, .int .i64 0, .int .i64 0, .int .i64 0, .int .i64 0] 34)).heap[w.heap.size + 1]? = some (.cells #[.int .i64 0, .slice none 0 0, .int .i64 0, .bool false, .int .i64 0, .int .i64 0, .int .i64 0, .int .i64 0] 34 (0, 0))) := alloc2_high w _ _ (heap_alloc_new _ _)
  have hsz1 : ((w.alloc (.cells #[.int .i64 room, .slice a R.length c, .int .i64 plan, .bool down, .int .i64 most, .int .i64 n, .int .i64 size, .int .i64 wt] 34)).alloc (.cells #[.int .i64 0, .slice none 0 0, .int .i64 0, .bool false, .int .i64 0, .int .i64 0, .int .i64 0, .int .i64 0] 34)).heap.size = w.heap.size + 2 := by simp
  have HSZ1 := Lib.hid hsz1
  clear hsz1
  generalize (w.alloc (.cells #[.int .i64 room, .slice a R.length c, .int .i64 plan, .bool down, .int .i64 most, .int .i64 n, .int .i64 size, .int .i64 wt] 34)).alloc (.cells #[.int .i64 0, .slice none 0 0, .int .i64 0, .bool false, .int .i64 0, .int .i64 0, .int .i64 0, .int .i64 0] 34) = wa at *
  obtain ⟨x0, x1, x2, x3, x4, x5, x6, x7⟩ := cells8w HX1.out
  have HK : Hid (∀ w', Hid (Below wa.heap.size wa w') → w'.cell? ⟨w.heap.size, 0, none⟩ = some (.int .i64 room) ∧ w'.cell? ⟨w.heap.size, 1, none⟩ = some (.slice a R.length c) ∧ w'.cell? ⟨w.heap.size, 2, none⟩ = some (.int .i64 plan) ∧ w'.cell? ⟨w.heap.size, 3, none⟩ = some (.bool down) ∧ w'.cell? ⟨w.heap.size, 4, none⟩ = some (.int .i64 most) ∧ w'.cell? ⟨w.heap.size, 5, none⟩ = some (.int .i64 n) ∧ w'.cell? ⟨w.heap.size, 6, none⟩ = some (.int .i64 size) ∧ w'.cell? ⟨w.heap.size, 7, none⟩ = some (.int .i64 wt)) := fun w' hb => cells8w ((hb.out.block _ (lt_of_heap HX1.out)).trans HX1.out)
  have HBA : Hid (Below wa.heap.size wa wa.drew) := (Below.refl _ _).drew
  have HBB : Hid (Below wa.heap.size wa (wa.drew.alloc (.cells #[.int .i64 0, .slice none 0 0, .int .i64 0, .bool false] 32))) := HBA.out.alloc (Nat.le_refl _) _
  go_region_held3 (fun w' => w'.cell? ⟨w.heap.size, 0, none⟩ = some (.int .i64 room) ∧ w'.cell? ⟨w.heap.size, 1, none⟩ = some (.slice a R.length c) ∧ w'.cell? ⟨w.heap.size, 2, none⟩ = some (.int .i64 plan) ∧ w'.cell? ⟨w.heap.size, 3, none⟩ = some (.bool down) ∧ w'.cell? ⟨w.heap.size, 4, none⟩ = some (.int .i64 most) ∧ w'.cell? ⟨w.heap.size, 5, none⟩ = some (.int .i64 n) ∧ w'.cell? ⟨w.heap.size, 6, none⟩ = some (.int .i64 size) ∧ w'.cell? ⟨w.heap.size, 7, none⟩ = some (.int .i64 wt)) (first | exact HK.out _ (by assumption) | exact HK.out _ (Lib.hid (by repeat (first | exact Hid.out (by assumption) | (refine Below.setCell ?_ (by first | exact Nat.le_refl _ | (dsimp only; assumption) | (dsimp only; omega)) _)))))
    (first
    | (go_at_call 96; refine (HNM.out _ (HB1.out.trans ((Hid.out (by assumption : Hid (Below wa.heap.size wa _))).mono HB1.out.size))).mono ?_; rintro e w2 ⟨rfl, hb2⟩
       have HB2 := belh_step (w0 := wa) (by assumption) hb2
       have HB2a := Lib.hid (HB2.out.alloc HB2.out.size (.cells #[.int .i64 0, .slice none 0 0, .int .i64 0, .bool false] 32))
       have hs2 := HB2.out.size
       try have Z2 : Hid (w2.heap[wa.heap.size]? = some (.cells #[.int .i64 0, .slice none 0 0, .int .i64 0, .bool false] 32 (0, 0))) := (hb2.block wa.heap.size (by simp)).trans (heap_alloc_new wa.drew _)
       clear hb2)
    | (go_at_call 64; refine (HDO.out _ (HB1.out.trans ((Hid.out (by assumption : Hid (Below wa.heap.size wa _))).mono HB1.out.size))).mono ?_; rintro e w3 ⟨a3, c3, R3, rfl, hf3, hr3, hb3⟩
       have HF3 := Lib.hid hf3
       have HR3 := Lib.hid hr3
       have HB3 := belh_step (w0 := wa) (by assumption) hb3
       have HB3a := Lib.hid (HB3.out.alloc HB3.out.size (.cells #[.int .i64 0, .slice none 0 0, .int .i64 0, .bool false] 32))
       have HB3b := Lib.hid (HB3.out.alloc HB3.out.size (.cells #[.int .i64 r1, .slice a3 R3.length c3, .int .i64 r3, .bool r4] 32))
       first
       | (have Z3 := Lib.hid ((hb3.block _ (lt_of_heap Z2.out)).trans Z2.out)
          obtain ⟨z0, z1, z2, z3⟩ := cells4 Z3.out
          have f0 := freeAt Z3.out 0
          have f1 := freeAt Z3.out 1
          have f2 := freeAt Z3.out 2
          have f3 := freeAt Z3.out 3)
       | (have Z3 : Hid (w3.heap[w2.heap.size]? = some (.cells #[.int .i64 0, .slice none 0 0, .int .i64 0, .bool false] 32 (0, 0))) := (hb3.block w2.heap.size (by simp)).trans (heap_alloc_new w2 _)
          obtain ⟨z0, z1, z2, z3⟩ := cells4 Z3.out
          have f0 := freeAt Z3.out 0
          have f1 := freeAt Z3.out 1
          have f2 := freeAt Z3.out 2
          have f3 := freeAt Z3.out 3)
       | skip
       clear hf3 hr3 hb3))
  all_goals clear HK HBA HBB HNM HDO x0 x1 x2 x3 x4 x5 x6 x7
  all_goals first
  | (have HM := Lib.hid (mid_set (T := T) (r1 := r1) (r3 := r3) (r4 := r4) (n0 := w.heap.size) (b4 := wa.heap.size) Z3.out HB3.out HR3.out (by have := HSZ1.out; have := hs2; have := lt_of_heap Z2.out; omega) (Nat.le_refl _))
     generalize (((w3.setCell ⟨wa.heap.size, 0, none⟩ (.int .i64 r1)).setCell ⟨wa.heap.size, 1, none⟩ (.slice a3 R3.length c3)).setCell ⟨wa.heap.size, 2, none⟩ (.int .i64 r3)).setCell ⟨wa.heap.size, 3, none⟩ (.bool r4) = W4 at HM ⊢
     generalize hb4 : wa.heap.size = b4 at HM ⊢
     clear hb4)
  | (have HM := Lib.hid (mid_set (T := T) (r1 := r1) (r3 := r3) (r4 := r4) (n0 := w.heap.size) (b4 := w2.heap.size) Z3.out HB3.out HR3.out (by have := HSZ1.out; have := hs2; simp <;> omega) hs2)
     generalize (((w3.setCell ⟨w2.heap.size, 0, none⟩ (.int .i64 r1)).setCell ⟨w2.heap.size, 1, none⟩ (.slice a3 R3.length c3)).setCell ⟨w2.heap.size, 2, none⟩ (.int .i64 r3)).setCell ⟨w2.heap.size, 3, none⟩ (.bool r4) = W4 at HM ⊢
     generalize w2.heap.size = b4 at HM ⊢)
  | (have HM := Lib.hid (mid_late (T := T) (r1 := r1) (r3 := r3) (r4 := r4) (n0 := w.heap.size) HB3.out HR3.out (by have := HSZ1.out; have := hs2; simp <;> omega) (by have := HSZ1.out; omega))
     generalize w3.alloc (.cells #[.int .i64 r1, .slice a3 R3.length c3, .int .i64 r3, .bool r4] 32) = W4 at HM ⊢
     generalize w3.heap.size = b4 at HM ⊢)
  all_goals
    have HX4 := Lib.hid ((HM.out.bel.block _ (lt_of_heap HX1.out)).trans HX1.out)
    have HZ4 := Lib.hid ((HM.out.bel.block _ (lt_of_heap HZ1.out)).trans HZ1.out)
    have HB4 := Lib.hid (HB1.out.trans (HM.out.bel.mono HB1.out.size))
    have hb4 : w.heap.size + 2 ≤ b4 := by have := HM.out.beh; have := HSZ1.out; omega
    obtain ⟨y0, y1, y2, y3⟩ := cells4 HM.out.blk
    obtain ⟨x0, x1, x2, x3, x4, x5, x6, x7⟩ := cells8w HX4.out
    obtain ⟨z0, z1, z2, z3, z4, z5, z6, z7⟩ := cells8w HZ4.out
    have g0 := freeAt HX4.out 0
    have g1 := freeAt HX4.out 1
    have g2 := freeAt HX4.out 2
    have g3 := freeAt HX4.out 3
    go_upto_region 3 with fail
    have HX5 : Hid (((((W4.setCell ⟨w.heap.size, 0, none⟩ (.int .i64 r1)).setCell ⟨w.heap.size, 1, none⟩ (.slice a3 R3.length c3)).setCell ⟨w.heap.size, 2, none⟩ (.int .i64 r3)).setCell ⟨w.heap.size, 3, none⟩ (.bool r4)).heap[w.heap.size]? = some (.cells #[.int .i64 r1, .slice a3 R3.length c3, .int .i64 r3, .bool r4, .int .i64 most, .int .i64 n, .int .i64 size, .int .i64 wt] 34 (0, 0))) := heap_store (heap_store (heap_store (heap_store HX4.out 0 _) 1 _) 2 _) 3 _
    have hn1 : w.heap.size + 1 ≠ w.heap.size := by omega
    have HZ5 : Hid (((((W4.setCell ⟨w.heap.size, 0, none⟩ (.int .i64 r1)).setCell ⟨w.heap.size, 1, none⟩ (.slice a3 R3.length c3)).setCell ⟨w.heap.size, 2, none⟩ (.int .i64 r3)).setCell ⟨w.heap.size, 3, none⟩ (.bool r4)).heap[w.heap.size + 1]? = _) := (Below.heap_setCell _ ⟨w.heap.size, 3, none⟩ _ _ hn1).trans ((Below.heap_setCell _ ⟨w.heap.size, 2, none⟩ _ _ hn1).trans ((Below.heap_setCell _ ⟨w.heap.size, 1, none⟩ _ _ hn1).trans ((Below.heap_setCell _ ⟨w.heap.size, 0, none⟩ _ _ hn1).trans HZ4.out)))
    have HB5 : Hid (Below w.heap.size w ((((W4.setCell ⟨w.heap.size, 0, none⟩ (.int .i64 r1)).setCell ⟨w.heap.size, 1, none⟩ (.slice a3 R3.length c3)).setCell ⟨w.heap.size, 2, none⟩ (.int .i64 r3)).setCell ⟨w.heap.size, 3, none⟩ (.bool r4))) := (((HB4.out.setCell (p := ⟨w.heap.size, 0, none⟩) (Nat.le_refl _) _).setCell (p := ⟨w.heap.size, 1, none⟩) (Nat.le_refl _) _).setCell (p := ⟨w.heap.size, 2, none⟩) (Nat.le_refl _) _).setCell (p := ⟨w.heap.size, 3, none⟩) (Nat.le_refl _) _
    have hno : ¬ ((T w.heap.size ∧ w.heap.size < w.heap.size) ∨ (w.heap.size + 2 ≤ w.heap.size ∧ w.heap.size ≠ b4)) := by rintro (h | h) <;> omega
    have HR5 : Hid (RLi ((((W4.setCell ⟨w.heap.size, 0, none⟩ (.int .i64 r1)).setCell ⟨w.heap.size, 1, none⟩ (.slice a3 R3.length c3)).setCell ⟨w.heap.size, 2, none⟩ (.int .i64 r3)).setCell ⟨w.heap.size, 3, none⟩ (.bool r4)) (.slice a3 R3.length c3) R3 (fun k => (T k ∧ k < w.heap.size) ∨ (w.heap.size + 2 ≤ k ∧ k ≠ b4))) := (((HM.out.lst.store (p := ⟨w.heap.size, 0, none⟩) hno _).store (p := ⟨w.heap.size, 1, none⟩) hno _).store (p := ⟨w.heap.size, 2, none⟩) hno _).store (p := ⟨w.heap.size, 3, none⟩) hno _
    clear x0 x1 x2 x3 x4 x5 x6 x7 y0 y1 y2 y3 z0 z1 z2 z3 z4 z5 z6 z7 g0 g1 g2 g3 HX4 HZ4 HB4 HM
    generalize ((((W4.setCell ⟨w.heap.size, 0, none⟩ (.int .i64 r1)).setCell ⟨w.heap.size, 1, none⟩ (.slice a3 R3.length c3)).setCell ⟨w.heap.size, 2, none⟩ (.int .i64 r3)).setCell ⟨w.heap.size, 3, none⟩ (.bool r4)) = W5 at *
    have hno2 : ¬ ((T (w.heap.size + 1) ∧ w.heap.size + 1 < w.heap.size) ∨ (w.heap.size + 2 ≤ w.heap.size + 1 ∧ w.heap.size + 1 ≠ b4)) := by rintro (h | h) <;> omega
    have hTT : ∀ k, ((T k ∧ k < w.heap.size) ∨ (w.heap.size + 2 ≤ k ∧ k ≠ b4)) → T k ∨ w.heap.size ≤ k := fun k hk => by rcases hk with h | h; exact .inl h.1; exact .inr (by omega)
    have HNO := Lib.hid hno2
    have HTT := Lib.hid hTT
    clear hno2 hTT
    obtain ⟨x0, x1, x2, x3, x4, x5, x6, x7⟩ := cells8w HX5.out
    obtain ⟨z0, z1, z2, z3, z4, z5, z6, z7⟩ := cells8w HZ5.out
    have q0 := freeAt HZ5.out 0
    have q1 := freeAt HZ5.out 1
    have q2 := freeAt HZ5.out 2
    have q3 := freeAt HZ5.out 3
    have q4 := freeAt HZ5.out 4
    have q5 := freeAt HZ5.out 5
    have q6 := freeAt HZ5.out 6
    have q7 := freeAt HZ5.out 7
    have HF := Lib.hid (show R3.map RF.f = r2 from HF3.out)
    by_cases hr5 : r5 = 0
    · subst hr5
      have g7 := freeAt HX5.out 7
      go_upto_region 5 with fail
      have HX6 : Hid ((W5.setCell ⟨w.heap.size, 7, none⟩ (.int .i64 0)).heap[w.heap.size]? = some (.cells #[.int .i64 r1, .slice a3 R3.length c3, .int .i64 r3, .bool r4, .int .i64 most, .int .i64 n, .int .i64 size, .int .i64 0] 34 (0, 0))) := heap_store HX5.out 7 _
      have HZ6 : Hid ((W5.setCell ⟨w.heap.size, 7, none⟩ (.int .i64 0)).heap[w.heap.size + 1]? = _) := (Below.heap_setCell _ ⟨w.heap.size, 7, none⟩ _ _ hn1).trans HZ5.out
      have HB6 : Hid (Below w.heap.size w (W5.setCell ⟨w.heap.size, 7, none⟩ (.int .i64 0))) := HB5.out.setCell (p := ⟨w.heap.size, 7, none⟩) (Nat.le_refl _) _
      have HR6 : Hid (RLi (W5.setCell ⟨w.heap.size, 7, none⟩ (.int .i64 0)) (.slice a3 R3.length c3) R3 (fun k => (T k ∧ k < w.heap.size) ∨ (w.heap.size + 2 ≤ k ∧ k ≠ b4))) := HR5.out.store (p := ⟨w.heap.size, 7, none⟩) hno _
      clear x0 x1 x2 x3 x4 x5 x6 x7 z0 z1 z2 z3 z4 z5 z6 z7 q0 q1 q2 q3 q4 q5 q6 q7 g7 HX5 HZ5 HB5 HR5
      generalize W5.setCell ⟨w.heap.size, 7, none⟩ (.int .i64 0) = W6 at *
      obtain ⟨x0, x1, x2, x3, x4, x5, x6, x7⟩ := cells8w HX6.out
      obtain ⟨z0, z1, z2, z3, z4, z5, z6, z7⟩ := cells8w HZ6.out
      have q0 := freeAt HZ6.out 0
      have q1 := freeAt HZ6.out 1
      have q2 := freeAt HZ6.out 2
      have q3 := freeAt HZ6.out 3
      have q4 := freeAt HZ6.out 4
      have q5 := freeAt HZ6.out 5
      have q6 := freeAt HZ6.out 6
      have q7 := freeAt HZ6.out 7
      go_wp2
      try simp only [Exit.inBlock, Exit.then]
      exact rlog_end Tryz.results41 (b2 := w.heap.size + 1) (room := r1) (plan := r3) (down := r4) 0 HZ6.out (by omega) HB6.out HR6.out HTT.out HNO.out (by rw [HF.out]; exact syn_done HR.out) rfl rfl
    · have hb5 : (r5 == 0) = false := by simpa using hr5
      go_wp2
      try simp only [Exit.inBlock, Exit.then]
      exact rlog_end Tryz.results41 (b2 := w.heap.size + 1) (room := r1) (plan := r3) (down := r4) r5 HZ5.out (by omega) HB5.out HR5.out HTT.out HNO.out (by rw [HF.out]; exact syn_fell HR.out hr5) rfl rfl
end Go.Proofs.YtgdmdbdljmlkkaaGreatDoor
