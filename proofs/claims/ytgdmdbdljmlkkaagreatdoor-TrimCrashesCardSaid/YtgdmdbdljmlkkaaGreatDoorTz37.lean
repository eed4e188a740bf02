/- RefRot -/
import Derived.Test.YtgdmdbdljmlkkaaGreatDoorTz22
set_option maxRecDepth 100000
set_option linter.unusedVariables false
set_option linter.unusedSimpArgs false
namespace Go.Proofs.YtgdmdbdljmlkkaaGreatDoor
open Go.RowKit
theorem rot_top {n size wt most : Int} {D : DS} (h : 99999999 ≤ n) : rotG opsF ⟨n, size, wt, most, D⟩ = (⟨n, size, wt, most, D⟩, 2) := by
 unfold rotG; rw [if_pos h]
theorem rot_fell1 {n size wt most c : Int} {D E : DS} (hn : ¬ 99999999 ≤ n) (h : (E, c) = doF 3 D (nameI n) ⟨#[]⟩ []) (hc : c ≠ 0) : rotG opsF ⟨n, size, wt, most, D⟩ = (⟨n, size, wt, most, E⟩, c) := by
 have e : opsF.syn D (nameI n) = (E, c) := h.symm
 unfold rotG
 simp only [hn, e, ne_eq, hc, not_false_iff, if_true, if_false]
theorem rot_fell2 {n size wt most c : Int} {D E G : DS} (hn : ¬ 99999999 ≤ n) (h : (E, (0 : Int)) = doF 3 D (nameI n) ⟨#[]⟩ []) (h2 : (G, c) = doF 1 E (nameI (n + 1)) ⟨#[]⟩ []) (hc : c ≠ 0) : rotG opsF ⟨n, size, wt, most, D⟩ = (⟨n, size, wt, most, G⟩, c) := by
 have e : opsF.syn D (nameI n) = (E, 0) := h.symm
 have e2 : opsF.cre E (nameI (n + 1)) = (G, c) := h2.symm
 unfold rotG
 simp only [hn, e, e2, ne_eq, hc, not_true, not_false_iff, if_true, if_false]
theorem rot_done {n size wt most : Int} {D E G : DS} (hn : ¬ 99999999 ≤ n) (h : (E, (0 : Int)) = doF 3 D (nameI n) ⟨#[]⟩ []) (h2 : (G, (0 : Int)) = doF 1 E (nameI (n + 1)) ⟨#[]⟩ []) : rotG opsF ⟨n, size, wt, most, D⟩ = (⟨n + 1, 0, 0, most, G⟩, 0) := by
 have e : opsF.syn D (nameI n) = (E, 0) := h.symm
 have e2 : opsF.cre E (nameI (n + 1)) = (G, 0) := h2.symm
 unfold rotG
 simp only [hn, e, e2, ne_eq, not_true, if_false]
set_option maxHeartbeats 8000000 in
theorem rrot_any (M : LS) (v : Value) (R : List RF) (T : Nat → Prop) (w : World) (h : RLi w v R T) (hf : R.map RF.f = M.D.files) (hL : R.length ≤ 5000) (hp : 0 ≤ M.D.plan ∧ M.D.plan ≤ 9223372036854775807) (hs : sumR R ≤ 1000000000) (hn0 : 0 ≤ M.n)
   (hmid : (doF 3 M.D (nameI M.n) ⟨#[]⟩ []).1.files.length ≤ 5000 ∧ sumD (doF 3 M.D (nameI M.n) ⟨#[]⟩ []).1.files ≤ 1000000000 ∧ 0 ≤ (doF 3 M.D (nameI M.n) ⟨#[]⟩ []).1.plan ∧ (doF 3 M.D (nameI M.n) ⟨#[]⟩ []).1.plan ≤ 9223372036854775807) :
   Calls Tryz.prog 95 #[rlog v M] w (MPst w T (rotG opsF M)) := by
 obtain ⟨a, c, rfl⟩ := slice_form h.row
 obtain ⟨n, size, wt, most, ⟨room, fs, plan, down⟩⟩ := M
 simp only at hf hp hn0 hmid
 subst hf
 have hnm := nameI_size n
 have hnm1 := nameI_size (n + 1)
 have HT := Lib.hid h
 go_enter Tryz.func95, Tryz.ntmps95
 go_upto_region 1 with fail
 have HB1 : Hid (Below w.heap.size w ((w.alloc (.cells #[.int .i64 room, .slice a R.length c, .int .i64 plan, .bool down, .int .i64 most, .int .i64 n, .int .i64 size, .int .i64 wt] 34)).alloc (.cells #[.int .i64 0, .slice none 0 0, .int .i64 0, .bool false, .int .i64 0, .int .i64 0, .int .i64 0, .int .i64 0] 34))) := ((Below.refl _ _).alloc (Nat.le_refl _) _).alloc (by simp) _
 have HX1 : Hid (((w.alloc (.cells #[.int .i64 room, .slice a R.length c, .int .i64 plan, .bool down, .int .i64 most, .int .i64 n, .int .i64 size, .int .i64 wt] 34)).alloc (.cells #[.int .i64 0, .slice none 0 0, .int .i64 0, .bool false, .int .i64 0, .int .i64 0, .int .i64 0, .int .i64 0] 34)).heap[w.heap.size]? = some (.cells #[.int .i64 room, .slice a R.length c, .int .i64 plan, .bool down, .int .i64 most, .int .i64 n, .int .i64 size, .int .i64 wt] 34 (0, 0))) := (alloc2_low w _ _).trans (heap_alloc_new w _)
 have HZ1 : Hid (((w.alloc (.cells #[.int .i64 room, .slice a R.length c, .int .i64 plan, .bool down, .int .i64 most, .int .i64 n, .int .i64 size, .int .i64 wt] 34)).alloc (.cells #[.int .i64 0, .slice none 0 0, .int .i64 0, .bool false, .int .i64 0, .int .i64 0, .int .i64 0, .int .i64 0] 34)).heap[w.heap.size + 1]? = some (.cells #[.int .i64 0, .slice none 0 0, .int .i64 0, .bool false, .int .i64 0, .int .i64 0, .int .i64 0, .int .i64 0] 34 (0, 0))) := alloc2_high w _ _ (heap_alloc_new _ _)
 have hsz1 : ((w.alloc (.cells #[.int .i64 room, .slice a R.length c, .int .i64 plan, .bool down, .int .i64 most, .int .i64 n, .int .i64 size, .int .i64 wt] 34)).alloc (.cells #[.int .i64 0, .slice none 0 0, .int .i64 0, .bool false, .int .i64 0, .int .i64 0, .int .i64 0, .int .i64 0] 34)).heap.size = w.heap.size + 2 := by simp
 have HSZ1 := Lib.hid hsz1
 clear hsz1
 generalize (w.alloc (.cells #[.int .i64 room, .slice a R.length c, .int .i64 plan, .bool down, .int .i64 most, .int .i64 n, .int .i64 size, .int .i64 wt] 34)).alloc (.cells #[.int .i64 0, .slice none 0 0, .int .i64 0, .bool false, .int .i64 0, .int .i64 0, .int .i64 0, .int .i64 0] 34) = wa at *
 have HTA : Hid (RLi wa (.slice a R.length c) R (fun k => T k ∧ k < w.heap.size)) := HT.out.tight.below HB1.out
 obtain ⟨x0, x1, x2, x3, x4, x5, x6, x7⟩ := cells8w HX1.out
 by_cases htop : 99999999 ≤ n
 · have HNO : Hid (¬ (T (w.heap.size + 1) ∧ w.heap.size + 1 < w.heap.size)) := by rintro h; omega
   obtain ⟨z0, z1, z2, z3, z4, z5, z6, z7⟩ := cells8w HZ1.out
   have q0 := freeAt HZ1.out 0
   have q1 := freeAt HZ1.out 1
   have q2 := freeAt HZ1.out 2
   have q3 := freeAt HZ1.out 3
   have q4 := freeAt HZ1.out 4
   have q5 := freeAt HZ1.out 5
   have q6 := freeAt HZ1.out 6
   have q7 := freeAt HZ1.out 7
   go_wp2
   try simp only [Exit.inBlock, Exit.then]
   exact rlog_end Tryz.results95 (b2 := w.heap.size + 1) (room := room) (plan := plan) (down := down) (n := n) (size := size) (wt := wt) (most := most) 2 HZ1.out (by omega) HB1.out HTA.out (fun k hk => .inl hk.1) HNO.out (rot_top htop) rfl rfl
 have HTOP := Lib.hid htop
 have hn2 : n + 1 ≤ 99999999 := by omega
 have HDO : Hid (∀ w', Below w.heap.size w w' → Calls Tryz.prog 64 #[.agg #[.int .i64 room, .slice a R.length c, .int .i64 plan, .bool down], .agg #[.int .i64 3, .string (nameI n), .string ⟨#[]⟩, .slice none 0 0]] w' (DoP w' (fun k => T k ∧ k < w.heap.size) (doF 3 ⟨room, R.map RF.f, plan, down⟩ (nameI n) ⟨#[]⟩ []))) := fun w' hb =>
   (rdo3_any room plan down _ R _ (nameI n) ⟨#[]⟩ [] none 0 w' (h.tight.below hb) hL hp (by omega) (Nat.zero_le _) (Reads.nil _ _) (by simpa using hs)).mono (fun e w2 he => dop_of he)
 have HNM : Hid (∀ w', Below w.heap.size w w' → Calls Tryz.prog 96 #[.agg #[.int .i64 room, .slice a R.length c, .int .i64 plan, .bool down, .int .i64 most, .int .i64 n, .int .i64 size, .int .i64 wt]] w' fun e w2 => e = .returned (.string (nameI n)) ∧ Below w'.heap.size w' w2) := fun w' hb =>
   (rname_any (.slice a R.length c) ⟨n, size, wt, most, ⟨room, R.map RF.f, plan, down⟩⟩ w' ⟨_, _, _, rfl⟩)
 obtain ⟨rr, hrr⟩ : ∃ rr, rr = doF 3 ⟨room, R.map RF.f, plan, down⟩ (nameI n) ⟨#[]⟩ [] := ⟨_, rfl⟩
 rw [← hrr] at HDO hmid
 have HR := Lib.hid hrr
 generalize nameI n = nm at HDO HNM
 clear hrr hnm h hL hp hs
 obtain ⟨⟨r1, r2, r3, r4⟩, r5⟩ := rr
 have HMID := Lib.hid hmid
 clear hmid
 go_upto_region 3 with fail
 have HK : Hid (∀ w', Hid (Below wa.heap.size wa w') → w'.cell? ⟨w.heap.size, 0, none⟩ = some (.int .i64 room) ∧ w'.cell? ⟨w.heap.size, 1, none⟩ = some (.slice a R.length c) ∧ w'.cell? ⟨w.heap.size, 2, none⟩ = some (.int .i64 plan) ∧ w'.cell? ⟨w.heap.size, 3, none⟩ = some (.bool down) ∧ w'.cell? ⟨w.heap.size, 4, none⟩ = some (.int .i64 most) ∧ w'.cell? ⟨w.heap.size, 5, none⟩ = some (.int .i64 n) ∧ w'.cell? ⟨w.heap.size, 6, none⟩ = some (.int .i64 size) ∧ w'.cell? ⟨w.heap.size, 7, none⟩ = some (.int .i64 wt)) := fun w' hb => cells8w ((hb.out.block _ (lt_of_heap HX1.out)).trans HX1.out)
 have HBA : Hid (Below wa.heap.size wa wa.drew) := (Below.refl _ _).drew
 have HBB : Hid (Below wa.heap.size wa (wa.drew.alloc (.cells #[.int .i64 0, .slice none 0 0, .int .i64 0, .bool false] 32))) := HBA.out.alloc (Nat.le_refl _) _
 go_region_held3 (fun w' => w'.cell? ⟨w.heap.size, 0, none⟩ = some (.int .i64 room) ∧ w'.cell? ⟨w.heap.size, 1, none⟩ = some (.slice a R.length c) ∧ w'.cell? ⟨w.heap.size, 2, none⟩ = some (.int .i64 plan) ∧ w'.cell? ⟨w.heap.size, 3, none⟩ = some (.bool down) ∧ w'.cell? ⟨w.heap.size, 4, none⟩ = some (.int .i64 most) ∧ w'.cell? ⟨w.heap.size, 5, none⟩ = some (.int .i64 n) ∧ w'.cell? ⟨w.heap.size, 6, none⟩ = some (.int .i64 size) ∧ w'.cell? ⟨w.heap.size, 7, none⟩ = some (.int .i64 wt)) (first | exact HK.out _ (by assumption) | exact HK.out _ (Lib.hid (by repeat (first | exact Hid.out (by assumption) | (refine Below.setCell ?_ (by first | exact Nat.le_refl _ | (dsimp only; assumption) | (dsimp only; omega)) _)))))
   (first
   | (go_at_call 96; refine (HNM.out _ (HB1.out.trans ((Hid.out (by assumption : Hid (Below wa.heap.size wa _))).mono HB1.out.size))).mono ?_; rintro e w2 ⟨rfl, hb2⟩
      have HB2 := belh_step (w0 := wa) (by assumption) hb2
      have HB2a := Lib.hid (HB2.out.alloc HB2.out.size (.cells #[.int .i64 0, .slice none 0 0, .int .i64 0, .bool false] 32))
      have hs2 := HB2.out.size
      try have Z2 : Hid (w2.heap[wa.heap.size]? = some (.cells #[.int .i64 0, .slice none 0 0, .int .i64 0, .bool false] 32 (0, 0))) := (hb2.block wa.heap.size (by simp)).trans (heap_alloc_new wa.drew _)
      clear hb2)
   | (go_at_call 64; refine (HDO.out _ (HB1.out.trans ((Hid.out (by assumption : Hid (Below wa.heap.size wa _))).mono HB1.out.size))).mono ?_; rintro e w3 ⟨a3, c3, R3, rfl, hf3, hr3, hb3⟩
      have HF3 := Lib.hid hf3
      have HR3 := Lib.hid hr3
      have HB3 := belh_step (w0 := wa) (by assumption) hb3
      have HB3a := Lib.hid (HB3.out.alloc HB3.out.size (.cells #[.int .i64 0, .slice none 0 0, .int .i64 0, .bool false] 32))
      have HB3b := Lib.hid (HB3.out.alloc HB3.out.size (.cells #[.int .i64 r1, .slice a3 R3.length c3, .int .i64 r3, .bool r4] 32))
      first
      | (have Z3 := Lib.hid ((hb3.block _ (lt_of_heap Z2.out)).trans Z2.out)
         obtain ⟨z0, z1, z2, z3⟩ := cells4 Z3.out
         have f0 := freeAt Z3.out 0
         have f1 := freeAt Z3.out 1
         have f2 := freeAt Z3.out 2
         have f3 := freeAt Z3.out 3)
      | (have Z3 : Hid (w3.heap[w2.heap.size]? = some (.cells #[.int .i64 0, .slice none 0 0, .int .i64 0, .bool false] 32 (0, 0))) := (hb3.block w2.heap.size (by simp)).trans (heap_alloc_new w2 _)
         obtain ⟨z0, z1, z2, z3⟩ := cells4 Z3.out
         have f0 := freeAt Z3.out 0
         have f1 := freeAt Z3.out 1
         have f2 := freeAt Z3.out 2
         have f3 := freeAt Z3.out 3)
      | skip
      clear hf3 hr3 hb3))
 all_goals clear HK HBA HBB HNM HDO x0 x1 x2 x3 x4 x5 x6 x7
 all_goals first
 | (have HM := Lib.hid (mid_set (T := T) (r1 := r1) (r3 := r3) (r4 := r4) (n0 := w.heap.size) (b4 := wa.heap.size) Z3.out HB3.out HR3.out (by have := HSZ1.out; have := hs2; have := lt_of_heap Z2.out; omega) (Nat.le_refl _))
    generalize ((((w3.setCell ⟨wa.heap.size, 0, none⟩ (.int .i64 r1)).setCell ⟨wa.heap.size, 1, none⟩ (.slice a3 R3.length c3)).setCell ⟨wa.heap.size, 2, none⟩ (.int .i64 r3)).setCell ⟨wa.heap.size, 3, none⟩ (.bool r4)) = W4 at HM ⊢
    generalize hb4 : wa.heap.size = b4 at HM ⊢
    clear hb4)
 | (have HM := Lib.hid (mid_set (T := T) (r1 := r1) (r3 := r3) (r4 := r4) (n0 := w.heap.size) (b4 := w2.heap.size) Z3.out HB3.out HR3.out (by have := HSZ1.out; have := hs2; simp <;> omega) hs2)
    generalize ((((w3.setCell ⟨w2.heap.size, 0, none⟩ (.int .i64 r1)).setCell ⟨w2.heap.size, 1, none⟩ (.slice a3 R3.length c3)).setCell ⟨w2.heap.size, 2, none⟩ (.int .i64 r3)).setCell ⟨w2.heap.size, 3, none⟩ (.bool r4)) = W4 at HM ⊢
    generalize w2.heap.size = b4 at HM ⊢)
 | (have HM := Lib.hid (mid_late (T := T) (r1 := r1) (r3 := r3) (r4 := r4) (n0 := w.heap.size) HB3.out HR3.out (by have := HSZ1.out; have := hs2; simp <;> omega) (by have := HSZ1.out; omega))
    generalize w3.alloc (.cells #[.int .i64 r1, .slice a3 R3.length c3, .int .i64 r3, .bool r4] 32) = W4 at HM ⊢
    generalize w3.heap.size = b4 at HM ⊢)
 all_goals
   have HX4 := Lib.hid ((HM.out.bel.block _ (lt_of_heap HX1.out)).trans HX1.out)
   have HZ4 := Lib.hid ((HM.out.bel.block _ (lt_of_heap HZ1.out)).trans HZ1.out)
   have HB4 := Lib.hid (HB1.out.trans (HM.out.bel.mono HB1.out.size))
   have hb4 : w.heap.size + 2 ≤ b4 := by have := HM.out.beh; have := HSZ1.out; omega
   have hn1 : w.heap.size + 1 ≠ w.heap.size := by omega
   obtain ⟨y0, y1, y2, y3⟩ := cells4 HM.out.blk
   obtain ⟨x0, x1, x2, x3, x4, x5, x6, x7⟩ := cells8w HX4.out
   have g0 := freeAt HX4.out 0
   have g1 := freeAt HX4.out 1
   have g2 := freeAt HX4.out 2
   have g3 := freeAt HX4.out 3
   go_upto_region 5 with fail
   have HX5 : Hid (((((W4.setCell ⟨w.heap.size, 0, none⟩ (.int .i64 r1)).setCell ⟨w.heap.size, 1, none⟩ (.slice a3 R3.length c3)).setCell ⟨w.heap.size, 2, none⟩ (.int .i64 r3)).setCell ⟨w.heap.size, 3, none⟩ (.bool r4)).heap[w.heap.size]? = some (.cells #[.int .i64 r1, .slice a3 R3.length c3, .int .i64 r3, .bool r4, .int .i64 most, .int .i64 n, .int .i64 size, .int .i64 wt] 34 (0, 0))) := heap_store (heap_store (heap_store (heap_store HX4.out 0 _) 1 _) 2 _) 3 _
   have HZ5 : Hid (((((W4.setCell ⟨w.heap.size, 0, none⟩ (.int .i64 r1)).setCell ⟨w.heap.size, 1, none⟩ (.slice a3 R3.length c3)).setCell ⟨w.heap.size, 2, none⟩ (.int .i64 r3)).setCell ⟨w.heap.size, 3, none⟩ (.bool r4)).heap[w.heap.size + 1]? = _) := (Below.heap_setCell _ ⟨w.heap.size, 3, none⟩ _ _ hn1).trans ((Below.heap_setCell _ ⟨w.heap.size, 2, none⟩ _ _ hn1).trans ((Below.heap_setCell _ ⟨w.heap.size, 1, none⟩ _ _ hn1).trans ((Below.heap_setCell _ ⟨w.heap.size, 0, none⟩ _ _ hn1).trans HZ4.out)))
   have hn4 : b4 ≠ w.heap.size := by omega
   have HY5 : Hid (((((W4.setCell ⟨w.heap.size, 0, none⟩ (.int .i64 r1)).setCell ⟨w.heap.size, 1, none⟩ (.slice a3 R3.length c3)).setCell ⟨w.heap.size, 2, none⟩ (.int .i64 r3)).setCell ⟨w.heap.size, 3, none⟩ (.bool r4)).heap[b4]? = _) := (Below.heap_setCell _ ⟨w.heap.size, 3, none⟩ _ _ hn4).trans ((Below.heap_setCell _ ⟨w.heap.size, 2, none⟩ _ _ hn4).trans ((Below.heap_setCell _ ⟨w.heap.size, 1, none⟩ _ _ hn4).trans ((Below.heap_setCell _ ⟨w.heap.size, 0, none⟩ _ _ hn4).trans HM.out.blk)))
   have HB5 : Hid (Below w.heap.size w ((((W4.setCell ⟨w.heap.size, 0, none⟩ (.int .i64 r1)).setCell ⟨w.heap.size, 1, none⟩ (.slice a3 R3.length c3)).setCell ⟨w.heap.size, 2, none⟩ (.int .i64 r3)).setCell ⟨w.heap.size, 3, none⟩ (.bool r4))) := (((HB4.out.setCell (p := ⟨w.heap.size, 0, none⟩) (Nat.le_refl _) _).setCell (p := ⟨w.heap.size, 1, none⟩) (Nat.le_refl _) _).setCell (p := ⟨w.heap.size, 2, none⟩) (Nat.le_refl _) _).setCell (p := ⟨w.heap.size, 3, none⟩) (Nat.le_refl _) _
   have hno : ¬ ((T w.heap.size ∧ w.heap.size < w.heap.size) ∨ (w.heap.size + 2 ≤ w.heap.size ∧ w.heap.size ≠ b4)) := by rintro (h | h) <;> omega
   have HR5 : Hid (RLi ((((W4.setCell ⟨w.heap.size, 0, none⟩ (.int .i64 r1)).setCell ⟨w.heap.size, 1, none⟩ (.slice a3 R3.length c3)).setCell ⟨w.heap.size, 2, none⟩ (.int .i64 r3)).setCell ⟨w.heap.size, 3, none⟩ (.bool r4)) (.slice a3 R3.length c3) R3 (fun k => (T k ∧ k < w.heap.size) ∨ (w.heap.size + 2 ≤ k ∧ k ≠ b4))) := (((HM.out.lst.store (p := ⟨w.heap.size, 0, none⟩) hno _).store (p := ⟨w.heap.size, 1, none⟩) hno _).store (p := ⟨w.heap.size, 2, none⟩) hno _).store (p := ⟨w.heap.size, 3, none⟩) hno _
   clear x0 x1 x2 x3 x4 x5 x6 x7 y0 y1 y2 y3 g0 g1 g2 g3 HX4 HZ4 HB4 HM hno
   generalize ((((W4.setCell ⟨w.heap.size, 0, none⟩ (.int .i64 r1)).setCell ⟨w.heap.size, 1, none⟩ (.slice a3 R3.length c3)).setCell ⟨w.heap.size, 2, none⟩ (.int .i64 r3)).setCell ⟨w.heap.size, 3, none⟩ (.bool r4)) = W5 at *
   have hno2 : ¬ ((T (w.heap.size + 1) ∧ w.heap.size + 1 < w.heap.size) ∨ (w.heap.size + 2 ≤ w.heap.size + 1 ∧ w.heap.size + 1 ≠ b4)) := by rintro (h | h) <;> omega
   have hTT : ∀ k, ((T k ∧ k < w.heap.size) ∨ (w.heap.size + 2 ≤ k ∧ k ≠ b4)) → T k ∨ w.heap.size ≤ k := fun k hk => by rcases hk with h | h; exact .inl h.1; exact .inr (by omega)
   have HNO := Lib.hid hno2
   have HTT := Lib.hid hTT
   clear hno2 hTT
   have HF := Lib.hid (show R3.map RF.f = r2 from HF3.out)
   obtain ⟨x0, x1, x2, x3, x4, x5, x6, x7⟩ := cells8w HX5.out
   by_cases hr5 : r5 = 0
   rotate_left
   · have hb5 : (r5 != 0) = true := by simpa using hr5
     obtain ⟨z0, z1, z2, z3, z4, z5, z6, z7⟩ := cells8w HZ5.out
     have q0 := freeAt HZ5.out 0
     have q1 := freeAt HZ5.out 1
     have q2 := freeAt HZ5.out 2
     have q3 := freeAt HZ5.out 3
     have q4 := freeAt HZ5.out 4
     have q5 := freeAt HZ5.out 5
     have q6 := freeAt HZ5.out 6
     have q7 := freeAt HZ5.out 7
     have HFIN : Hid (rotG opsF ⟨n, size, wt, most, ⟨room, R.map RF.f, plan, down⟩⟩ = (⟨n, size, wt, most, ⟨r1, R3.map RF.f, r3, r4⟩⟩, r5)) := by
       rw [Hid, HF.out]; exact rot_fell1 (by have := HTOP.out; omega) HR.out hr5
     go_wp2
     try simp only [Exit.inBlock, Exit.then]
     exact rlog_end Tryz.results95 (b2 := w.heap.size + 1) (room := r1) (plan := r3) (down := r4) r5 HZ5.out (by omega) HB5.out HR5.out HTT.out HNO.out HFIN.out rfl rfl
   subst hr5
   obtain ⟨y0, y1, y2, y3⟩ := cells4 HY5.out
   have hsz5 : w.heap.size + 2 ≤ W5.heap.size := by have := lt_of_heap HY5.out; omega
   have hb45 := lt_of_heap HY5.out
   go_upto_region 8 with fail
   have HN6 : Hid ((W5.alloc (.cells #[.int .i64 r1, .slice a3 R3.length c3, .int .i64 r3, .bool r4, .int .i64 most, .int .i64 n, .int .i64 size, .int .i64 wt] 34)).heap[W5.heap.size]? = some (.cells #[.int .i64 r1, .slice a3 R3.length c3, .int .i64 r3, .bool r4, .int .i64 most, .int .i64 n, .int .i64 size, .int .i64 wt] 34 (0, 0))) := heap_alloc_new _ _
   have HX6 : Hid ((W5.alloc (.cells #[.int .i64 r1, .slice a3 R3.length c3, .int .i64 r3, .bool r4, .int .i64 most, .int .i64 n, .int .i64 size, .int .i64 wt] 34)).heap[w.heap.size]? = _) := (Below.heap_alloc _ _ _ (lt_of_heap HX5.out)).trans HX5.out
   have HZ6 : Hid ((W5.alloc (.cells #[.int .i64 r1, .slice a3 R3.length c3, .int .i64 r3, .bool r4, .int .i64 most, .int .i64 n, .int .i64 size, .int .i64 wt] 34)).heap[w.heap.size + 1]? = _) := (Below.heap_alloc _ _ _ (lt_of_heap HZ5.out)).trans HZ5.out
   have HY6 : Hid ((W5.alloc (.cells #[.int .i64 r1, .slice a3 R3.length c3, .int .i64 r3, .bool r4, .int .i64 most, .int .i64 n, .int .i64 size, .int .i64 wt] 34)).heap[b4]? = _) := (Below.heap_alloc _ _ _ hb45).trans HY5.out
   have HB6 : Hid (Below w.heap.size w (W5.alloc (.cells #[.int .i64 r1, .slice a3 R3.length c3, .int .i64 r3, .bool r4, .int .i64 most, .int .i64 n, .int .i64 size, .int .i64 wt] 34))) := HB5.out.alloc HB5.out.size _
   have HR6 : Hid (RLi (W5.alloc (.cells #[.int .i64 r1, .slice a3 R3.length c3, .int .i64 r3, .bool r4, .int .i64 most, .int .i64 n, .int .i64 size, .int .i64 wt] 34)) (.slice a3 R3.length c3) R3 (fun k => ((T k ∧ k < w.heap.size) ∨ (w.heap.size + 2 ≤ k ∧ k ≠ b4)) ∧ k < W5.heap.size)) := HR5.out.tight.below ((Below.refl _ _).alloc (Nat.le_refl _) _)
   have hsz6 : (W5.alloc (.cells #[.int .i64 r1, .slice a3 R3.length c3, .int .i64 r3, .bool r4, .int .i64 most, .int .i64 n, .int .i64 size, .int .i64 wt] 34)).heap.size = W5.heap.size + 1 := World.size_alloc _ _
   generalize W5.alloc (.cells #[.int .i64 r1, .slice a3 R3.length c3, .int .i64 r3, .bool r4, .int .i64 most, .int .i64 n, .int .i64 size, .int .i64 wt] 34) = W6 at *
   generalize W5.heap.size = b6 at *
   clear x0 x1 x2 x3 x4 x5 x6 x7 y0 y1 y2 y3 HX5 HZ5 HY5 HB5 HR5
   obtain ⟨u0, u1, u2, u3, u4, u5, u6, u7⟩ := cells8w HN6.out
   have hf5 := freeAt HN6.out 5
   go_upto_region 9 with fail
   have hn6 : w.heap.size ≠ b6 := by omega
   have hn61 : w.heap.size + 1 ≠ b6 := by omega
   have hn64 : b4 ≠ b6 := by omega
   have HN7 : Hid ((W6.setCell ⟨b6, 5, none⟩ (.int .i64 (n + 1))).heap[b6]? = some (.cells #[.int .i64 r1, .slice a3 R3.length c3, .int .i64 r3, .bool r4, .int .i64 most, .int .i64 (n + 1), .int .i64 size, .int .i64 wt] 34 (0, 0))) := heap_store HN6.out 5 _
   have HX7 : Hid ((W6.setCell ⟨b6, 5, none⟩ (.int .i64 (n + 1))).heap[w.heap.size]? = _) := (Below.heap_setCell _ ⟨b6, 5, none⟩ _ _ hn6).trans HX6.out
   have HZ7 : Hid ((W6.setCell ⟨b6, 5, none⟩ (.int .i64 (n + 1))).heap[w.heap.size + 1]? = _) := (Below.heap_setCell _ ⟨b6, 5, none⟩ _ _ hn61).trans HZ6.out
   have HY7 : Hid ((W6.setCell ⟨b6, 5, none⟩ (.int .i64 (n + 1))).heap[b4]? = _) := (Below.heap_setCell _ ⟨b6, 5, none⟩ _ _ hn64).trans HY6.out
   have HB7 : Hid (Below w.heap.size w (W6.setCell ⟨b6, 5, none⟩ (.int .i64 (n + 1)))) := HB6.out.setCell (p := ⟨b6, 5, none⟩) (by show w.heap.size ≤ b6; omega) _
   have hno6 : ¬ (((T b6 ∧ b6 < w.heap.size) ∨ (w.heap.size + 2 ≤ b6 ∧ b6 ≠ b4)) ∧ b6 < b6) := fun h => by omega
   have HR7 : Hid (RLi (W6.setCell ⟨b6, 5, none⟩ (.int .i64 (n + 1))) (.slice a3 R3.length c3) R3 (fun k => ((T k ∧ k < w.heap.size) ∨ (w.heap.size + 2 ≤ k ∧ k ≠ b4)) ∧ k < b6)) := HR6.out.store (p := ⟨b6, 5, none⟩) hno6 _
   have hsz7 : (W6.setCell ⟨b6, 5, none⟩ (.int .i64 (n + 1))).heap.size = b6 + 1 := by rw [← hsz6]; simp [World.setCell]
   clear u0 u1 u2 u3 u4 u5 u6 u7 hf5 HN6 HX6 HZ6 HY6 HB6 HR6 hno6
   generalize W6.setCell ⟨b6, 5, none⟩ (.int .i64 (n + 1)) = W7 at *
   have HDO2 : Hid (∀ w', Below W7.heap.size W7 w' → Calls Tryz.prog 64 #[.agg #[.int .i64 r1, .slice a3 R3.length c3, .int .i64 r3, .bool r4], .agg #[.int .i64 1, .string (nameI (n + 1)), .string ⟨#[]⟩, .slice none 0 0]] w' (DoP w' (fun k => ((T k ∧ k < w.heap.size) ∨ (w.heap.size + 2 ≤ k ∧ k ≠ b4)) ∧ k < b6) (doF 1 ⟨r1, R3.map RF.f, r3, r4⟩ (nameI (n + 1)) ⟨#[]⟩ []))) := fun w' hb =>
     (rdo1_any r1 r3 r4 _ R3 _ (nameI (n + 1)) ⟨#[]⟩ [] none 0 w' (HR7.out.below hb) (by have := HMID.out.1; rw [← HF.out, List.length_map] at this; exact this) HMID.out.2.2 (by omega) (Nat.zero_le _) (Reads.nil _ _) (by have := HMID.out.2.1; rw [← HF.out, ← sumR_f] at this; simpa using this)).mono (fun e w2 he => dop_of he)
   have HNM2 : Hid (∀ w', Calls Tryz.prog 96 #[.agg #[.int .i64 r1, .slice a3 R3.length c3, .int .i64 r3, .bool r4, .int .i64 most, .int .i64 (n + 1), .int .i64 size, .int .i64 wt]] w' fun e w2 => e = .returned (.string (nameI (n + 1))) ∧ Below w'.heap.size w' w2) := fun w' =>
     (rname_any (.slice a3 R3.length c3) ⟨n + 1, size, wt, most, ⟨r1, R3.map RF.f, r3, r4⟩⟩ w' ⟨_, _, _, rfl⟩)
   obtain ⟨ss, hss⟩ : ∃ ss, ss = doF 1 ⟨r1, R3.map RF.f, r3, r4⟩ (nameI (n + 1)) ⟨#[]⟩ [] := ⟨_, rfl⟩
   rw [← hss] at HDO2
   have HSS := Lib.hid hss
   generalize nameI (n + 1) = nm2 at HDO2 HNM2
   clear hss
   obtain ⟨⟨s1, s2, s3, s4⟩, s5⟩ := ss
   obtain ⟨x0, x1, x2, x3, x4, x5, x6, x7⟩ := cells8w HX7.out
   obtain ⟨u0, u1, u2, u3, u4, u5, u6, u7⟩ := cells8w HN7.out
   have HK2 : Hid (∀ w', Hid (Below W7.heap.size W7 w') → w'.cell? ⟨w.heap.size, 0, none⟩ = some (.int .i64 r1) ∧ w'.cell? ⟨w.heap.size, 1, none⟩ = some (.slice a3 R3.length c3) ∧ w'.cell? ⟨w.heap.size, 2, none⟩ = some (.int .i64 r3) ∧ w'.cell? ⟨w.heap.size, 3, none⟩ = some (.bool r4) ∧ w'.cell? ⟨w.heap.size, 4, none⟩ = some (.int .i64 most) ∧ w'.cell? ⟨w.heap.size, 5, none⟩ = some (.int .i64 n) ∧ w'.cell? ⟨w.heap.size, 6, none⟩ = some (.int .i64 size) ∧ w'.cell? ⟨w.heap.size, 7, none⟩ = some (.int .i64 wt) ∧ w'.cell? ⟨b6, 0, none⟩ = some (.int .i64 r1) ∧ w'.cell? ⟨b6, 1, none⟩ = some (.slice a3 R3.length c3) ∧ w'.cell? ⟨b6, 2, none⟩ = some (.int .i64 r3) ∧ w'.cell? ⟨b6, 3, none⟩ = some (.bool r4) ∧ w'.cell? ⟨b6, 4, none⟩ = some (.int .i64 most) ∧ w'.cell? ⟨b6, 5, none⟩ = some (.int .i64 (n + 1)) ∧ w'.cell? ⟨b6, 6, none⟩ = some (.int .i64 size) ∧ w'.cell? ⟨b6, 7, none⟩ = some (.int .i64 wt)) := fun w' hb => by
     obtain ⟨k0, k1, k2, k3, k4, k5, k6, k7⟩ := cells8w ((hb.out.block _ (lt_of_heap HX7.out)).trans HX7.out)
     obtain ⟨l0, l1, l2, l3, l4, l5, l6, l7⟩ := cells8w ((hb.out.block _ (lt_of_heap HN7.out)).trans HN7.out)
     exact ⟨k0, k1, k2, k3, k4, k5, k6, k7, l0, l1, l2, l3, l4, l5, l6, l7⟩
   have HBC : Hid (Below W7.heap.size W7 W7.drew) := (Below.refl _ _).drew
   go_region_held3 (fun w' => w'.cell? ⟨w.heap.size, 0, none⟩ = some (.int .i64 r1) ∧ w'.cell? ⟨w.heap.size, 1, none⟩ = some (.slice a3 R3.length c3) ∧ w'.cell? ⟨w.heap.size, 2, none⟩ = some (.int .i64 r3) ∧ w'.cell? ⟨w.heap.size, 3, none⟩ = some (.bool r4) ∧ w'.cell? ⟨w.heap.size, 4, none⟩ = some (.int .i64 most) ∧ w'.cell? ⟨w.heap.size, 5, none⟩ = some (.int .i64 n) ∧ w'.cell? ⟨w.heap.size, 6, none⟩ = some (.int .i64 size) ∧ w'.cell? ⟨w.heap.size, 7, none⟩ = some (.int .i64 wt) ∧ w'.cell? ⟨b6, 0, none⟩ = some (.int .i64 r1) ∧ w'.cell? ⟨b6, 1, none⟩ = some (.slice a3 R3.length c3) ∧ w'.cell? ⟨b6, 2, none⟩ = some (.int .i64 r3) ∧ w'.cell? ⟨b6, 3, none⟩ = some (.bool r4) ∧ w'.cell? ⟨b6, 4, none⟩ = some (.int .i64 most) ∧ w'.cell? ⟨b6, 5, none⟩ = some (.int .i64 (n + 1)) ∧ w'.cell? ⟨b6, 6, none⟩ = some (.int .i64 size) ∧ w'.cell? ⟨b6, 7, none⟩ = some (.int .i64 wt)) (first | exact HK2.out _ (by assumption) | exact HSX.out)
     (first
     | (go_at_call 96; refine (HNM2.out _).mono ?_; rintro e w4 ⟨rfl, hb4'⟩
        have HB4' := belh_step (w0 := W7) (by assumption) hb4'
        clear hb4')
     | (go_at_call 64; refine (HDO2.out _ (Hid.out (by assumption))).mono ?_; rintro e w5 ⟨a4, c4, R4, rfl, hf4, hr4, hb5'⟩
        have HF4 := Lib.hid hf4
        have HR4 := Lib.hid hr4
        have HB5' := belh_step (w0 := W7) (by assumption) hb5'
        have HY8 := Lib.hid ((HB5'.out.block _ (lt_of_heap HY7.out)).trans HY7.out)
        obtain ⟨y0, y1, y2, y3⟩ := cells4 HY8.out
        have p0 := freeAt HY8.out 0
        have p1 := freeAt HY8.out 1
        have p2 := freeAt HY8.out 2
        have p3 := freeAt HY8.out 3
        have HX8 := Lib.hid ((HB5'.out.block _ (lt_of_heap HX7.out)).trans HX7.out)
        have HZ8 := Lib.hid ((HB5'.out.block _ (lt_of_heap HZ7.out)).trans HZ7.out)
        have HN8 := Lib.hid ((HB5'.out.block _ (lt_of_heap HN7.out)).trans HN7.out)
        have HXB := Lib.hid (fun x0 x1 x2 x3 => (Below.heap_setCell _ ⟨b4, 3, none⟩ x3 _ (show w.heap.size ≠ b4 by omega)).trans ((Below.heap_setCell _ ⟨b4, 2, none⟩ x2 _ (show w.heap.size ≠ b4 by omega)).trans ((Below.heap_setCell _ ⟨b4, 1, none⟩ x1 _ (show w.heap.size ≠ b4 by omega)).trans ((Below.heap_setCell _ ⟨b4, 0, none⟩ x0 _ (show w.heap.size ≠ b4 by omega)).trans HX8.out))))
        have HNB := Lib.hid (fun x0 x1 x2 x3 => (Below.heap_setCell _ ⟨b4, 3, none⟩ x3 _ (show b6 ≠ b4 by omega)).trans ((Below.heap_setCell _ ⟨b4, 2, none⟩ x2 _ (show b6 ≠ b4 by omega)).trans ((Below.heap_setCell _ ⟨b4, 1, none⟩ x1 _ (show b6 ≠ b4 by omega)).trans ((Below.heap_setCell _ ⟨b4, 0, none⟩ x0 _ (show b6 ≠ b4 by omega)).trans HN8.out))))
        have HSX : Hid ((fun w' => w'.cell? ⟨w.heap.size, 0, none⟩ = some (.int .i64 r1) ∧ w'.cell? ⟨w.heap.size, 1, none⟩ = some (.slice a3 R3.length c3) ∧ w'.cell? ⟨w.heap.size, 2, none⟩ = some (.int .i64 r3) ∧ w'.cell? ⟨w.heap.size, 3, none⟩ = some (.bool r4) ∧ w'.cell? ⟨w.heap.size, 4, none⟩ = some (.int .i64 most) ∧ w'.cell? ⟨w.heap.size, 5, none⟩ = some (.int .i64 n) ∧ w'.cell? ⟨w.heap.size, 6, none⟩ = some (.int .i64 size) ∧ w'.cell? ⟨w.heap.size, 7, none⟩ = some (.int .i64 wt) ∧ w'.cell? ⟨b6, 0, none⟩ = some (.int .i64 r1) ∧ w'.cell? ⟨b6, 1, none⟩ = some (.slice a3 R3.length c3) ∧ w'.cell? ⟨b6, 2, none⟩ = some (.int .i64 r3) ∧ w'.cell? ⟨b6, 3, none⟩ = some (.bool r4) ∧ w'.cell? ⟨b6, 4, none⟩ = some (.int .i64 most) ∧ w'.cell? ⟨b6, 5, none⟩ = some (.int .i64 (n + 1)) ∧ w'.cell? ⟨b6, 6, none⟩ = some (.int .i64 size) ∧ w'.cell? ⟨b6, 7, none⟩ = some (.int .i64 wt)) ((((w5.setCell ⟨b4, 0, none⟩ (.int .i64 s1)).setCell ⟨b4, 1, none⟩ (.slice a4 R4.length c4)).setCell ⟨b4, 2, none⟩ (.int .i64 s3)).setCell ⟨b4, 3, none⟩ (.bool s4))) := by
          obtain ⟨k0, k1, k2, k3, k4, k5, k6, k7⟩ := cells8w (HXB.out (.int .i64 s1) (.slice a4 R4.length c4) (.int .i64 s3) (.bool s4))
          obtain ⟨l0, l1, l2, l3, l4, l5, l6, l7⟩ := cells8w (HNB.out (.int .i64 s1) (.slice a4 R4.length c4) (.int .i64 s3) (.bool s4))
          exact ⟨k0, k1, k2, k3, k4, k5, k6, k7, l0, l1, l2, l3, l4, l5, l6, l7⟩
        have hs4 := HB4'.out.size
        clear hf4 hr4 hb5'))
   clear x0 x1 x2 x3 x4 x5 x6 x7 u0 u1 u2 u3 u4 u5 u6 u7 y0 y1 y2 y3 HK2 HBC HDO2 HNM2 HSX
   have HX9 := Lib.hid (HXB.out (.int .i64 s1) (.slice a4 R4.length c4) (.int .i64 s3) (.bool s4))
   have HN9 := Lib.hid (HNB.out (.int .i64 s1) (.slice a4 R4.length c4) (.int .i64 s3) (.bool s4))
   have HZ9 : Hid (((((w5.setCell ⟨b4, 0, none⟩ (.int .i64 s1)).setCell ⟨b4, 1, none⟩ (.slice a4 R4.length c4)).setCell ⟨b4, 2, none⟩ (.int .i64 s3)).setCell ⟨b4, 3, none⟩ (.bool s4)).heap[w.heap.size + 1]? = _) := (Below.heap_setCell _ ⟨b4, 3, none⟩ _ _ (show w.heap.size + 1 ≠ b4 by omega)).trans ((Below.heap_setCell _ ⟨b4, 2, none⟩ _ _ (show w.heap.size + 1 ≠ b4 by omega)).trans ((Below.heap_setCell _ ⟨b4, 1, none⟩ _ _ (show w.heap.size + 1 ≠ b4 by omega)).trans ((Below.heap_setCell _ ⟨b4, 0, none⟩ _ _ (show w.heap.size + 1 ≠ b4 by omega)).trans HZ8.out)))
   have HY9 : Hid (((((w5.setCell ⟨b4, 0, none⟩ (.int .i64 s1)).setCell ⟨b4, 1, none⟩ (.slice a4 R4.length c4)).setCell ⟨b4, 2, none⟩ (.int .i64 s3)).setCell ⟨b4, 3, none⟩ (.bool s4)).heap[b4]? = some (.cells #[.int .i64 s1, .slice a4 R4.length c4, .int .i64 s3, .bool s4] 32 (0, 0))) := heap_store (heap_store (heap_store (heap_store HY8.out 0 _) 1 _) 2 _) 3 _
   have hwb : w.heap.size ≤ b4 := by omega
   have HB9 : Hid (Below w.heap.size w ((((w5.setCell ⟨b4, 0, none⟩ (.int .i64 s1)).setCell ⟨b4, 1, none⟩ (.slice a4 R4.length c4)).setCell ⟨b4, 2, none⟩ (.int .i64 s3)).setCell ⟨b4, 3, none⟩ (.bool s4))) := ((((HB7.out.trans (HB5'.out.mono HB7.out.size)).setCell (p := ⟨b4, 0, none⟩) hwb _).setCell (p := ⟨b4, 1, none⟩) hwb _).setCell (p := ⟨b4, 2, none⟩) hwb _).setCell (p := ⟨b4, 3, none⟩) hwb _
   have hnoY : ¬ ((((T b4 ∧ b4 < w.heap.size) ∨ (w.heap.size + 2 ≤ b4 ∧ b4 ≠ b4)) ∧ b4 < b6) ∨ w4.heap.size ≤ b4) := by rintro (⟨h | h, -⟩ | h) <;> omega
   have HR9 : Hid (RLi ((((w5.setCell ⟨b4, 0, none⟩ (.int .i64 s1)).setCell ⟨b4, 1, none⟩ (.slice a4 R4.length c4)).setCell ⟨b4, 2, none⟩ (.int .i64 s3)).setCell ⟨b4, 3, none⟩ (.bool s4)) (.slice a4 R4.length c4) R4 (fun k => ((T k ∧ k < w.heap.size) ∨ w.heap.size + 2 ≤ k) ∧ k ≠ b4 ∧ k ≠ b6)) := ((((HR4.out.store (p := ⟨b4, 0, none⟩) hnoY _).store (p := ⟨b4, 1, none⟩) hnoY _).store (p := ⟨b4, 2, none⟩) hnoY _).store (p := ⟨b4, 3, none⟩) hnoY _).mono (fun k hk => by
     rcases hk with ⟨h | h, h2⟩ | h
     · exact ⟨.inl h, by omega, by omega⟩
     · exact ⟨.inr h.1, h.2, by omega⟩
     · exact ⟨.inr (by omega), by omega, by omega⟩)
   have HF4' := Lib.hid (show R4.map RF.f = s2 from HF4.out)
   clear HX8 HZ8 HN8 HY8 HXB HNB HX7 HZ7 HN7 HY7 HB7 HR7 HB4' HB5' HR4 HF4 p0 p1 p2 p3 hnoY
   generalize ((((w5.setCell ⟨b4, 0, none⟩ (.int .i64 s1)).setCell ⟨b4, 1, none⟩ (.slice a4 R4.length c4)).setCell ⟨b4, 2, none⟩ (.int .i64 s3)).setCell ⟨b4, 3, none⟩ (.bool s4)) = W8 at *
   obtain ⟨x0, x1, x2, x3, x4, x5, x6, x7⟩ := cells8w HX9.out
   obtain ⟨y0, y1, y2, y3⟩ := cells4 HY9.out
   have g0 := freeAt HX9.out 0
   have g1 := freeAt HX9.out 1
   have g2 := freeAt HX9.out 2
   have g3 := freeAt HX9.out 3
   go_upto_region 11 with fail
   have HXA : Hid (((((W8.setCell ⟨w.heap.size, 0, none⟩ (.int .i64 s1)).setCell ⟨w.heap.size, 1, none⟩ (.slice a4 R4.length c4)).setCell ⟨w.heap.size, 2, none⟩ (.int .i64 s3)).setCell ⟨w.heap.size, 3, none⟩ (.bool s4)).heap[w.heap.size]? = some (.cells #[.int .i64 s1, .slice a4 R4.length c4, .int .i64 s3, .bool s4, .int .i64 most, .int .i64 n, .int .i64 size, .int .i64 wt] 34 (0, 0))) := heap_store (heap_store (heap_store (heap_store HX9.out 0 _) 1 _) 2 _) 3 _
   have HZA : Hid (((((W8.setCell ⟨w.heap.size, 0, none⟩ (.int .i64 s1)).setCell ⟨w.heap.size, 1, none⟩ (.slice a4 R4.length c4)).setCell ⟨w.heap.size, 2, none⟩ (.int .i64 s3)).setCell ⟨w.heap.size, 3, none⟩ (.bool s4)).heap[w.heap.size + 1]? = _) := (Below.heap_setCell _ ⟨w.heap.size, 3, none⟩ _ _ hn1).trans ((Below.heap_setCell _ ⟨w.heap.size, 2, none⟩ _ _ hn1).trans ((Below.heap_setCell _ ⟨w.heap.size, 1, none⟩ _ _ hn1).trans ((Below.heap_setCell _ ⟨w.heap.size, 0, none⟩ _ _ hn1).trans HZ9.out)))
   have HYA : Hid (((((W8.setCell ⟨w.heap.size, 0, none⟩ (.int .i64 s1)).setCell ⟨w.heap.size, 1, none⟩ (.slice a4 R4.length c4)).setCell ⟨w.heap.size, 2, none⟩ (.int .i64 s3)).setCell ⟨w.heap.size, 3, none⟩ (.bool s4)).heap[b4]? = _) := (Below.heap_setCell _ ⟨w.heap.size, 3, none⟩ _ _ hn4).trans ((Below.heap_setCell _ ⟨w.heap.size, 2, none⟩ _ _ hn4).trans ((Below.heap_setCell _ ⟨w.heap.size, 1, none⟩ _ _ hn4).trans ((Below.heap_setCell _ ⟨w.heap.size, 0, none⟩ _ _ hn4).trans HY9.out)))
   have hn6' : b6 ≠ w.heap.size := by omega
   have HNA : Hid (((((W8.setCell ⟨w.heap.size, 0, none⟩ (.int .i64 s1)).setCell ⟨w.heap.size, 1, none⟩ (.slice a4 R4.length c4)).setCell ⟨w.heap.size, 2, none⟩ (.int .i64 s3)).setCell ⟨w.heap.size, 3, none⟩ (.bool s4)).heap[b6]? = _) := (Below.heap_setCell _ ⟨w.heap.size, 3, none⟩ _ _ hn6').trans ((Below.heap_setCell _ ⟨w.heap.size, 2, none⟩ _ _ hn6').trans ((Below.heap_setCell _ ⟨w.heap.size, 1, none⟩ _ _ hn6').trans ((Below.heap_setCell _ ⟨w.heap.size, 0, none⟩ _ _ hn6').trans HN9.out)))
   have HBA : Hid (Below w.heap.size w ((((W8.setCell ⟨w.heap.size, 0, none⟩ (.int .i64 s1)).setCell ⟨w.heap.size, 1, none⟩ (.slice a4 R4.length c4)).setCell ⟨w.heap.size, 2, none⟩ (.int .i64 s3)).setCell ⟨w.heap.size, 3, none⟩ (.bool s4))) := (((HB9.out.setCell (p := ⟨w.heap.size, 0, none⟩) (Nat.le_refl _) _).setCell (p := ⟨w.heap.size, 1, none⟩) (Nat.le_refl _) _).setCell (p := ⟨w.heap.size, 2, none⟩) (Nat.le_refl _) _).setCell (p := ⟨w.heap.size, 3, none⟩) (Nat.le_refl _) _
   have hnoX : ¬ (((T w.heap.size ∧ w.heap.size < w.heap.size) ∨ w.heap.size + 2 ≤ w.heap.size) ∧ w.heap.size ≠ b4 ∧ w.heap.size ≠ b6) := by rintro ⟨h | h, -⟩ <;> omega
   have HRA : Hid (RLi ((((W8.setCell ⟨w.heap.size, 0, none⟩ (.int .i64 s1)).setCell ⟨w.heap.size, 1, none⟩ (.slice a4 R4.length c4)).setCell ⟨w.heap.size, 2, none⟩ (.int .i64 s3)).setCell ⟨w.heap.size, 3, none⟩ (.bool s4)) (.slice a4 R4.length c4) R4 (fun k => ((T k ∧ k < w.heap.size) ∨ w.heap.size + 2 ≤ k) ∧ k ≠ b4 ∧ k ≠ b6)) := (((HR9.out.store (p := ⟨w.heap.size, 0, none⟩) hnoX _).store (p := ⟨w.heap.size, 1, none⟩) hnoX _).store (p := ⟨w.heap.size, 2, none⟩) hnoX _).store (p := ⟨w.heap.size, 3, none⟩) hnoX _
   clear x0 x1 x2 x3 x4 x5 x6 x7 y0 y1 y2 y3 g0 g1 g2 g3 HX9 HZ9 HY9 HN9 HB9 HR9 hnoX
   generalize ((((W8.setCell ⟨w.heap.size, 0, none⟩ (.int .i64 s1)).setCell ⟨w.heap.size, 1, none⟩ (.slice a4 R4.length c4)).setCell ⟨w.heap.size, 2, none⟩ (.int .i64 s3)).setCell ⟨w.heap.size, 3, none⟩ (.bool s4)) = W9 at *
   have HNO2 : Hid (¬ (((T (w.heap.size + 1) ∧ w.heap.size + 1 < w.heap.size) ∨ w.heap.size + 2 ≤ w.heap.size + 1) ∧ w.heap.size + 1 ≠ b4 ∧ w.heap.size + 1 ≠ b6)) := by rintro ⟨h | h, -⟩ <;> omega
   have HTT2 : Hid (∀ k, (((T k ∧ k < w.heap.size) ∨ w.heap.size + 2 ≤ k) ∧ k ≠ b4 ∧ k ≠ b6) → T k ∨ w.heap.size ≤ k) := fun k hk => by rcases hk.1 with h | h; exact .inl h.1; exact .inr (by omega)
   by_cases hs5 : s5 = 0
   rotate_left
   · have hb5 : (s5 != 0) = true := by simpa using hs5
     obtain ⟨x0, x1, x2, x3, x4, x5, x6, x7⟩ := cells8w HXA.out
     obtain ⟨z0, z1, z2, z3, z4, z5, z6, z7⟩ := cells8w HZA.out
     have q0 := freeAt HZA.out 0
     have q1 := freeAt HZA.out 1
     have q2 := freeAt HZA.out 2
     have q3 := freeAt HZA.out 3
     have q4 := freeAt HZA.out 4
     have q5 := freeAt HZA.out 5
     have q6 := freeAt HZA.out 6
     have q7 := freeAt HZA.out 7
     have HFIN : Hid (rotG opsF ⟨n, size, wt, most, ⟨room, R.map RF.f, plan, down⟩⟩ = (⟨n, size, wt, most, ⟨s1, R4.map RF.f, s3, s4⟩⟩, s5)) := by
       rw [Hid, HF4'.out]; exact rot_fell2 (by have := HTOP.out; omega) HR.out (by rw [← HF.out]; exact HSS.out) hs5
     go_wp2
     try simp only [Exit.inBlock, Exit.then]
     exact rlog_end Tryz.results95 (b2 := w.heap.size + 1) (room := s1) (plan := s3) (down := s4) s5 HZA.out (by omega) HBA.out HRA.out HTT2.out HNO2.out HFIN.out rfl rfl
   subst hs5
   obtain ⟨u0, u1, u2, u3, u4, u5, u6, u7⟩ := cells8w HNA.out
   obtain ⟨y0, y1, y2, y3⟩ := cells4 HYA.out
   have g0 := freeAt HNA.out 0
   have g1 := freeAt HNA.out 1
   have g2 := freeAt HNA.out 2
   have g3 := freeAt HNA.out 3
   have g6 := freeAt HNA.out 6
   have g7 := freeAt HNA.out 7
   go_upto_region 16 with fail
   have HNC : Hid (((((((W9.setCell ⟨b6, 0, none⟩ (.int .i64 s1)).setCell ⟨b6, 1, none⟩ (.slice a4 R4.length c4)).setCell ⟨b6, 2, none⟩ (.int .i64 s3)).setCell ⟨b6, 3, none⟩ (.bool s4)).setCell ⟨b6, 6, none⟩ (.int .i64 0)).setCell ⟨b6, 7, none⟩ (.int .i64 0)).heap[b6]? = some (.cells #[.int .i64 s1, .slice a4 R4.length c4, .int .i64 s3, .bool s4, .int .i64 most, .int .i64 (n + 1), .int .i64 0, .int .i64 0] 34 (0, 0))) := heap_store (heap_store (heap_store (heap_store (heap_store (heap_store HNA.out 0 _) 1 _) 2 _) 3 _) 6 _) 7 _
   have hn61' : w.heap.size + 1 ≠ b6 := by omega
   have HZC : Hid (((((((W9.setCell ⟨b6, 0, none⟩ (.int .i64 s1)).setCell ⟨b6, 1, none⟩ (.slice a4 R4.length c4)).setCell ⟨b6, 2, none⟩ (.int .i64 s3)).setCell ⟨b6, 3, none⟩ (.bool s4)).setCell ⟨b6, 6, none⟩ (.int .i64 0)).setCell ⟨b6, 7, none⟩ (.int .i64 0)).heap[w.heap.size + 1]? = _) := (Below.heap_setCell _ ⟨b6, 7, none⟩ _ _ hn61').trans ((Below.heap_setCell _ ⟨b6, 6, none⟩ _ _ hn61').trans ((Below.heap_setCell _ ⟨b6, 3, none⟩ _ _ hn61').trans ((Below.heap_setCell _ ⟨b6, 2, none⟩ _ _ hn61').trans ((Below.heap_setCell _ ⟨b6, 1, none⟩ _ _ hn61').trans ((Below.heap_setCell _ ⟨b6, 0, none⟩ _ _ hn61').trans HZA.out)))))
   have hwb6 : w.heap.size ≤ b6 := by omega
   have HBC : Hid (Below w.heap.size w ((((((W9.setCell ⟨b6, 0, none⟩ (.int .i64 s1)).setCell ⟨b6, 1, none⟩ (.slice a4 R4.length c4)).setCell ⟨b6, 2, none⟩ (.int .i64 s3)).setCell ⟨b6, 3, none⟩ (.bool s4)).setCell ⟨b6, 6, none⟩ (.int .i64 0)).setCell ⟨b6, 7, none⟩ (.int .i64 0))) := (((((HBA.out.setCell (p := ⟨b6, 0, none⟩) hwb6 _).setCell (p := ⟨b6, 1, none⟩) hwb6 _).setCell (p := ⟨b6, 2, none⟩) hwb6 _).setCell (p := ⟨b6, 3, none⟩) hwb6 _).setCell (p := ⟨b6, 6, none⟩) hwb6 _).setCell (p := ⟨b6, 7, none⟩) hwb6 _
   have hnoN : ¬ (((T b6 ∧ b6 < w.heap.size) ∨ w.heap.size + 2 ≤ b6) ∧ b6 ≠ b4 ∧ b6 ≠ b6) := fun h => h.2.2 rfl
   have HRC : Hid (RLi ((((((W9.setCell ⟨b6, 0, none⟩ (.int .i64 s1)).setCell ⟨b6, 1, none⟩ (.slice a4 R4.length c4)).setCell ⟨b6, 2, none⟩ (.int .i64 s3)).setCell ⟨b6, 3, none⟩ (.bool s4)).setCell ⟨b6, 6, none⟩ (.int .i64 0)).setCell ⟨b6, 7, none⟩ (.int .i64 0)) (.slice a4 R4.length c4) R4 (fun k => ((T k ∧ k < w.heap.size) ∨ w.heap.size + 2 ≤ k) ∧ k ≠ b4 ∧ k ≠ b6)) := (((((HRA.out.store (p := ⟨b6, 0, none⟩) hnoN _).store (p := ⟨b6, 1, none⟩) hnoN _).store (p := ⟨b6, 2, none⟩) hnoN _).store (p := ⟨b6, 3, none⟩) hnoN _).store (p := ⟨b6, 6, none⟩) hnoN _).store (p := ⟨b6, 7, none⟩) hnoN _
   clear u0 u1 u2 u3 u4 u5 u6 u7 y0 y1 y2 y3 g0 g1 g2 g3 g6 g7 HXA HZA HYA HNA HBA HRA hnoN
   generalize ((((((W9.setCell ⟨b6, 0, none⟩ (.int .i64 s1)).setCell ⟨b6, 1, none⟩ (.slice a4 R4.length c4)).setCell ⟨b6, 2, none⟩ (.int .i64 s3)).setCell ⟨b6, 3, none⟩ (.bool s4)).setCell ⟨b6, 6, none⟩ (.int .i64 0)).setCell ⟨b6, 7, none⟩ (.int .i64 0)) = WC at *
   obtain ⟨u0, u1, u2, u3, u4, u5, u6, u7⟩ := cells8w HNC.out
   obtain ⟨z0, z1, z2, z3, z4, z5, z6, z7⟩ := cells8w HZC.out
   have q0 := freeAt HZC.out 0
   have q1 := freeAt HZC.out 1
   have q2 := freeAt HZC.out 2
   have q3 := freeAt HZC.out 3
   have q4 := freeAt HZC.out 4
   have q5 := freeAt HZC.out 5
   have q6 := freeAt HZC.out 6
   have q7 := freeAt HZC.out 7
   have HFIN : Hid (rotG opsF ⟨n, size, wt, most, ⟨room, R.map RF.f, plan, down⟩⟩ = (⟨n + 1, 0, 0, most, ⟨s1, R4.map RF.f, s3, s4⟩⟩, 0)) := by
     rw [Hid, HF4'.out]; exact rot_done (by have := HTOP.out; omega) HR.out (by rw [← HF.out]; exact HSS.out)
   go_wp2
   try simp only [Exit.inBlock, Exit.then]
   exact rlog_end Tryz.results95 (b2 := w.heap.size + 1) (room := s1) (plan := s3) (down := s4) 0 HZC.out (by omega) HBC.out HRC.out HTT2.out HNO2.out HFIN.out rfl rfl
end Go.Proofs.YtgdmdbdljmlkkaaGreatDoor
