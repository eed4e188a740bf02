/- RefPut -/
import Derived.Test.YtgdmdbdljmlkkaaGreatDoorTz22
import Derived.Test.YtgdmdbdljmlkkaaGreatDoorTz20
set_option maxRecDepth 100000
set_option linter.unusedVariables false
set_option linter.unusedSimpArgs false
namespace Go.Proofs.YtgdmdbdljmlkkaaGreatDoor
open Go.RowKit
theorem app_done {n size wt most room plan : Int} {down : Bool} {fs : List DF} {D : DS} {r : List UInt8} (h : (D, (0 : Int)) = doF 2 ⟨room, fs, plan, down⟩ (nameI n) ⟨#[]⟩ (frameB r)) : appG opsF ⟨n, size, wt, most, ⟨room, fs, plan, down⟩⟩ r = (⟨n, size + (r.length + 8), wt + 1, most, D⟩, 0) := by
 have e : opsF.app ⟨room, fs, plan, down⟩ (nameI n) (frameB r) = (D, 0) := h.symm
 unfold appG
 simp only [e, ne_eq, not_true, if_false]
theorem app_fell {n size wt most room plan c : Int} {down : Bool} {fs : List DF} {D : DS} {r : List UInt8} (h : (D, c) = doF 2 ⟨room, fs, plan, down⟩ (nameI n) ⟨#[]⟩ (frameB r)) (hc : c ≠ 0) : appG opsF ⟨n, size, wt, most, ⟨room, fs, plan, down⟩⟩ r = (⟨n, size, wt, most, D⟩, c) := by
 have e : opsF.app ⟨room, fs, plan, down⟩ (nameI n) (frameB r) = (D, c) := h.symm
 unfold appG
 simp only [e, ne_eq, hc, not_false_iff, if_true]
set_option maxHeartbeats 8000000 in
theorem rput_stay (M : LS) (v : Value) (R : List RF) (T : Nat → Prop) (ra : Option Addr) (rc : Nat) (r : List UInt8) (w : World) (h : RLi w v R T) (hf : R.map RF.f = M.D.files) (hL : R.length ≤ 5000) (hp : 0 ≤ M.D.plan ∧ M.D.plan ≤ 9223372036854775807) (hs : sumR R ≤ 100000000)
   (hr : Reads w (.slice ra r.length rc) r.length 1 (byts r)) (hl : r.length ≤ 10000000) (hsz : 0 ≤ M.size ∧ M.size ≤ 1000000000) (hwt : 0 ≤ M.waiting ∧ M.waiting ≤ 1000000000) (hstay : r = [] ∨ M.most < (r.length : Int) + 8 ∨ ¬ (0 < M.size ∧ M.most < M.size + (r.length + 8))) :
   Calls Tryz.prog 39 #[rlog v M, .slice ra r.length rc] w (MPst w T (putG opsF M r)) := by
 obtain ⟨a, c, rfl⟩ := slice_form h.row
 obtain ⟨n, size, wt, most, ⟨room, fs, plan, down⟩⟩ := M
 simp only at hf hp hsz hwt hstay
 subst hf
 have hnm := nameI_size n
 have HRL := Lib.hid (frameB_length r)
 have hmk := rmake_any ra rc r ((w.alloc (.cells #[.int .i64 room, .slice a R.length c, .int .i64 plan, .bool down, .int .i64 most, .int .i64 n, .int .i64 size, .int .i64 wt] 34)).alloc (.cells #[.int .i64 0, .slice none 0 0, .int .i64 0, .bool false, .int .i64 0, .int .i64 0, .int .i64 0, .int .i64 0] 34)) (hr.later (((Below.refl _ _).alloc (Nat.le_refl _) _).alloc (by simp) _)) (by omega)
 have HPUT : Hid (putG opsF ⟨n, size, wt, most, ⟨room, R.map RF.f, plan, down⟩⟩ r = if r = [] then (⟨n, size, wt, most, ⟨room, R.map RF.f, plan, down⟩⟩, 2) else if 1048576 < r.length ∨ most < (r.length : Int) + 8 then (⟨n, size, wt, most, ⟨room, R.map RF.f, plan, down⟩⟩, 4) else appG opsF ⟨n, size, wt, most, ⟨room, R.map RF.f, plan, down⟩⟩ r) := by
   unfold putG
   rw [Hid]
   by_cases q1 : r = []
   · rw [if_pos q1, if_pos q1]
   · by_cases q2 : 1048576 < r.length ∨ most < (r.length : Int) + 8
     · rw [if_neg q1, if_pos q2, if_neg q1, if_pos q2]
     · rw [if_neg q1, if_neg q2, if_neg q1, if_neg q2, if_neg (by rcases hstay with h | h | h; exact absurd h q1; exact absurd (.inr h) q2; exact h)]
 obtain ⟨rl, hrl⟩ : ∃ rl, rl = r.length := ⟨_, rfl⟩
 have HLR := Lib.hid hrl
 have hemp : r = [] ↔ rl = 0 := by rw [hrl, List.length_eq_zero_iff]
 have HEMP := Lib.hid hemp
 rw [← hrl] at hmk HPUT hl HRL hstay ⊢
 have HMK := Lib.hid hmk
 have HT := Lib.hid h
 have HSTY := Lib.hid hstay
 clear hr hmk hrl hemp h hstay
 go_enter Tryz.func39, Tryz.ntmps39
 go_upto_region 1 with fail
 have HB0 : Hid (Below w.heap.size w ((w.alloc (.cells #[.int .i64 room, .slice a R.length c, .int .i64 plan, .bool down, .int .i64 most, .int .i64 n, .int .i64 size, .int .i64 wt] 34)).alloc (.cells #[.int .i64 0, .slice none 0 0, .int .i64 0, .bool false, .int .i64 0, .int .i64 0, .int .i64 0, .int .i64 0] 34))) := ((Below.refl _ _).alloc (Nat.le_refl _) _).alloc (by simp) _
 have HX0 : Hid (((w.alloc (.cells #[.int .i64 room, .slice a R.length c, .int .i64 plan, .bool down, .int .i64 most, .int .i64 n, .int .i64 size, .int .i64 wt] 34)).alloc (.cells #[.int .i64 0, .slice none 0 0, .int .i64 0, .bool false, .int .i64 0, .int .i64 0, .int .i64 0, .int .i64 0] 34)).heap[w.heap.size]? = some (.cells #[.int .i64 room, .slice a R.length c, .int .i64 plan, .bool down, .int .i64 most, .int .i64 n, .int .i64 size, .int .i64 wt] 34 (0, 0))) := (alloc2_low w _ _).trans (heap_alloc_new w _)
 have HZ0 : Hid (((w.alloc (.cells #[.int .i64 room, .slice a R.length c, .int .i64 plan, .bool down, .int .i64 most, .int .i64 n, .int .i64 size, .int .i64 wt] 34)).alloc (.cells #[.int .i64 0, .slice none 0 0, .int .i64 0, .bool false, .int .i64 0, .int .i64 0, .int .i64 0, .int .i64 0] 34)).heap[w.heap.size + 1]? = some (.cells #[.int .i64 0, .slice none 0 0, .int .i64 0, .bool false, .int .i64 0, .int .i64 0, .int .i64 0, .int .i64 0] 34 (0, 0))) := alloc2_high w _ _ (heap_alloc_new _ _)
 have hsz0 : w.heap.size + 2 ≤ ((w.alloc (.cells #[.int .i64 room, .slice a R.length c, .int .i64 plan, .bool down, .int .i64 most, .int .i64 n, .int .i64 size, .int .i64 wt] 34)).alloc (.cells #[.int .i64 0, .slice none 0 0, .int .i64 0, .bool false, .int .i64 0, .int .i64 0, .int .i64 0, .int .i64 0] 34)).heap.size := by simp
 have HSZ0 := Lib.hid hsz0
 clear hsz0
 generalize (w.alloc (.cells #[.int .i64 room, .slice a R.length c, .int .i64 plan, .bool down, .int .i64 most, .int .i64 n, .int .i64 size, .int .i64 wt] 34)).alloc (.cells #[.int .i64 0, .slice none 0 0, .int .i64 0, .bool false, .int .i64 0, .int .i64 0, .int .i64 0, .int .i64 0] 34) = w0 at *
 go_wp2_with fail
 refine HMK.out.mono ?_
 rintro e wa ⟨hres, hba⟩
 have HB1 := Lib.hid (HB0.out.trans (hba.mono HB0.out.size))
 have HX1 := Lib.hid ((hba.block _ (lt_of_heap HX0.out)).trans HX0.out)
 have HZ1 := Lib.hid ((hba.block _ (lt_of_heap HZ0.out)).trans HZ0.out)
 have HSZ1 : Hid (w.heap.size + 2 ≤ wa.heap.size) := Nat.le_trans HSZ0.out hba.size
 have HTA : Hid (RLi wa (.slice a R.length c) R (fun k => T k ∧ k < w.heap.size)) := HT.out.tight.below HB1.out
 have HNO : Hid (¬ (T (w.heap.size + 1) ∧ w.heap.size + 1 < w.heap.size)) := by rintro h; omega
 clear HX0 HZ0 HB0 HMK hba
 by_cases hbig : 1048576 < rl
 · rw [if_pos hbig] at hres
   simp only at hres
   subst hres
   obtain ⟨x0, x1, x2, x3, x4, x5, x6, x7⟩ := cells8w HX1.out
   obtain ⟨z0, z1, z2, z3, z4, z5, z6, z7⟩ := cells8w HZ1.out
   have q0 := freeAt HZ1.out 0
   have q1 := freeAt HZ1.out 1
   have q2 := freeAt HZ1.out 2
   have q3 := freeAt HZ1.out 3
   have q4 := freeAt HZ1.out 4
   have q5 := freeAt HZ1.out 5
   have q6 := freeAt HZ1.out 6
   have q7 := freeAt HZ1.out 7
   have hne : ((rl : Int) == 0) = false := by simp; omega
   have hne2 : decide (rl = 0) = false := by simp; omega
   go_wp2
   try simp only [Exit.inBlock, Exit.then]
   exact rlog_end Tryz.results39 (b2 := w.heap.size + 1) (room := room) (plan := plan) (down := down) (n := n) (size := size) (wt := wt) (most := most) 4 HZ1.out (by omega) HB1.out HTA.out (fun k hk => .inl hk.1) HNO.out (by rw [HPUT.out, if_neg (fun e => by have := HEMP.out.1 e; omega), if_pos (.inl hbig)]) rfl rfl
 · rw [if_neg hbig] at hres
   simp only at hres
   obtain ⟨ab, cb, hres, hrow⟩ := hres
   subst hres
   rw [HRL.out] at hrow
   simp only [HRL.out]
   have HROW := Lib.hid hrow
   clear hrow
   obtain ⟨x0, x1, x2, x3, x4, x5, x6, x7⟩ := cells8w HX1.out
   obtain ⟨z0, z1, z2, z3, z4, z5, z6, z7⟩ := cells8w HZ1.out
   have q0 := freeAt HZ1.out 0
   have q1 := freeAt HZ1.out 1
   have q2 := freeAt HZ1.out 2
   have q3 := freeAt HZ1.out 3
   have q4 := freeAt HZ1.out 4
   have q5 := freeAt HZ1.out 5
   have q6 := freeAt HZ1.out 6
   have q7 := freeAt HZ1.out 7
   by_cases hz0 : rl = 0
   · have HE0 := Lib.hid (HEMP.out.2 hz0)
     subst hz0
     clear HEMP
     go_wp2
     try simp only [Exit.inBlock, Exit.then]
     exact rlog_end Tryz.results39 (b2 := w.heap.size + 1) (room := room) (plan := plan) (down := down) (n := n) (size := size) (wt := wt) (most := most) 2 HZ1.out (by omega) HB1.out HTA.out (fun k hk => .inl hk.1) HNO.out (by rw [HPUT.out, if_pos HE0.out]) rfl rfl
   have hne : ((rl : Int) == 0) = false := by simp; omega
   have hne2 : decide (rl = 0) = false := by simp; omega
   by_cases hlong : most < (rl : Int) + 8
   · go_wp2
     try simp only [Exit.inBlock, Exit.then]
     exact rlog_end Tryz.results39 (b2 := w.heap.size + 1) (room := room) (plan := plan) (down := down) (n := n) (size := size) (wt := wt) (most := most) 4 HZ1.out (by omega) HB1.out HTA.out (fun k hk => .inl hk.1) HNO.out (by rw [HPUT.out, if_neg (fun e => hz0 (HEMP.out.1 e)), if_pos (.inr hlong)]) rfl rfl
   have HP2 : Hid (putG opsF ⟨n, size, wt, most, ⟨room, R.map RF.f, plan, down⟩⟩ r = appG opsF ⟨n, size, wt, most, ⟨room, R.map RF.f, plan, down⟩⟩ r) := by
     rw [Hid, HPUT.out, if_neg (fun e => hz0 (HEMP.out.1 e)), if_neg (by omega)]
   clear q0 q1 q2 q3 q4 q5 q6 q7 z0 z1 z2 z3 z4 z5 z6 z7 HNO
   have HDO : Hid (∀ w', Hid (Below wa.heap.size wa w') → Calls Tryz.prog 64 #[.agg #[.int .i64 room, .slice a R.length c, .int .i64 plan, .bool down], .agg #[.int .i64 2, .string (nameI n), .string ⟨#[]⟩, .slice ab (rl + 8) cb]] w' (DoP w' (fun k => T k ∧ k < w.heap.size) (doF 2 ⟨room, R.map RF.f, plan, down⟩ (nameI n) ⟨#[]⟩ (frameB r)))) := fun w' hb => by
     have hrd := HROW.out.reads.later hb.out
     have := rdo2_any room plan down _ R (fun k => T k ∧ k < w.heap.size) (nameI n) ⟨#[]⟩ (frameB r) ab cb w' (HTA.out.below hb.out) hL hp (by omega) (Nat.zero_le _) (by rw [HRL.out]; exact hrd) (by rw [HRL.out]; omega)
     rw [HRL.out] at this
     exact this.mono (fun e w2 he => dop_of he)
   have HNM : Hid (∀ w', Calls Tryz.prog 96 #[.agg #[.int .i64 room, .slice a R.length c, .int .i64 plan, .bool down, .int .i64 most, .int .i64 n, .int .i64 size, .int .i64 wt]] w' fun e w2 => e = .returned (.string (nameI n)) ∧ Below w'.heap.size w' w2) := fun w' =>
     rname_any (.slice a R.length c) ⟨n, size, wt, most, ⟨room, R.map RF.f, plan, down⟩⟩ w' ⟨_, _, _, rfl⟩
   obtain ⟨rr, hrr⟩ : ∃ rr, rr = doF 2 ⟨room, R.map RF.f, plan, down⟩ (nameI n) ⟨#[]⟩ (frameB r) := ⟨_, rfl⟩
   rw [← hrr] at HDO
   have HR := Lib.hid hrr
   generalize nameI n = nm at HDO HNM
   clear hrr hnm HROW
   obtain ⟨⟨r1, r2, r3, r4⟩, r5⟩ := rr
   have hstay : ¬ (0 < size ∧ most < size + ((rl : Int) + 8)) := by
     rcases HSTY.out with h | h | h
     · exact absurd (HEMP.out.1 h) hz0
     · exact absurd h hlong
     · exact h
   have hgo : (decide (0 < size) = false) ∨ (decide (0 < size) = true ∧ size + ((rl : Int) + 8) ≤ most) := by
     by_cases h1 : 0 < size
     · exact .inr ⟨decide_eq_true h1, by omega⟩
     · exact .inl (decide_eq_false h1)
   clear hstay HSTY
   have HK : Hid (∀ w', Hid (Below wa.heap.size wa w') → w'.cell? ⟨w.heap.size, 0, none⟩ = some (.int .i64 room) ∧ w'.cell? ⟨w.heap.size, 1, none⟩ = some (.slice a R.length c) ∧ w'.cell? ⟨w.heap.size, 2, none⟩ = some (.int .i64 plan) ∧ w'.cell? ⟨w.heap.size, 3, none⟩ = some (.bool down) ∧ w'.cell? ⟨w.heap.size, 4, none⟩ = some (.int .i64 most) ∧ w'.cell? ⟨w.heap.size, 5, none⟩ = some (.int .i64 n) ∧ w'.cell? ⟨w.heap.size, 6, none⟩ = some (.int .i64 size) ∧ w'.cell? ⟨w.heap.size, 7, none⟩ = some (.int .i64 wt)) := fun w' hb => cells8w ((hb.out.block _ (lt_of_heap HX1.out)).trans HX1.out)
   have HBA : Hid (Below wa.heap.size wa wa.drew) := (Below.refl _ _).drew
   have HBB : Hid (Below wa.heap.size wa (wa.drew.alloc (.cells #[.int .i64 0, .slice none 0 0, .int .i64 0, .bool false] 32))) := HBA.out.alloc (Nat.le_refl _) _
   rcases hgo with hgo | ⟨hgo, hfit⟩
   all_goals
     go_upto_region 11 with fail
     go_region_held3 (fun w' => w'.cell? ⟨w.heap.size, 0, none⟩ = some (.int .i64 room) ∧ w'.cell? ⟨w.heap.size, 1, none⟩ = some (.slice a R.length c) ∧ w'.cell? ⟨w.heap.size, 2, none⟩ = some (.int .i64 plan) ∧ w'.cell? ⟨w.heap.size, 3, none⟩ = some (.bool down) ∧ w'.cell? ⟨w.heap.size, 4, none⟩ = some (.int .i64 most) ∧ w'.cell? ⟨w.heap.size, 5, none⟩ = some (.int .i64 n) ∧ w'.cell? ⟨w.heap.size, 6, none⟩ = some (.int .i64 size) ∧ w'.cell? ⟨w.heap.size, 7, none⟩ = some (.int .i64 wt)) (first | exact HK.out _ (by assumption) | exact HK.out _ (Lib.hid (by repeat (first | exact Hid.out (by assumption) | (refine Below.setCell ?_ (by first | exact Nat.le_refl _ | (dsimp only; assumption) | (dsimp only; omega)) _)))))
       (first
       | (go_at_call 96; refine (HNM.out _).mono ?_; rintro e w2 ⟨rfl, hb2⟩
          have HB2 := belh_step (w0 := wa) (by assumption) hb2
          have HB2a := Lib.hid (HB2.out.alloc HB2.out.size (.cells #[.int .i64 0, .slice none 0 0, .int .i64 0, .bool false] 32))
          have hs2 := HB2.out.size
          try have Z2 : Hid (w2.heap[wa.heap.size]? = some (.cells #[.int .i64 0, .slice none 0 0, .int .i64 0, .bool false] 32 (0, 0))) := (hb2.block wa.heap.size (by simp)).trans (heap_alloc_new wa.drew _)
          clear hb2)
       | (go_at_call 64; refine (HDO.out _ (by assumption)).mono ?_; rintro e w3 ⟨a3, c3, R3, rfl, hf3, hr3, hb3⟩
          have HF3 := Lib.hid hf3
          have HR3 := Lib.hid hr3
          have HB3 := belh_step (w0 := wa) (by assumption) hb3
          have HB3a := Lib.hid (HB3.out.alloc HB3.out.size (.cells #[.int .i64 0, .slice none 0 0, .int .i64 0, .bool false] 32))
          have HB3b := Lib.hid (HB3.out.alloc HB3.out.size (.cells #[.int .i64 r1, .slice a3 R3.length c3, .int .i64 r3, .bool r4] 32))
          first
          | (have Z3 := Lib.hid ((hb3.block _ (lt_of_heap Z2.out)).trans Z2.out)
             obtain ⟨z0, z1, z2, z3⟩ := cells4 Z3.out
             have f0 := freeAt Z3.out 0
             have f1 := freeAt Z3.out 1
             have f2 := freeAt Z3.out 2
             have f3 := freeAt Z3.out 3)
          | (have Z3 : Hid (w3.heap[w2.heap.size]? = some (.cells #[.int .i64 0, .slice none 0 0, .int .i64 0, .bool false] 32 (0, 0))) := (hb3.block w2.heap.size (by simp)).trans (heap_alloc_new w2 _)
             obtain ⟨z0, z1, z2, z3⟩ := cells4 Z3.out
             have f0 := freeAt Z3.out 0
             have f1 := freeAt Z3.out 1
             have f2 := freeAt Z3.out 2
             have f3 := freeAt Z3.out 3)
          | skip
          clear hf3 hr3 hb3))
     all_goals clear HK HBA HBB HNM HDO x0 x1 x2 x3 x4 x5 x6 x7
     all_goals first
     | (have HM := Lib.hid (mid_set (T := T) (r1 := r1) (r3 := r3) (r4 := r4) (n0 := w.heap.size) (b4 := wa.heap.size) Z3.out HB3.out HR3.out (by have := HSZ1.out; have := hs2; have := lt_of_heap Z2.out; omega) (Nat.le_refl _))
        generalize ((((w3.setCell ⟨wa.heap.size, 0, none⟩ (.int .i64 r1)).setCell ⟨wa.heap.size, 1, none⟩ (.slice a3 R3.length c3)).setCell ⟨wa.heap.size, 2, none⟩ (.int .i64 r3)).setCell ⟨wa.heap.size, 3, none⟩ (.bool r4)) = W4 at HM ⊢
        generalize hb4 : wa.heap.size = b4 at HM ⊢
        clear hb4)
     | (have HM := Lib.hid (mid_set (T := T) (r1 := r1) (r3 := r3) (r4 := r4) (n0 := w.heap.size) (b4 := w2.heap.size) Z3.out HB3.out HR3.out (by have := HSZ1.out; have := hs2; simp <;> omega) hs2)
        generalize ((((w3.setCell ⟨w2.heap.size, 0, none⟩ (.int .i64 r1)).setCell ⟨w2.heap.size, 1, none⟩ (.slice a3 R3.length c3)).setCell ⟨w2.heap.size, 2, none⟩ (.int .i64 r3)).setCell ⟨w2.heap.size, 3, none⟩ (.bool r4)) = W4 at HM ⊢
        generalize w2.heap.size = b4 at HM ⊢)
     | (have HM := Lib.hid (mid_late (T := T) (r1 := r1) (r3 := r3) (r4 := r4) (n0 := w.heap.size) HB3.out HR3.out (by have := HSZ1.out; have := hs2; simp <;> omega) (by have := HSZ1.out; omega))
        generalize w3.alloc (.cells #[.int .i64 r1, .slice a3 R3.length c3, .int .i64 r3, .bool r4] 32) = W4 at HM ⊢
        generalize w3.heap.size = b4 at HM ⊢)
     all_goals
       have HX4 := Lib.hid ((HM.out.bel.block _ (lt_of_heap HX1.out)).trans HX1.out)
       have HZ4 := Lib.hid ((HM.out.bel.block _ (lt_of_heap HZ1.out)).trans HZ1.out)
       have HB4 := Lib.hid (HB1.out.trans (HM.out.bel.mono HB1.out.size))
       have hb4 : w.heap.size + 2 ≤ b4 := by have := HM.out.beh; have := HSZ1.out; omega
       obtain ⟨y0, y1, y2, y3⟩ := cells4 HM.out.blk
       obtain ⟨x0, x1, x2, x3, x4, x5, x6, x7⟩ := cells8w HX4.out
       have g0 := freeAt HX4.out 0
       have g1 := freeAt HX4.out 1
       have g2 := freeAt HX4.out 2
       have g3 := freeAt HX4.out 3
       go_upto_region 13 with fail
       have HX5 : Hid (((((W4.setCell ⟨w.heap.size, 0, none⟩ (.int .i64 r1)).setCell ⟨w.heap.size, 1, none⟩ (.slice a3 R3.length c3)).setCell ⟨w.heap.size, 2, none⟩ (.int .i64 r3)).setCell ⟨w.heap.size, 3, none⟩ (.bool r4)).heap[w.heap.size]? = some (.cells #[.int .i64 r1, .slice a3 R3.length c3, .int .i64 r3, .bool r4, .int .i64 most, .int .i64 n, .int .i64 size, .int .i64 wt] 34 (0, 0))) := heap_store (heap_store (heap_store (heap_store HX4.out 0 _) 1 _) 2 _) 3 _
       have hn1 : w.heap.size + 1 ≠ w.heap.size := by omega
       have HZ5 : Hid (((((W4.setCell ⟨w.heap.size, 0, none⟩ (.int .i64 r1)).setCell ⟨w.heap.size, 1, none⟩ (.slice a3 R3.length c3)).setCell ⟨w.heap.size, 2, none⟩ (.int .i64 r3)).setCell ⟨w.heap.size, 3, none⟩ (.bool r4)).heap[w.heap.size + 1]? = _) := (Below.heap_setCell _ ⟨w.heap.size, 3, none⟩ _ _ hn1).trans ((Below.heap_setCell _ ⟨w.heap.size, 2, none⟩ _ _ hn1).trans ((Below.heap_setCell _ ⟨w.heap.size, 1, none⟩ _ _ hn1).trans ((Below.heap_setCell _ ⟨w.heap.size, 0, none⟩ _ _ hn1).trans HZ4.out)))
       have HB5 : Hid (Below w.heap.size w ((((W4.setCell ⟨w.heap.size, 0, none⟩ (.int .i64 r1)).setCell ⟨w.heap.size, 1, none⟩ (.slice a3 R3.length c3)).setCell ⟨w.heap.size, 2, none⟩ (.int .i64 r3)).setCell ⟨w.heap.size, 3, none⟩ (.bool r4))) := (((HB4.out.setCell (p := ⟨w.heap.size, 0, none⟩) (Nat.le_refl _) _).setCell (p := ⟨w.heap.size, 1, none⟩) (Nat.le_refl _) _).setCell (p := ⟨w.heap.size, 2, none⟩) (Nat.le_refl _) _).setCell (p := ⟨w.heap.size, 3, none⟩) (Nat.le_refl _) _
       have hno : ¬ ((T w.heap.size ∧ w.heap.size < w.heap.size) ∨ (w.heap.size + 2 ≤ w.heap.size ∧ w.heap.size ≠ b4)) := by rintro (h | h) <;> omega
       have HR5 : Hid (RLi ((((W4.setCell ⟨w.heap.size, 0, none⟩ (.int .i64 r1)).setCell ⟨w.heap.size, 1, none⟩ (.slice a3 R3.length c3)).setCell ⟨w.heap.size, 2, none⟩ (.int .i64 r3)).setCell ⟨w.heap.size, 3, none⟩ (.bool r4)) (.slice a3 R3.length c3) R3 (fun k => (T k ∧ k < w.heap.size) ∨ (w.heap.size + 2 ≤ k ∧ k ≠ b4))) := (((HM.out.lst.store (p := ⟨w.heap.size, 0, none⟩) hno _).store (p := ⟨w.heap.size, 1, none⟩) hno _).store (p := ⟨w.heap.size, 2, none⟩) hno _).store (p := ⟨w.heap.size, 3, none⟩) hno _
       clear x0 x1 x2 x3 x4 x5 x6 x7 y0 y1 y2 y3 g0 g1 g2 g3 HX4 HZ4 HB4 HM
       generalize ((((W4.setCell ⟨w.heap.size, 0, none⟩ (.int .i64 r1)).setCell ⟨w.heap.size, 1, none⟩ (.slice a3 R3.length c3)).setCell ⟨w.heap.size, 2, none⟩ (.int .i64 r3)).setCell ⟨w.heap.size, 3, none⟩ (.bool r4)) = W5 at *
       have hno2 : ¬ ((T (w.heap.size + 1) ∧ w.heap.size + 1 < w.heap.size) ∨ (w.heap.size + 2 ≤ w.heap.size + 1 ∧ w.heap.size + 1 ≠ b4)) := by rintro (h | h) <;> omega
       have hTT : ∀ k, ((T k ∧ k < w.heap.size) ∨ (w.heap.size + 2 ≤ k ∧ k ≠ b4)) → T k ∨ w.heap.size ≤ k := fun k hk => by rcases hk with h | h; exact .inl h.1; exact .inr (by omega)
       have HNO := Lib.hid hno2
       have HTT := Lib.hid hTT
       clear hno2 hTT
       have HF := Lib.hid (show R3.map RF.f = r2 from HF3.out)
       obtain ⟨x0, x1, x2, x3, x4, x5, x6, x7⟩ := cells8w HX5.out
       by_cases hr5 : r5 = 0
       · subst hr5
         have g6 := freeAt HX5.out 6
         have g7 := freeAt HX5.out 7
         go_upto_region 16 with fail
         have HX6 : Hid (((W5.setCell ⟨w.heap.size, 6, none⟩ (.int .i64 (size + (rl + 8)))).setCell ⟨w.heap.size, 7, none⟩ (.int .i64 (wt + 1))).heap[w.heap.size]? = some (.cells #[.int .i64 r1, .slice a3 R3.length c3, .int .i64 r3, .bool r4, .int .i64 most, .int .i64 n, .int .i64 (size + (rl + 8)), .int .i64 (wt + 1)] 34 (0, 0))) := heap_store (heap_store HX5.out 6 _) 7 _
         have HZ6 : Hid (((W5.setCell ⟨w.heap.size, 6, none⟩ (.int .i64 (size + (rl + 8)))).setCell ⟨w.heap.size, 7, none⟩ (.int .i64 (wt + 1))).heap[w.heap.size + 1]? = _) := (Below.heap_setCell _ ⟨w.heap.size, 7, none⟩ _ _ hn1).trans ((Below.heap_setCell _ ⟨w.heap.size, 6, none⟩ _ _ hn1).trans HZ5.out)
         have HB6 : Hid (Below w.heap.size w ((W5.setCell ⟨w.heap.size, 6, none⟩ (.int .i64 (size + (rl + 8)))).setCell ⟨w.heap.size, 7, none⟩ (.int .i64 (wt + 1)))) := (HB5.out.setCell (p := ⟨w.heap.size, 6, none⟩) (Nat.le_refl _) _).setCell (p := ⟨w.heap.size, 7, none⟩) (Nat.le_refl _) _
         have HR6 : Hid (RLi ((W5.setCell ⟨w.heap.size, 6, none⟩ (.int .i64 (size + (rl + 8)))).setCell ⟨w.heap.size, 7, none⟩ (.int .i64 (wt + 1))) (.slice a3 R3.length c3) R3 (fun k => (T k ∧ k < w.heap.size) ∨ (w.heap.size + 2 ≤ k ∧ k ≠ b4))) := (HR5.out.store (p := ⟨w.heap.size, 6, none⟩) hno _).store (p := ⟨w.heap.size, 7, none⟩) hno _
         clear x0 x1 x2 x3 x4 x5 x6 x7 g6 g7 HX5 HZ5 HB5 HR5
         generalize (W5.setCell ⟨w.heap.size, 6, none⟩ (.int .i64 (size + (rl + 8)))).setCell ⟨w.heap.size, 7, none⟩ (.int .i64 (wt + 1)) = W6 at *
         obtain ⟨x0, x1, x2, x3, x4, x5, x6, x7⟩ := cells8w HX6.out
         obtain ⟨z0, z1, z2, z3, z4, z5, z6, z7⟩ := cells8w HZ6.out
         have q0 := freeAt HZ6.out 0
         have q1 := freeAt HZ6.out 1
         have q2 := freeAt HZ6.out 2
         have q3 := freeAt HZ6.out 3
         have q4 := freeAt HZ6.out 4
         have q5 := freeAt HZ6.out 5
         have q6 := freeAt HZ6.out 6
         have q7 := freeAt HZ6.out 7
         have HFIN : Hid (putG opsF ⟨n, size, wt, most, ⟨room, R.map RF.f, plan, down⟩⟩ r = (⟨n, size + (rl + 8), wt + 1, most, ⟨r1, R3.map RF.f, r3, r4⟩⟩, 0)) := by
           rw [Hid, HP2.out, HF.out, HLR.out]; exact app_done HR.out
         go_wp2
         try simp only [Exit.inBlock, Exit.then]
         exact rlog_end Tryz.results39 (b2 := w.heap.size + 1) (room := r1) (plan := r3) (down := r4) 0 HZ6.out (by omega) HB6.out HR6.out HTT.out HNO.out HFIN.out rfl rfl
       · have hb5 : (r5 == 0) = false := by simpa using hr5
         obtain ⟨z0, z1, z2, z3, z4, z5, z6, z7⟩ := cells8w HZ5.out
         have q0 := freeAt HZ5.out 0
         have q1 := freeAt HZ5.out 1
         have q2 := freeAt HZ5.out 2
         have q3 := freeAt HZ5.out 3
         have q4 := freeAt HZ5.out 4
         have q5 := freeAt HZ5.out 5
         have q6 := freeAt HZ5.out 6
         have q7 := freeAt HZ5.out 7
         have HFIN : Hid (putG opsF ⟨n, size, wt, most, ⟨room, R.map RF.f, plan, down⟩⟩ r = (⟨n, size, wt, most, ⟨r1, R3.map RF.f, r3, r4⟩⟩, r5)) := by
           rw [Hid, HP2.out, HF.out]; exact app_fell HR.out hr5
         go_wp2
         try simp only [Exit.inBlock, Exit.then]
         exact rlog_end Tryz.results39 (b2 := w.heap.size + 1) (room := r1) (plan := r3) (down := r4) r5 HZ5.out (by omega) HB5.out HR5.out HTT.out HNO.out HFIN.out rfl rfl
end Go.Proofs.YtgdmdbdljmlkkaaGreatDoor
