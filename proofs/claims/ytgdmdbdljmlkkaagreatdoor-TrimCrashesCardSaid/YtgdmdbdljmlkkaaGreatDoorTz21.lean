/- Rd5 -/
import Derived.Test.YtgdmdbdljmlkkaaGreatDoorTz12
set_option maxRecDepth 100000
set_option linter.unusedVariables false
set_option linter.unusedSimpArgs false
namespace Go.Proofs.YtgdmdbdljmlkkaaGreatDoor
open Go.RowKit
set_option maxHeartbeats 4000000 in
theorem rdo1_any (room plan : Int) (down : Bool) (v : Value) (R : List RF) (T : Nat → Prop) (name tgt : ByteArray) (b : List UInt8) (ba : Option Addr) (bc : Nat) (w : World) (h : RLi w v R T) (hL : R.length ≤ 5000) (hp : 0 ≤ plan ∧ plan ≤ 9223372036854775807)
   (hn : name.size ≤ 100000) (hto : tgt.size ≤ 100000) (hb : Reads w (.slice ba b.length bc) b.length 1 (byts b)) (hs : sumR R + b.length ≤ 1000000000) :
   Calls Tryz.prog 64 #[rdisk room v plan down, .agg #[.int .i64 1, .string name, .string tgt, .slice ba b.length bc]] w (RPost w T (doF 1 ⟨room, R.map RF.f, plan, down⟩ name tgt b)) := by
 obtain ⟨la, lc, rfl⟩ := slice_form h.row
 have HRB := Lib.hid hb
 have h3 := heap3 w (.cells #[.int .i64 room, .slice la R.length lc, .int .i64 plan, .bool down] 32) (.cells #[.int .i64 1, .string name, .string tgt, .slice ba b.length bc] 112) (.cells #[.int .i64 0, .slice none 0 0, .int .i64 0, .bool false] 32)
 have hb3 := below3 w (.cells #[.int .i64 room, .slice la R.length lc, .int .i64 plan, .bool down] 32) (.cells #[.int .i64 1, .string name, .string tgt, .slice ba b.length bc] 112) (.cells #[.int .i64 0, .slice none 0 0, .int .i64 0, .bool false] 32)
 have HD1 : Hid ((((w.alloc (.cells #[.int .i64 room, .slice la R.length lc, .int .i64 plan, .bool down] 32)).alloc (.cells #[.int .i64 1, .string name, .string tgt, .slice ba b.length bc] 112)).alloc (.cells #[.int .i64 0, .slice none 0 0, .int .i64 0, .bool false] 32)).heap[w.heap.size]? = some (.cells #[.int .i64 room, .slice la R.length lc, .int .i64 plan, .bool down] 32 (0, 0))) := h3.1.trans (heap_alloc_new _ _)
 have HO1 : Hid ((((w.alloc (.cells #[.int .i64 room, .slice la R.length lc, .int .i64 plan, .bool down] 32)).alloc (.cells #[.int .i64 1, .string name, .string tgt, .slice ba b.length bc] 112)).alloc (.cells #[.int .i64 0, .slice none 0 0, .int .i64 0, .bool false] 32)).heap[w.heap.size + 1]? = some (.cells #[.int .i64 1, .string name, .string tgt, .slice ba b.length bc] 112 (0, 0))) := h3.2.1.trans (heap_alloc_new _ _)
 have HZ1 : Hid ((((w.alloc (.cells #[.int .i64 room, .slice la R.length lc, .int .i64 plan, .bool down] 32)).alloc (.cells #[.int .i64 1, .string name, .string tgt, .slice ba b.length bc] 112)).alloc (.cells #[.int .i64 0, .slice none 0 0, .int .i64 0, .bool false] 32)).heap[w.heap.size + 1 + 1]? = some (.cells #[.int .i64 0, .slice none 0 0, .int .i64 0, .bool false] 32 (0, 0))) := h3.2.2.trans (heap_alloc_new _ _)
 have HB1 := Lib.hid hb3.1
 have HSZ := Lib.hid hb3.2
 have HR1 := Lib.hid ((h.tight.below hb3.1).mono (T' := inDo w T) (fun k hk => .inl hk))
 obtain ⟨DD, hDD⟩ : ∃ DD, DD = doF 1 ⟨room, R.map RF.f, plan, down⟩ name tgt b := ⟨_, rfl⟩
 rw [← hDD]
 have HDD := Lib.hid hDD
 have hnod : ¬ inDo w T w.heap.size := by rintro (h | h) <;> omega
 clear h hb h3 hb3 hDD
 go_enter Tryz.func64, Tryz.ntmps64
 go_upto_region 1 with fail
 generalize (((w.alloc (.cells #[.int .i64 room, .slice la R.length lc, .int .i64 plan, .bool down] 32)).alloc (.cells #[.int .i64 1, .string name, .string tgt, .slice ba b.length bc] 112)).alloc (.cells #[.int .i64 0, .slice none 0 0, .int .i64 0, .bool false] 32)) = wd at *
 obtain ⟨hx0, hx1, hx2, hx3⟩ := cells4 HD1.out
 cases down with
 | true =>
   obtain ⟨hq0, hq1, hq2, hq3⟩ := cells4 HZ1.out
   have hz0 := freeAt HZ1.out 0
   have hz1 := freeAt HZ1.out 1
   have hz2 := freeAt HZ1.out 2
   have hz3 := freeAt HZ1.out 3
   go_wp2
   try simp only [Exit.inBlock, Exit.then]
   exact rdo_end 10 HZ1.out HB1.out HR1.out (by rw [HDD.out]; simp [doF]) rfl rfl
 | false =>
   have hd2 := freeAt HD1.out 2
   have hd3 := freeAt HD1.out 3
   by_cases hp1 : plan = 1
   · subst hp1
     go_upto_region 6 with fail
     have HD2 : Hid (((wd.setCell ⟨w.heap.size, 2, none⟩ (.int .i64 0)).setCell ⟨w.heap.size, 3, none⟩ (.bool true)).heap[w.heap.size]? = some (.cells #[.int .i64 room, .slice la R.length lc, .int .i64 0, .bool true] 32 (0, 0))) := (heap_store (heap_store HD1.out 2 (.int .i64 0)) 3 (.bool true))
     have HO2 : Hid (((wd.setCell ⟨w.heap.size, 2, none⟩ (.int .i64 0)).setCell ⟨w.heap.size, 3, none⟩ (.bool true)).heap[w.heap.size + 1]? = _) := ((Below.heap_setCell _ ⟨w.heap.size, 3, none⟩ _ _ (by show w.heap.size + 1 ≠ w.heap.size; omega)).trans ((Below.heap_setCell _ ⟨w.heap.size, 2, none⟩ _ _ (by show w.heap.size + 1 ≠ w.heap.size; omega)).trans HO1.out))
     have HZ2 : Hid (((wd.setCell ⟨w.heap.size, 2, none⟩ (.int .i64 0)).setCell ⟨w.heap.size, 3, none⟩ (.bool true)).heap[w.heap.size + 1 + 1]? = _) := ((Below.heap_setCell _ ⟨w.heap.size, 3, none⟩ _ _ (by show w.heap.size + 1 + 1 ≠ w.heap.size; omega)).trans ((Below.heap_setCell _ ⟨w.heap.size, 2, none⟩ _ _ (by show w.heap.size + 1 + 1 ≠ w.heap.size; omega)).trans HZ1.out))
     have HB2 : Hid (Below w.heap.size w ((wd.setCell ⟨w.heap.size, 2, none⟩ (.int .i64 0)).setCell ⟨w.heap.size, 3, none⟩ (.bool true))) := ((HB1.out.setCell (p := ⟨w.heap.size, 2, none⟩) (Nat.le_refl _) _).setCell (p := ⟨w.heap.size, 3, none⟩) (Nat.le_refl _) _)
     have HR2 : Hid (RLi ((wd.setCell ⟨w.heap.size, 2, none⟩ (.int .i64 0)).setCell ⟨w.heap.size, 3, none⟩ (.bool true)) (.slice la R.length lc) R (inDo w T)) := ((HR1.out.store (p := ⟨w.heap.size, 2, none⟩) hnod _).store (p := ⟨w.heap.size, 3, none⟩) hnod _)
     clear HD1 HO1 HZ1 HR1
     generalize ((wd.setCell ⟨w.heap.size, 2, none⟩ (.int .i64 0)).setCell ⟨w.heap.size, 3, none⟩ (.bool true)) = wp at *
     clear hx0 hx1 hx2 hx3 hd2 hd3
     obtain ⟨hx0, hx1, hx2, hx3⟩ := cells4 HD2.out
     obtain ⟨hq0, hq1, hq2, hq3⟩ := cells4 HZ2.out
     have hz0 := freeAt HZ2.out 0
     have hz1 := freeAt HZ2.out 1
     have hz2 := freeAt HZ2.out 2
     have hz3 := freeAt HZ2.out 3
     go_wp2
     try simp only [Exit.inBlock, Exit.then]
     exact rdo_end 10 HZ2.out HB2.out HR2.out (by rw [HDD.out]; simp [doF]) rfl rfl
   · have hpb : (plan == 1) = false := by simp [hp1]
     have hwr : IntKind.i64.wrap (plan - 1) = plan - 1 := IntWalk.i64_in _ (by omega)
     have HSTEP : Hid (DD = if namedB name = false ∨ (1 = 4 ∧ namedB tgt = false) ∨ (1 ≠ 1 ∧ findD (R.map RF.f) name = none) then (stepF ⟨room, R.map RF.f, plan, false⟩, (6 : Int))
         else if 1 = 1 then (if (findD (R.map RF.f) name).isSome then (stepF ⟨room, R.map RF.f, plan, false⟩, 7) else ({ stepF ⟨room, R.map RF.f, plan, false⟩ with files := putF (R.map RF.f) ⟨name, [], 0⟩ }, 0))
         else match findD (R.map RF.f) name with
         | none => (stepF ⟨room, R.map RF.f, plan, false⟩, 6)
         | some f =>
           if 1 = 2 then (if room < sumD (R.map RF.f) + b.length then (stepF ⟨room, R.map RF.f, plan, false⟩, 5) else ({ stepF ⟨room, R.map RF.f, plan, false⟩ with files := putF (R.map RF.f) ⟨f.name, f.b ++ b, f.d⟩ }, 0))
           else if 1 = 3 then ({ stepF ⟨room, R.map RF.f, plan, false⟩ with files := putF (R.map RF.f) ⟨f.name, f.b, f.b.length⟩ }, 0)
           else if 1 = 4 then ({ stepF ⟨room, R.map RF.f, plan, false⟩ with files := putF (outF (R.map RF.f) name) ⟨tgt, f.b, f.d⟩ }, 0)
           else ({ stepF ⟨room, R.map RF.f, plan, false⟩ with files := outF (R.map RF.f) name }, 0)) := by
       rw [Hid, HDD.out, doF, if_neg (by simp), if_neg hp1]; rfl
     go_upto_region 8 with fail
     have HD2 : Hid ((wd.setCell ⟨w.heap.size, 2, none⟩ (.int .i64 (max (plan - 1) 0))).heap[w.heap.size]? = some (.cells #[.int .i64 room, .slice la R.length lc, .int .i64 (max (plan - 1) 0), .bool false] 32 (0, 0))) := (heap_store HD1.out 2 (.int .i64 (max (plan - 1) 0)))
     have HO2 : Hid ((wd.setCell ⟨w.heap.size, 2, none⟩ (.int .i64 (max (plan - 1) 0))).heap[w.heap.size + 1]? = _) := ((Below.heap_setCell _ ⟨w.heap.size, 2, none⟩ _ _ (by show w.heap.size + 1 ≠ w.heap.size; omega)).trans HO1.out)
     have HZ2 : Hid ((wd.setCell ⟨w.heap.size, 2, none⟩ (.int .i64 (max (plan - 1) 0))).heap[w.heap.size + 1 + 1]? = _) := ((Below.heap_setCell _ ⟨w.heap.size, 2, none⟩ _ _ (by show w.heap.size + 1 + 1 ≠ w.heap.size; omega)).trans HZ1.out)
     have HB2 : Hid (Below w.heap.size w (wd.setCell ⟨w.heap.size, 2, none⟩ (.int .i64 (max (plan - 1) 0)))) := (HB1.out.setCell (p := ⟨w.heap.size, 2, none⟩) (Nat.le_refl _) _)
     have HR2 : Hid (RLi (wd.setCell ⟨w.heap.size, 2, none⟩ (.int .i64 (max (plan - 1) 0))) (.slice la R.length lc) R (inDo w T)) := (HR1.out.store (p := ⟨w.heap.size, 2, none⟩) hnod _)
     clear HD1 HO1 HZ1 HR1
     have hwp : w.heap.size + 3 ≤ (wd.setCell ⟨w.heap.size, 2, none⟩ (.int .i64 (max (plan - 1) 0))).heap.size := by rw [← HSZ.out]; simp [World.setCell]
     generalize (wd.setCell ⟨w.heap.size, 2, none⟩ (.int .i64 (max (plan - 1) 0))) = wp at *
     clear hx0 hx1 hx2 hx3 hd2 hd3
     obtain ⟨hx0, hx1, hx2, hx3⟩ := cells4 HD2.out
     obtain ⟨ho0, ho1, ho2, ho3⟩ := cells4 HO2.out
     have HST : Hid (∀ (c : Int), (stepF ⟨room, R.map RF.f, plan, false⟩, c) = ((⟨room, R.map RF.f, max (plan - 1) 0, false⟩ : DS), c)) := fun c => rfl
     go_wp2_with fail
     refine (rfind_any room (max (plan - 1) 0) false _ R _ name _ HR2.out (by omega)).mono ?_
     rintro e w3 ⟨rfl, hb3⟩
     have HD3 := Lib.hid ((hb3.block _ (lt_of_heap HD2.out)).trans HD2.out)
     have HO3 := Lib.hid ((hb3.block _ (lt_of_heap HO2.out)).trans HO2.out)
     have HZ3 := Lib.hid ((hb3.block _ (lt_of_heap HZ2.out)).trans HZ2.out)
     have HB3 := Lib.hid (HB2.out.trans (hb3.mono HB2.out.size))
     have HR3 := Lib.hid (HR2.out.below hb3)
     clear HD2 HO2 HZ2 HR2
     have HW3 := Nat.le_trans hwp hb3.size
     clear hx0 hx1 hx2 hx3 ho0 ho1 ho2 ho3 hb3
     obtain ⟨hx0, hx1, hx2, hx3⟩ := cells4 HD3.out
     obtain ⟨ho0, ho1, ho2, ho3⟩ := cells4 HO3.out
     have HFN := Lib.hid (first_name R name)
     go_wp2_with fail
     refine (rnamed_any name _ hn).mono ?_
     rintro e w4 ⟨rfl, hw4⟩
     obtain rfl := hw4.symm
     cases hnm : namedB name with
     | false =>
       have HV : Hid (DD = (stepF ⟨room, R.map RF.f, plan, false⟩, 6)) := by rw [Hid, HSTEP.out, if_pos (.inl hnm)]
       obtain ⟨hq0, hq1, hq2, hq3⟩ := cells4 HZ3.out
       have hz0 := freeAt HZ3.out 0
       have hz1 := freeAt HZ3.out 1
       have hz2 := freeAt HZ3.out 2
       have hz3 := freeAt HZ3.out 3
       go_wp2
       try simp only [Exit.inBlock, Exit.then]
       exact rdo_end 6 HZ3.out HB3.out HR3.out (HV.out) rfl rfl
     | true =>
       rcases HFN.out with hmiss | ⟨i, hi, hni, hlow⟩
       · have HV : Hid (DD = (⟨room, putF (R.map RF.f) ⟨name, [], 0⟩, max (plan - 1) 0, false⟩, 0)) := by
           rw [Hid, HSTEP.out]; simp [hnm, findD_miss hmiss, stepF]
         rw [posR_miss hmiss] at *
         clear hmiss HFN
         have hd1 := freeAt HD3.out 1
         go_wp2_with fail
         refine (rput_any _ R (inDo w T) ⟨⟨name, [], 0⟩, none, 0⟩ _ HR3.out (by omega) ⟨Row.nil _ _ _ _, Nat.le_refl _, by simp⟩).mono ?_
         rintro e w5 ⟨v5, rfl, hr5, hb5⟩
         obtain ⟨a5, c5, rfl⟩ := slice_form hr5.row
         have hr5' := Lib.hid (hr5.mono (T' := inDo w T) (fun k hk => by have h1 := HSZ.out; have h2 := HW3; rcases hk with hk | hk; exact hk; exact .inr (by omega)))
         have HD5 := Lib.hid ((hb5.block _ (lt_of_heap HD3.out)).trans HD3.out)
         have HO5 := Lib.hid ((hb5.block _ (lt_of_heap HO3.out)).trans HO3.out)
         have HZ5 := Lib.hid ((hb5.block _ (lt_of_heap HZ3.out)).trans HZ3.out)
         have HB5 := Lib.hid (HB3.out.trans (hb5.mono HB3.out.size))
         have HR5 := Lib.hid (HR3.out.below hb5)
         clear HD3 HO3 HZ3 HR3
         clear hx0 hx1 hx2 hx3 ho0 ho1 ho2 ho3 hb5 hr5 hd1 HR5
         have hd1 := freeAt HD5.out 1
         obtain ⟨hx0, hx1, hx2, hx3⟩ := cells4 HD5.out
         generalize (putR R ⟨⟨name, [], 0⟩, none, 0⟩).length = n5 at *
         go_upto_region 15 with fail
         have HD6 : Hid ((w5.setCell ⟨w.heap.size, 1, none⟩ (.slice a5 n5 c5)).heap[w.heap.size]? = some (.cells #[.int .i64 room, (.slice a5 n5 c5), .int .i64 (max (plan - 1) 0), .bool false] 32 (0, 0))) := heap_store HD5.out 1 _
         have HO6 : Hid ((w5.setCell ⟨w.heap.size, 1, none⟩ (.slice a5 n5 c5)).heap[w.heap.size + 1]? = _) := (Below.heap_setCell _ ⟨w.heap.size, 1, none⟩ _ _ (by show w.heap.size + 1 ≠ w.heap.size; omega)).trans HO5.out
         have HZ6 : Hid ((w5.setCell ⟨w.heap.size, 1, none⟩ (.slice a5 n5 c5)).heap[w.heap.size + 1 + 1]? = _) := (Below.heap_setCell _ ⟨w.heap.size, 1, none⟩ _ _ (by show w.heap.size + 1 + 1 ≠ w.heap.size; omega)).trans HZ5.out
         have HB6 : Hid (Below w.heap.size w (w5.setCell ⟨w.heap.size, 1, none⟩ (.slice a5 n5 c5))) := HB5.out.setCell (p := ⟨w.heap.size, 1, none⟩) (Nat.le_refl _) _
         have HR6 : Hid (RLi (w5.setCell ⟨w.heap.size, 1, none⟩ (.slice a5 n5 c5)) (.slice a5 n5 c5) (putR R ⟨⟨name, [], 0⟩, none, 0⟩) (inDo w T)) := hr5'.out.store (p := ⟨w.heap.size, 1, none⟩) hnod _
         generalize (w5.setCell ⟨w.heap.size, 1, none⟩ (.slice a5 n5 c5)) = w6 at *
         clear hx0 hx1 hx2 hx3 hd1
         obtain ⟨hx0, hx1, hx2, hx3⟩ := cells4 HD6.out
         obtain ⟨hq0, hq1, hq2, hq3⟩ := cells4 HZ6.out
         have hz0 := freeAt HZ6.out 0
         have hz1 := freeAt HZ6.out 1
         have hz2 := freeAt HZ6.out 2
         have hz3 := freeAt HZ6.out 3
         go_wp2
         try simp only [Exit.inBlock, Exit.then]
         exact rdo_end 0 HZ6.out HB6.out HR6.out (by rw [HV.out, putR_f]) rfl rfl
       · have HV : Hid (DD = (stepF ⟨room, R.map RF.f, plan, false⟩, 7)) := by
           rw [Hid, HSTEP.out]; simp [hnm, findD_hit hi hni hlow]
         rw [posR_hit hi hni hlow] at *
         clear hni hlow HFN
         obtain ⟨hq0, hq1, hq2, hq3⟩ := cells4 HZ3.out
         have hz0 := freeAt HZ3.out 0
         have hz1 := freeAt HZ3.out 1
         have hz2 := freeAt HZ3.out 2
         have hz3 := freeAt HZ3.out 3
         go_wp2
         try simp only [Exit.inBlock, Exit.then]
         exact rdo_end 7 HZ3.out HB3.out HR3.out (HV.out) rfl rfl
set_option maxHeartbeats 4000000 in
theorem rdo2_any (room plan : Int) (down : Bool) (v : Value) (R : List RF) (T : Nat → Prop) (name tgt : ByteArray) (b : List UInt8) (ba : Option Addr) (bc : Nat) (w : World) (h : RLi w v R T) (hL : R.length ≤ 5000) (hp : 0 ≤ plan ∧ plan ≤ 9223372036854775807)
   (hn : name.size ≤ 100000) (hto : tgt.size ≤ 100000) (hb : Reads w (.slice ba b.length bc) b.length 1 (byts b)) (hs : sumR R + b.length ≤ 1000000000) :
   Calls Tryz.prog 64 #[rdisk room v plan down, .agg #[.int .i64 2, .string name, .string tgt, .slice ba b.length bc]] w (RPost w T (doF 2 ⟨room, R.map RF.f, plan, down⟩ name tgt b)) := by
 obtain ⟨la, lc, rfl⟩ := slice_form h.row
 have HRB := Lib.hid hb
 have h3 := heap3 w (.cells #[.int .i64 room, .slice la R.length lc, .int .i64 plan, .bool down] 32) (.cells #[.int .i64 2, .string name, .string tgt, .slice ba b.length bc] 112) (.cells #[.int .i64 0, .slice none 0 0, .int .i64 0, .bool false] 32)
 have hb3 := below3 w (.cells #[.int .i64 room, .slice la R.length lc, .int .i64 plan, .bool down] 32) (.cells #[.int .i64 2, .string name, .string tgt, .slice ba b.length bc] 112) (.cells #[.int .i64 0, .slice none 0 0, .int .i64 0, .bool false] 32)
 have HD1 : Hid ((((w.alloc (.cells #[.int .i64 room, .slice la R.length lc, .int .i64 plan, .bool down] 32)).alloc (.cells #[.int .i64 2, .string name, .string tgt, .slice ba b.length bc] 112)).alloc (.cells #[.int .i64 0, .slice none 0 0, .int .i64 0, .bool false] 32)).heap[w.heap.size]? = some (.cells #[.int .i64 room, .slice la R.length lc, .int .i64 plan, .bool down] 32 (0, 0))) := h3.1.trans (heap_alloc_new _ _)
 have HO1 : Hid ((((w.alloc (.cells #[.int .i64 room, .slice la R.length lc, .int .i64 plan, .bool down] 32)).alloc (.cells #[.int .i64 2, .string name, .string tgt, .slice ba b.length bc] 112)).alloc (.cells #[.int .i64 0, .slice none 0 0, .int .i64 0, .bool false] 32)).heap[w.heap.size + 1]? = some (.cells #[.int .i64 2, .string name, .string tgt, .slice ba b.length bc] 112 (0, 0))) := h3.2.1.trans (heap_alloc_new _ _)
 have HZ1 : Hid ((((w.alloc (.cells #[.int .i64 room, .slice la R.length lc, .int .i64 plan, .bool down] 32)).alloc (.cells #[.int .i64 2, .string name, .string tgt, .slice ba b.length bc] 112)).alloc (.cells #[.int .i64 0, .slice none 0 0, .int .i64 0, .bool false] 32)).heap[w.heap.size + 1 + 1]? = some (.cells #[.int .i64 0, .slice none 0 0, .int .i64 0, .bool false] 32 (0, 0))) := h3.2.2.trans (heap_alloc_new _ _)
 have HB1 := Lib.hid hb3.1
 have HSZ := Lib.hid hb3.2
 have HR1 := Lib.hid ((h.tight.below hb3.1).mono (T' := inDo w T) (fun k hk => .inl hk))
 obtain ⟨DD, hDD⟩ : ∃ DD, DD = doF 2 ⟨room, R.map RF.f, plan, down⟩ name tgt b := ⟨_, rfl⟩
 rw [← hDD]
 have HDD := Lib.hid hDD
 have hnod : ¬ inDo w T w.heap.size := by rintro (h | h) <;> omega
 clear h hb h3 hb3 hDD
 go_enter Tryz.func64, Tryz.ntmps64
 go_upto_region 1 with fail
 generalize (((w.alloc (.cells #[.int .i64 room, .slice la R.length lc, .int .i64 plan, .bool down] 32)).alloc (.cells #[.int .i64 2, .string name, .string tgt, .slice ba b.length bc] 112)).alloc (.cells #[.int .i64 0, .slice none 0 0, .int .i64 0, .bool false] 32)) = wd at *
 obtain ⟨hx0, hx1, hx2, hx3⟩ := cells4 HD1.out
 cases down with
 | true =>
   obtain ⟨hq0, hq1, hq2, hq3⟩ := cells4 HZ1.out
   have hz0 := freeAt HZ1.out 0
   have hz1 := freeAt HZ1.out 1
   have hz2 := freeAt HZ1.out 2
   have hz3 := freeAt HZ1.out 3
   go_wp2
   try simp only [Exit.inBlock, Exit.then]
   exact rdo_end 10 HZ1.out HB1.out HR1.out (by rw [HDD.out]; simp [doF]) rfl rfl
 | false =>
   have hd2 := freeAt HD1.out 2
   have hd3 := freeAt HD1.out 3
   by_cases hp1 : plan = 1
   · subst hp1
     go_upto_region 6 with fail
     have HD2 : Hid (((wd.setCell ⟨w.heap.size, 2, none⟩ (.int .i64 0)).setCell ⟨w.heap.size, 3, none⟩ (.bool true)).heap[w.heap.size]? = some (.cells #[.int .i64 room, .slice la R.length lc, .int .i64 0, .bool true] 32 (0, 0))) := (heap_store (heap_store HD1.out 2 (.int .i64 0)) 3 (.bool true))
     have HO2 : Hid (((wd.setCell ⟨w.heap.size, 2, none⟩ (.int .i64 0)).setCell ⟨w.heap.size, 3, none⟩ (.bool true)).heap[w.heap.size + 1]? = _) := ((Below.heap_setCell _ ⟨w.heap.size, 3, none⟩ _ _ (by show w.heap.size + 1 ≠ w.heap.size; omega)).trans ((Below.heap_setCell _ ⟨w.heap.size, 2, none⟩ _ _ (by show w.heap.size + 1 ≠ w.heap.size; omega)).trans HO1.out))
     have HZ2 : Hid (((wd.setCell ⟨w.heap.size, 2, none⟩ (.int .i64 0)).setCell ⟨w.heap.size, 3, none⟩ (.bool true)).heap[w.heap.size + 1 + 1]? = _) := ((Below.heap_setCell _ ⟨w.heap.size, 3, none⟩ _ _ (by show w.heap.size + 1 + 1 ≠ w.heap.size; omega)).trans ((Below.heap_setCell _ ⟨w.heap.size, 2, none⟩ _ _ (by show w.heap.size + 1 + 1 ≠ w.heap.size; omega)).trans HZ1.out))
     have HB2 : Hid (Below w.heap.size w ((wd.setCell ⟨w.heap.size, 2, none⟩ (.int .i64 0)).setCell ⟨w.heap.size, 3, none⟩ (.bool true))) := ((HB1.out.setCell (p := ⟨w.heap.size, 2, none⟩) (Nat.le_refl _) _).setCell (p := ⟨w.heap.size, 3, none⟩) (Nat.le_refl _) _)
     have HR2 : Hid (RLi ((wd.setCell ⟨w.heap.size, 2, none⟩ (.int .i64 0)).setCell ⟨w.heap.size, 3, none⟩ (.bool true)) (.slice la R.length lc) R (inDo w T)) := ((HR1.out.store (p := ⟨w.heap.size, 2, none⟩) hnod _).store (p := ⟨w.heap.size, 3, none⟩) hnod _)
     clear HD1 HO1 HZ1 HR1
     generalize ((wd.setCell ⟨w.heap.size, 2, none⟩ (.int .i64 0)).setCell ⟨w.heap.size, 3, none⟩ (.bool true)) = wp at *
     clear hx0 hx1 hx2 hx3 hd2 hd3
     obtain ⟨hx0, hx1, hx2, hx3⟩ := cells4 HD2.out
     obtain ⟨hq0, hq1, hq2, hq3⟩ := cells4 HZ2.out
     have hz0 := freeAt HZ2.out 0
     have hz1 := freeAt HZ2.out 1
     have hz2 := freeAt HZ2.out 2
     have hz3 := freeAt HZ2.out 3
     go_wp2
     try simp only [Exit.inBlock, Exit.then]
     exact rdo_end 10 HZ2.out HB2.out HR2.out (by rw [HDD.out]; simp [doF]) rfl rfl
   · have hpb : (plan == 1) = false := by simp [hp1]
     have hwr : IntKind.i64.wrap (plan - 1) = plan - 1 := IntWalk.i64_in _ (by omega)
     have HSTEP : Hid (DD = if namedB name = false ∨ (2 = 4 ∧ namedB tgt = false) ∨ (2 ≠ 1 ∧ findD (R.map RF.f) name = none) then (stepF ⟨room, R.map RF.f, plan, false⟩, (6 : Int))
         else if 2 = 1 then (if (findD (R.map RF.f) name).isSome then (stepF ⟨room, R.map RF.f, plan, false⟩, 7) else ({ stepF ⟨room, R.map RF.f, plan, false⟩ with files := putF (R.map RF.f) ⟨name, [], 0⟩ }, 0))
         else match findD (R.map RF.f) name with
         | none => (stepF ⟨room, R.map RF.f, plan, false⟩, 6)
         | some f =>
           if 2 = 2 then (if room < sumD (R.map RF.f) + b.length then (stepF ⟨room, R.map RF.f, plan, false⟩, 5) else ({ stepF ⟨room, R.map RF.f, plan, false⟩ with files := putF (R.map RF.f) ⟨f.name, f.b ++ b, f.d⟩ }, 0))
           else if 2 = 3 then ({ stepF ⟨room, R.map RF.f, plan, false⟩ with files := putF (R.map RF.f) ⟨f.name, f.b, f.b.length⟩ }, 0)
           else if 2 = 4 then ({ stepF ⟨room, R.map RF.f, plan, false⟩ with files := putF (outF (R.map RF.f) name) ⟨tgt, f.b, f.d⟩ }, 0)
           else ({ stepF ⟨room, R.map RF.f, plan, false⟩ with files := outF (R.map RF.f) name }, 0)) := by
       rw [Hid, HDD.out, doF, if_neg (by simp), if_neg hp1]; rfl
     go_upto_region 8 with fail
     have HD2 : Hid ((wd.setCell ⟨w.heap.size, 2, none⟩ (.int .i64 (max (plan - 1) 0))).heap[w.heap.size]? = some (.cells #[.int .i64 room, .slice la R.length lc, .int .i64 (max (plan - 1) 0), .bool false] 32 (0, 0))) := (heap_store HD1.out 2 (.int .i64 (max (plan - 1) 0)))
     have HO2 : Hid ((wd.setCell ⟨w.heap.size, 2, none⟩ (.int .i64 (max (plan - 1) 0))).heap[w.heap.size + 1]? = _) := ((Below.heap_setCell _ ⟨w.heap.size, 2, none⟩ _ _ (by show w.heap.size + 1 ≠ w.heap.size; omega)).trans HO1.out)
     have HZ2 : Hid ((wd.setCell ⟨w.heap.size, 2, none⟩ (.int .i64 (max (plan - 1) 0))).heap[w.heap.size + 1 + 1]? = _) := ((Below.heap_setCell _ ⟨w.heap.size, 2, none⟩ _ _ (by show w.heap.size + 1 + 1 ≠ w.heap.size; omega)).trans HZ1.out)
     have HB2 : Hid (Below w.heap.size w (wd.setCell ⟨w.heap.size, 2, none⟩ (.int .i64 (max (plan - 1) 0)))) := (HB1.out.setCell (p := ⟨w.heap.size, 2, none⟩) (Nat.le_refl _) _)
     have HR2 : Hid (RLi (wd.setCell ⟨w.heap.size, 2, none⟩ (.int .i64 (max (plan - 1) 0))) (.slice la R.length lc) R (inDo w T)) := (HR1.out.store (p := ⟨w.heap.size, 2, none⟩) hnod _)
     clear HD1 HO1 HZ1 HR1
     have hwp : w.heap.size + 3 ≤ (wd.setCell ⟨w.heap.size, 2, none⟩ (.int .i64 (max (plan - 1) 0))).heap.size := by rw [← HSZ.out]; simp [World.setCell]
     generalize (wd.setCell ⟨w.heap.size, 2, none⟩ (.int .i64 (max (plan - 1) 0))) = wp at *
     clear hx0 hx1 hx2 hx3 hd2 hd3
     obtain ⟨hx0, hx1, hx2, hx3⟩ := cells4 HD2.out
     obtain ⟨ho0, ho1, ho2, ho3⟩ := cells4 HO2.out
     have HST : Hid (∀ (c : Int), (stepF ⟨room, R.map RF.f, plan, false⟩, c) = ((⟨room, R.map RF.f, max (plan - 1) 0, false⟩ : DS), c)) := fun c => rfl
     go_wp2_with fail
     refine (rfind_any room (max (plan - 1) 0) false _ R _ name _ HR2.out (by omega)).mono ?_
     rintro e w3 ⟨rfl, hb3⟩
     have HD3 := Lib.hid ((hb3.block _ (lt_of_heap HD2.out)).trans HD2.out)
     have HO3 := Lib.hid ((hb3.block _ (lt_of_heap HO2.out)).trans HO2.out)
     have HZ3 := Lib.hid ((hb3.block _ (lt_of_heap HZ2.out)).trans HZ2.out)
     have HB3 := Lib.hid (HB2.out.trans (hb3.mono HB2.out.size))
     have HR3 := Lib.hid (HR2.out.below hb3)
     clear HD2 HO2 HZ2 HR2
     have HW3 := Nat.le_trans hwp hb3.size
     clear hx0 hx1 hx2 hx3 ho0 ho1 ho2 ho3 hb3
     obtain ⟨hx0, hx1, hx2, hx3⟩ := cells4 HD3.out
     obtain ⟨ho0, ho1, ho2, ho3⟩ := cells4 HO3.out
     have HFN := Lib.hid (first_name R name)
     go_wp2_with fail
     refine (rnamed_any name _ hn).mono ?_
     rintro e w4 ⟨rfl, hw4⟩
     obtain rfl := hw4.symm
     cases hnm : namedB name with
     | false =>
       have HV : Hid (DD = (stepF ⟨room, R.map RF.f, plan, false⟩, 6)) := by rw [Hid, HSTEP.out, if_pos (.inl hnm)]
       obtain ⟨hq0, hq1, hq2, hq3⟩ := cells4 HZ3.out
       have hz0 := freeAt HZ3.out 0
       have hz1 := freeAt HZ3.out 1
       have hz2 := freeAt HZ3.out 2
       have hz3 := freeAt HZ3.out 3
       go_wp2
       try simp only [Exit.inBlock, Exit.then]
       exact rdo_end 6 HZ3.out HB3.out HR3.out (HV.out) rfl rfl
     | true =>
       rcases HFN.out with hmiss | ⟨i, hi, hni, hlow⟩
       · have HV : Hid (DD = (stepF ⟨room, R.map RF.f, plan, false⟩, 6)) := by rw [Hid, HSTEP.out, if_pos (.inr (.inr ⟨by decide, findD_miss hmiss⟩))]
         rw [posR_miss hmiss] at *
         clear hmiss HFN
         obtain ⟨hq0, hq1, hq2, hq3⟩ := cells4 HZ3.out
         have hz0 := freeAt HZ3.out 0
         have hz1 := freeAt HZ3.out 1
         have hz2 := freeAt HZ3.out 2
         have hz3 := freeAt HZ3.out 3
         go_wp2
         try simp only [Exit.inBlock, Exit.then]
         exact rdo_end 6 HZ3.out HB3.out HR3.out (HV.out) rfl rfl
       · have HV : Hid (DD = if room < sumD (R.map RF.f) + b.length then (stepF ⟨room, R.map RF.f, plan, false⟩, 5) else (⟨room, putF (R.map RF.f) ⟨R[i].f.name, R[i].f.b ++ b, R[i].f.d⟩, max (plan - 1) 0, false⟩, 0)) := by
           rw [Hid, HSTEP.out]; simp [hnm, findD_hit hi hni hlow, stepF]
         rw [posR_hit hi hni hlow] at *
         obtain ⟨lb, lo, lcc, he, hcap, hlb, hcell⟩ := HR3.out.cells (by omega)
         obtain ⟨rfl, rfl⟩ : la = some ⟨lb, lo, none⟩ ∧ lc = lcc := by cases he; exact ⟨rfl, rfl⟩
         obtain ⟨hc0, hc1, hc2⟩ := hcell i hi
         have hmem : R[i] ∈ R := List.getElem_mem hi
         clear hcell he hni hlow HFN HSTEP HDD
         generalize R[i] = r at *
         go_upto_region 17 with fail
         have HF4 : Hid ((w3.alloc (.cells #[.string r.f.name, .slice r.a r.f.b.length r.c, .int .i64 r.f.d] 120)).heap[w3.heap.size]? = some (.cells #[.string r.f.name, .slice r.a r.f.b.length r.c, .int .i64 r.f.d] 120 (0, 0))) := heap_alloc_new _ _
         have hb4 : Below w3.heap.size w3 (w3.alloc (.cells #[.string r.f.name, .slice r.a r.f.b.length r.c, .int .i64 r.f.d] 120)) := (Below.refl _ _).alloc (Nat.le_refl _) _
         have HR4' : Hid (RLi (w3.alloc (.cells #[.string r.f.name, .slice r.a r.f.b.length r.c, .int .i64 r.f.d] 120)) _ R (fun k => inDo w T k ∧ k < w3.heap.size)) := HR3.out.tight.below hb4
         have HD4 := Lib.hid ((hb4.block _ (lt_of_heap HD3.out)).trans HD3.out)
         have HO4 := Lib.hid ((hb4.block _ (lt_of_heap HO3.out)).trans HO3.out)
         have HZ4 := Lib.hid ((hb4.block _ (lt_of_heap HZ3.out)).trans HZ3.out)
         have HB4 := Lib.hid (HB3.out.trans (hb4.mono HB3.out.size))
         have HR4 := Lib.hid (HR3.out.below hb4)
         clear HD3 HO3 HZ3 HR3
         have HR4 := HR4'
         have HRI : Hid (okR (w3.alloc (.cells #[.string r.f.name, .slice r.a r.f.b.length r.c, .int .i64 r.f.d] 120)) (fun k => inDo w T k ∧ k < w3.heap.size) r) := HR4.out.byt r hmem
         have HW4 : w3.heap.size < (w3.alloc (.cells #[.string r.f.name, .slice r.a r.f.b.length r.c, .int .i64 r.f.d] 120)).heap.size := by rw [World.size_alloc]; omega
         generalize w3.alloc (.cells #[.string r.f.name, .slice r.a r.f.b.length r.c, .int .i64 r.f.d] 120) = w4 at *
         clear hx0 hx1 hx2 hx3 ho0 ho1 ho2 ho3 hc0 hc1 hc2 hb4 HR4'
         obtain ⟨hx0, hx1, hx2, hx3⟩ := cells4 HD4.out
         obtain ⟨ho0, ho1, ho2, ho3⟩ := cells4 HO4.out
         obtain ⟨hy0, hy1, hy2⟩ := cells3 HF4.out
         have hd1 := freeAt HD4.out 1
         have hw1 : w.heap.size + 3 ≤ w3.heap.size := HW3
         have HU := Lib.hid (rused_any room (max (plan - 1) 0) false (.slice (some ⟨lb, lo, none⟩) R.length lc) R (fun k => inDo w T k ∧ k < w3.heap.size) w4.drew (HR4.out.frame (fun _ _ _ => rfl)) (by omega) (by omega))
         go_upto_region 19 with fail
         go_region_held3 (fun w' => w'.cell? ⟨w.heap.size, 0, none⟩ = some (.int .i64 room) ∧ w'.cell? ⟨w.heap.size, 1, none⟩ = some (.slice (some ⟨lb, lo, none⟩) R.length lc) ∧ w'.cell? ⟨w.heap.size, 2, none⟩ = some (.int .i64 (max (plan - 1) 0)) ∧ w'.cell? ⟨w.heap.size, 3, none⟩ = some (.bool false) ∧ w'.cell? ⟨w.heap.size + 1, 3, none⟩ = some (.slice ba b.length bc)) (first | exact ⟨hx0, hx1, hx2, hx3, ho3⟩ | exact HC5.out)
           (first | (go_at_call 52; refine (HU.out).mono ?_; rintro e w5 ⟨rfl, hb5⟩
                     have HBU : Hid (Below w4.heap.size w4 w5) := (Below.refl w4.heap.size w4).drew.trans hb5
                     have HC5 : Hid (w5.cell? ⟨w.heap.size, 0, none⟩ = some (.int .i64 room) ∧ w5.cell? ⟨w.heap.size, 1, none⟩ = some (.slice (some ⟨lb, lo, none⟩) R.length lc) ∧ w5.cell? ⟨w.heap.size, 2, none⟩ = some (.int .i64 (max (plan - 1) 0)) ∧ w5.cell? ⟨w.heap.size, 3, none⟩ = some (.bool false) ∧ w5.cell? ⟨w.heap.size + 1, 3, none⟩ = some (.slice ba b.length bc)) :=
              ⟨(HBU.out.cell (p := ⟨w.heap.size, 0, none⟩) (lt_of_heap HD4.out)).trans hx0, (HBU.out.cell (p := ⟨w.heap.size, 1, none⟩) (lt_of_heap HD4.out)).trans hx1, (HBU.out.cell (p := ⟨w.heap.size, 2, none⟩) (lt_of_heap HD4.out)).trans hx2, (HBU.out.cell (p := ⟨w.heap.size, 3, none⟩) (lt_of_heap HD4.out)).trans hx3, (HBU.out.cell (p := ⟨w.heap.size + 1, 3, none⟩) (lt_of_heap HO4.out)).trans ho3⟩
                     clear hb5))
         rw [IntWalk.i64_in _ (by omega)]
         have HF5 := Lib.hid ((HBU.out.block _ (lt_of_heap HF4.out)).trans HF4.out)
         have HRI5 : Hid (okR w5 (fun k => inDo w T k ∧ k < w3.heap.size) r) := ⟨HRI.out.1.frame (fun k _ hk => HBU.out.block k hk), HRI.out.2⟩
         have HRB5 := Lib.hid (HRB.out.later (HB4.out.trans (HBU.out.mono HB4.out.size)))
         have hw5 := Nat.le_trans (Nat.le_trans HW3 (Nat.le_of_lt HW4)) HBU.out.size
         have HD5 := Lib.hid ((HBU.out.block _ (lt_of_heap HD4.out)).trans HD4.out)
         have HO5 := Lib.hid ((HBU.out.block _ (lt_of_heap HO4.out)).trans HO4.out)
         have HZ5 := Lib.hid ((HBU.out.block _ (lt_of_heap HZ4.out)).trans HZ4.out)
         have HB5 := Lib.hid (HB4.out.trans (HBU.out.mono HB4.out.size))
         have HR5 := Lib.hid (HR4.out.below HBU.out)
         clear HD4 HO4 HZ4 HR4
         clear HU hx0 hx1 hx2 hx3 ho0 ho1 ho2 ho3 hy0 hy1 hy2 hd1 HC5 HF4 HRI
         rw [sumR_f] at *
         obtain ⟨hx0, hx1, hx2, hx3⟩ := cells4 HD5.out
         obtain ⟨ho0, ho1, ho2, ho3⟩ := cells4 HO5.out
         obtain ⟨hy0, hy1, hy2⟩ := cells3 HF5.out
         by_cases hfull : room < (sumD (R.map RF.f) : Int) + b.length
         · have HV2 : Hid (DD = (stepF ⟨room, R.map RF.f, plan, false⟩, 5)) := by rw [Hid, HV.out, if_pos hfull]
           obtain ⟨hq0, hq1, hq2, hq3⟩ := cells4 HZ5.out
           have hz0 := freeAt HZ5.out 0
           have hz1 := freeAt HZ5.out 1
           have hz2 := freeAt HZ5.out 2
           have hz3 := freeAt HZ5.out 3
           go_wp2
           try simp only [Exit.inBlock, Exit.then]
           exact rdo_end 5 HZ5.out HB5.out (HR5.out.mono (fun k hk => hk.1)) (HV2.out) rfl rfl
         · have HV2 : Hid (DD = (⟨room, putF (R.map RF.f) ⟨r.f.name, r.f.b ++ b, r.f.d⟩, max (plan - 1) 0, false⟩, 0)) := by rw [Hid, HV.out, if_neg hfull]
           have hrl9 := HRI5.out.2.2
           have hya1 := fun ob => (cells3 ((Below.heap_alloc w5 ob _ (lt_of_heap HF5.out)).trans HF5.out)).2.1
           have hoa3 := fun ob => (cells4 ((Below.heap_alloc w5 ob _ (lt_of_heap HO5.out)).trans HO5.out)).2.2.2
           go_wp2_with fail
           go_region_law
             (first
             | (refine step_row elemU8 rfl rfl (S := fun k => k = w5.heap.size) (v := .slice (some ⟨w5.heap.size, 0, none⟩) 0 0) (n := 0) (xs := []) rfl (Row.bare (heap_alloc_new w5.drew _)) (y := .slice r.a r.f.b.length r.c) (m := r.f.b.length) (news := byts r.f.b) rfl ((show Reads w5 (.slice r.a r.f.b.length r.c) _ _ _ from HRI5.out.1.reads).later ((Below.refl _ _).drew.alloc (Nat.le_refl _) _)) (byts_one _) (by unfold maxLen; omega) (by omega) ?_
                intro v6 w6 hr6 hc6
                obtain ⟨hr6', hb6'⟩ := first_a hr6 hc6
                have HN6 := Lib.hid hr6'
                have HB6 := Lib.hid hb6'
                have ho36 := (cells4 ((hb6'.block _ (lt_of_heap HO5.out)).trans HO5.out)).2.2.2
                clear hr6 hc6 hr6' hb6')
             | (refine step_row elemU8 rfl rfl (S := fun k => w5.heap.size ≤ k) (v := v6) (n := r.f.b.length) (xs := byts r.f.b) rfl HN6.out (y := .slice ba b.length bc) (m := b.length) (news := byts b) rfl (HRB5.out.later HB6.out) (byts_one _) (by unfold maxLen; omega) (by omega) ?_
                intro v7 w7 hr7 hc7
                obtain ⟨hr7', hb7'⟩ := next_a HB6.out hr7 hc7
                obtain ⟨a7, c7, rfl⟩ := slice_form hr7'
                have HN7 := Lib.hid hr7'
                have HB7' := Lib.hid hb7'
                have HF7 := Lib.hid ((hb7'.block _ (lt_of_heap HF5.out)).trans HF5.out)
                have hy1 := (cells3 HF7.out).2.1
                have hff1 := freeAt HF7.out 1
                clear hr7 hc7 hr7' hb7')
             | fail)
           all_goals
             have HRI7 := Lib.hid (HR5.out.byt r hmem)
             have HD7 := Lib.hid ((HB7'.out.block _ (lt_of_heap HD5.out)).trans HD5.out)
             have HO7 := Lib.hid ((HB7'.out.block _ (lt_of_heap HO5.out)).trans HO5.out)
             have HZ7 := Lib.hid ((HB7'.out.block _ (lt_of_heap HZ5.out)).trans HZ5.out)
             have HB7 := Lib.hid (HB5.out.trans (HB7'.out.mono HB5.out.size))
             have HR7 := Lib.hid (HR5.out.below HB7'.out)
             clear HD5 HO5 HZ5 HR5
             clear hx0 hx1 hx2 hx3 ho0 ho1 ho2 ho3 hy0 hy2 hya1 hoa3
             have HD8 : Hid ((w7.setCell ⟨w3.heap.size, 1, none⟩ (.slice a7 (r.f.b.length + b.length) c7)).heap[w.heap.size]? = _) := (Below.heap_setCell _ ⟨w3.heap.size, 1, none⟩ _ _ (by show w.heap.size ≠ w3.heap.size; omega)).trans HD7.out
             have HO8 : Hid ((w7.setCell ⟨w3.heap.size, 1, none⟩ (.slice a7 (r.f.b.length + b.length) c7)).heap[w.heap.size + 1]? = _) := (Below.heap_setCell _ ⟨w3.heap.size, 1, none⟩ _ _ (by show w.heap.size + 1 ≠ w3.heap.size; omega)).trans HO7.out
             have HZ8 : Hid ((w7.setCell ⟨w3.heap.size, 1, none⟩ (.slice a7 (r.f.b.length + b.length) c7)).heap[w.heap.size + 1 + 1]? = _) := (Below.heap_setCell _ ⟨w3.heap.size, 1, none⟩ _ _ (by show w.heap.size + 1 + 1 ≠ w3.heap.size; omega)).trans HZ7.out
             have HB8 : Hid (Below w.heap.size w (w7.setCell ⟨w3.heap.size, 1, none⟩ (.slice a7 (r.f.b.length + b.length) c7))) := HB7.out.setCell (p := ⟨w3.heap.size, 1, none⟩) (by show w.heap.size ≤ w3.heap.size; omega) _
             have HF8 : Hid ((w7.setCell ⟨w3.heap.size, 1, none⟩ (.slice a7 (r.f.b.length + b.length) c7)).heap[w3.heap.size]? = some (.cells #[.string r.f.name, .slice a7 (r.f.b.length + b.length) c7, .int .i64 r.f.d] 120 (0, 0))) := heap_store HF7.out 1 _
             have HR8 := Lib.hid (HR7.out.frame (w' := (w7.setCell ⟨w3.heap.size, 1, none⟩ (.slice a7 (r.f.b.length + b.length) c7))) (fun k hk _ => Below.heap_setCell _ ⟨w3.heap.size, 1, none⟩ _ _ (by have h9 := hk.2; intro e; have e2 : k = w3.heap.size := e; omega)))
             have HN8 := Lib.hid (HN7.out.frame (w' := (w7.setCell ⟨w3.heap.size, 1, none⟩ (.slice a7 (r.f.b.length + b.length) c7))) (fun k hk _ => Below.heap_setCell _ ⟨w3.heap.size, 1, none⟩ _ _ (by intro e; have e2 : k = w3.heap.size := e; have := HBU.out.size; omega)))
             have hws : w.heap.size + 3 ≤ (w7.setCell ⟨w3.heap.size, 1, none⟩ (.slice a7 (r.f.b.length + b.length) c7)).heap.size := by have := HB7'.out.size; simp [World.setCell]; omega
             have HBS : Hid (w5.heap.size ≤ (w7.setCell ⟨w3.heap.size, 1, none⟩ (.slice a7 (r.f.b.length + b.length) c7)).heap.size) := by have := HB7'.out.size; simpa [World.setCell, Hid] using this
             go_upto_region 22 with fail
             generalize (w7.setCell ⟨w3.heap.size, 1, none⟩ (.slice a7 (r.f.b.length + b.length) c7)) = w8 at *
             clear hy1 HF7 HN7 HR7 HD7 HO7 HZ7 hff1
             obtain ⟨hx0, hx1, hx2, hx3⟩ := cells4 HD8.out
             obtain ⟨hy0, hy1, hy2⟩ := cells3 HF8.out
             have hd1 := freeAt HD8.out 1
             obtain ⟨TP, hTP⟩ : ∃ TP, TP = (fun k => inDo w T k ∧ k ≠ w3.heap.size) := ⟨_, rfl⟩
             have HTP : ∀ k, TP k → inDo w T k := fun k hk => by rw [hTP] at hk; exact hk.1
             have HRP : Hid (RLi w8 _ R TP) := HR8.out.mono (fun k hk => by rw [hTP]; exact ⟨hk.1, by have := hk.2; omega⟩)
             have HOKP : Hid (okR w8 TP ⟨⟨r.f.name, r.f.b ++ b, r.f.d⟩, a7, c7⟩) := by
               refine ⟨?_, ?_, ?_⟩
               · show Row w8 _ 1 (.slice a7 (r.f.b ++ b).length c7) (r.f.b ++ b).length (byts (r.f.b ++ b)) TP
                 rw [List.length_append, byts_append]
                 exact HN8.out.mono (fun k hk => by rw [hTP]; have := HBU.out.size; exact ⟨.inr (by omega), by omega⟩)
               · show r.f.d ≤ (r.f.b ++ b).length
                 have := HRI7.out.2.1
                 rw [List.length_append]; omega
               · show (r.f.b ++ b).length ≤ _
                 have hq : r.f.b.length ≤ sumD (R.map RF.f) := len_le_sum (List.mem_map.2 ⟨r, hmem, rfl⟩)
                 rw [List.length_append]; omega
             clear hTP HN8 HR8
             have hput := Lib.hid (rput_any _ R TP ⟨⟨r.f.name, r.f.b ++ b, r.f.d⟩, a7, c7⟩ _ HRP.out (by omega) HOKP.out)
             simp only [List.length_append] at hput
             go_wp2_with fail
             refine hput.out.mono ?_
             rintro e w9 ⟨v9, rfl, hr9, hb9⟩
             obtain ⟨a9, c9, rfl⟩ := slice_form hr9.row
             have hr9' := Lib.hid (hr9.mono (T' := inDo w T) (fun k hk => by rcases hk with hk | hk; exact HTP k hk; exact .inr (by omega)))
             have HR8 := HRP
             have HD9 := Lib.hid ((hb9.block _ (lt_of_heap HD8.out)).trans HD8.out)
             have HO9 := Lib.hid ((hb9.block _ (lt_of_heap HO8.out)).trans HO8.out)
             have HZ9 := Lib.hid ((hb9.block _ (lt_of_heap HZ8.out)).trans HZ8.out)
             have HB9 := Lib.hid (HB8.out.trans (hb9.mono HB8.out.size))
             have HR9 := Lib.hid (HR8.out.below hb9)
             clear HD8 HO8 HZ8 HR8
             clear hx0 hx1 hx2 hx3 hb9 hr9 hd1 HR9
             have hd1 := freeAt HD9.out 1
             obtain ⟨hx0, hx1, hx2, hx3⟩ := cells4 HD9.out
             generalize (putR R ⟨⟨r.f.name, r.f.b ++ b, r.f.d⟩, a7, c7⟩).length = n9 at *
             go_upto_region 32 with fail
             have HD10 : Hid ((w9.setCell ⟨w.heap.size, 1, none⟩ (.slice a9 n9 c9)).heap[w.heap.size]? = some (.cells #[.int .i64 room, (.slice a9 n9 c9), .int .i64 (max (plan - 1) 0), .bool false] 32 (0, 0))) := heap_store HD9.out 1 _
             have HO10 : Hid ((w9.setCell ⟨w.heap.size, 1, none⟩ (.slice a9 n9 c9)).heap[w.heap.size + 1]? = _) := (Below.heap_setCell _ ⟨w.heap.size, 1, none⟩ _ _ (by show w.heap.size + 1 ≠ w.heap.size; omega)).trans HO9.out
             have HZ10 : Hid ((w9.setCell ⟨w.heap.size, 1, none⟩ (.slice a9 n9 c9)).heap[w.heap.size + 1 + 1]? = _) := (Below.heap_setCell _ ⟨w.heap.size, 1, none⟩ _ _ (by show w.heap.size + 1 + 1 ≠ w.heap.size; omega)).trans HZ9.out
             have HB10 : Hid (Below w.heap.size w (w9.setCell ⟨w.heap.size, 1, none⟩ (.slice a9 n9 c9))) := HB9.out.setCell (p := ⟨w.heap.size, 1, none⟩) (Nat.le_refl _) _
             have HR10 : Hid (RLi (w9.setCell ⟨w.heap.size, 1, none⟩ (.slice a9 n9 c9)) (.slice a9 n9 c9) (putR R ⟨⟨r.f.name, r.f.b ++ b, r.f.d⟩, a7, c7⟩) (inDo w T)) := hr9'.out.store (p := ⟨w.heap.size, 1, none⟩) hnod _
             generalize (w9.setCell ⟨w.heap.size, 1, none⟩ (.slice a9 n9 c9)) = w10 at *
             clear hx0 hx1 hx2 hx3 hd1
             obtain ⟨hx0, hx1, hx2, hx3⟩ := cells4 HD10.out
             obtain ⟨hq0, hq1, hq2, hq3⟩ := cells4 HZ10.out
             have hz0 := freeAt HZ10.out 0
             have hz1 := freeAt HZ10.out 1
             have hz2 := freeAt HZ10.out 2
             have hz3 := freeAt HZ10.out 3
             go_wp2
             try simp only [Exit.inBlock, Exit.then]
             exact rdo_end 0 HZ10.out HB10.out HR10.out (by rw [HV2.out, putR_f]) rfl rfl
set_option maxHeartbeats 4000000 in
theorem rdo3_any (room plan : Int) (down : Bool) (v : Value) (R : List RF) (T : Nat → Prop) (name tgt : ByteArray) (b : List UInt8) (ba : Option Addr) (bc : Nat) (w : World) (h : RLi w v R T) (hL : R.length ≤ 5000) (hp : 0 ≤ plan ∧ plan ≤ 9223372036854775807)
   (hn : name.size ≤ 100000) (hto : tgt.size ≤ 100000) (hb : Reads w (.slice ba b.length bc) b.length 1 (byts b)) (hs : sumR R + b.length ≤ 1000000000) :
   Calls Tryz.prog 64 #[rdisk room v plan down, .agg #[.int .i64 3, .string name, .string tgt, .slice ba b.length bc]] w (RPost w T (doF 3 ⟨room, R.map RF.f, plan, down⟩ name tgt b)) := by
 obtain ⟨la, lc, rfl⟩ := slice_form h.row
 have HRB := Lib.hid hb
 have h3 := heap3 w (.cells #[.int .i64 room, .slice la R.length lc, .int .i64 plan, .bool down] 32) (.cells #[.int .i64 3, .string name, .string tgt, .slice ba b.length bc] 112) (.cells #[.int .i64 0, .slice none 0 0, .int .i64 0, .bool false] 32)
 have hb3 := below3 w (.cells #[.int .i64 room, .slice la R.length lc, .int .i64 plan, .bool down] 32) (.cells #[.int .i64 3, .string name, .string tgt, .slice ba b.length bc] 112) (.cells #[.int .i64 0, .slice none 0 0, .int .i64 0, .bool false] 32)
 have HD1 : Hid ((((w.alloc (.cells #[.int .i64 room, .slice la R.length lc, .int .i64 plan, .bool down] 32)).alloc (.cells #[.int .i64 3, .string name, .string tgt, .slice ba b.length bc] 112)).alloc (.cells #[.int .i64 0, .slice none 0 0, .int .i64 0, .bool false] 32)).heap[w.heap.size]? = some (.cells #[.int .i64 room, .slice la R.length lc, .int .i64 plan, .bool down] 32 (0, 0))) := h3.1.trans (heap_alloc_new _ _)
 have HO1 : Hid ((((w.alloc (.cells #[.int .i64 room, .slice la R.length lc, .int .i64 plan, .bool down] 32)).alloc (.cells #[.int .i64 3, .string name, .string tgt, .slice ba b.length bc] 112)).alloc (.cells #[.int .i64 0, .slice none 0 0, .int .i64 0, .bool false] 32)).heap[w.heap.size + 1]? = some (.cells #[.int .i64 3, .string name, .string tgt, .slice ba b.length bc] 112 (0, 0))) := h3.2.1.trans (heap_alloc_new _ _)
 have HZ1 : Hid ((((w.alloc (.cells #[.int .i64 room, .slice la R.length lc, .int .i64 plan, .bool down] 32)).alloc (.cells #[.int .i64 3, .string name, .string tgt, .slice ba b.length bc] 112)).alloc (.cells #[.int .i64 0, .slice none 0 0, .int .i64 0, .bool false] 32)).heap[w.heap.size + 1 + 1]? = some (.cells #[.int .i64 0, .slice none 0 0, .int .i64 0, .bool false] 32 (0, 0))) := h3.2.2.trans (heap_alloc_new _ _)
 have HB1 := Lib.hid hb3.1
 have HSZ := Lib.hid hb3.2
 have HR1 := Lib.hid ((h.tight.below hb3.1).mono (T' := inDo w T) (fun k hk => .inl hk))
 obtain ⟨DD, hDD⟩ : ∃ DD, DD = doF 3 ⟨room, R.map RF.f, plan, down⟩ name tgt b := ⟨_, rfl⟩
 rw [← hDD]
 have HDD := Lib.hid hDD
 have hnod : ¬ inDo w T w.heap.size := by rintro (h | h) <;> omega
 clear h hb h3 hb3 hDD
 go_enter Tryz.func64, Tryz.ntmps64
 go_upto_region 1 with fail
 generalize (((w.alloc (.cells #[.int .i64 room, .slice la R.length lc, .int .i64 plan, .bool down] 32)).alloc (.cells #[.int .i64 3, .string name, .string tgt, .slice ba b.length bc] 112)).alloc (.cells #[.int .i64 0, .slice none 0 0, .int .i64 0, .bool false] 32)) = wd at *
 obtain ⟨hx0, hx1, hx2, hx3⟩ := cells4 HD1.out
 cases down with
 | true =>
   obtain ⟨hq0, hq1, hq2, hq3⟩ := cells4 HZ1.out
   have hz0 := freeAt HZ1.out 0
   have hz1 := freeAt HZ1.out 1
   have hz2 := freeAt HZ1.out 2
   have hz3 := freeAt HZ1.out 3
   go_wp2
   try simp only [Exit.inBlock, Exit.then]
   exact rdo_end 10 HZ1.out HB1.out HR1.out (by rw [HDD.out]; simp [doF]) rfl rfl
 | false =>
   have hd2 := freeAt HD1.out 2
   have hd3 := freeAt HD1.out 3
   by_cases hp1 : plan = 1
   · subst hp1
     go_upto_region 6 with fail
     have HD2 : Hid (((wd.setCell ⟨w.heap.size, 2, none⟩ (.int .i64 0)).setCell ⟨w.heap.size, 3, none⟩ (.bool true)).heap[w.heap.size]? = some (.cells #[.int .i64 room, .slice la R.length lc, .int .i64 0, .bool true] 32 (0, 0))) := (heap_store (heap_store HD1.out 2 (.int .i64 0)) 3 (.bool true))
     have HO2 : Hid (((wd.setCell ⟨w.heap.size, 2, none⟩ (.int .i64 0)).setCell ⟨w.heap.size, 3, none⟩ (.bool true)).heap[w.heap.size + 1]? = _) := ((Below.heap_setCell _ ⟨w.heap.size, 3, none⟩ _ _ (by show w.heap.size + 1 ≠ w.heap.size; omega)).trans ((Below.heap_setCell _ ⟨w.heap.size, 2, none⟩ _ _ (by show w.heap.size + 1 ≠ w.heap.size; omega)).trans HO1.out))
     have HZ2 : Hid (((wd.setCell ⟨w.heap.size, 2, none⟩ (.int .i64 0)).setCell ⟨w.heap.size, 3, none⟩ (.bool true)).heap[w.heap.size + 1 + 1]? = _) := ((Below.heap_setCell _ ⟨w.heap.size, 3, none⟩ _ _ (by show w.heap.size + 1 + 1 ≠ w.heap.size; omega)).trans ((Below.heap_setCell _ ⟨w.heap.size, 2, none⟩ _ _ (by show w.heap.size + 1 + 1 ≠ w.heap.size; omega)).trans HZ1.out))
     have HB2 : Hid (Below w.heap.size w ((wd.setCell ⟨w.heap.size, 2, none⟩ (.int .i64 0)).setCell ⟨w.heap.size, 3, none⟩ (.bool true))) := ((HB1.out.setCell (p := ⟨w.heap.size, 2, none⟩) (Nat.le_refl _) _).setCell (p := ⟨w.heap.size, 3, none⟩) (Nat.le_refl _) _)
     have HR2 : Hid (RLi ((wd.setCell ⟨w.heap.size, 2, none⟩ (.int .i64 0)).setCell ⟨w.heap.size, 3, none⟩ (.bool true)) (.slice la R.length lc) R (inDo w T)) := ((HR1.out.store (p := ⟨w.heap.size, 2, none⟩) hnod _).store (p := ⟨w.heap.size, 3, none⟩) hnod _)
     clear HD1 HO1 HZ1 HR1
     generalize ((wd.setCell ⟨w.heap.size, 2, none⟩ (.int .i64 0)).setCell ⟨w.heap.size, 3, none⟩ (.bool true)) = wp at *
     clear hx0 hx1 hx2 hx3 hd2 hd3
     obtain ⟨hx0, hx1, hx2, hx3⟩ := cells4 HD2.out
     obtain ⟨hq0, hq1, hq2, hq3⟩ := cells4 HZ2.out
     have hz0 := freeAt HZ2.out 0
     have hz1 := freeAt HZ2.out 1
     have hz2 := freeAt HZ2.out 2
     have hz3 := freeAt HZ2.out 3
     go_wp2
     try simp only [Exit.inBlock, Exit.then]
     exact rdo_end 10 HZ2.out HB2.out HR2.out (by rw [HDD.out]; simp [doF]) rfl rfl
   · have hpb : (plan == 1) = false := by simp [hp1]
     have hwr : IntKind.i64.wrap (plan - 1) = plan - 1 := IntWalk.i64_in _ (by omega)
     have HSTEP : Hid (DD = if namedB name = false ∨ (3 = 4 ∧ namedB tgt = false) ∨ (3 ≠ 1 ∧ findD (R.map RF.f) name = none) then (stepF ⟨room, R.map RF.f, plan, false⟩, (6 : Int))
         else if 3 = 1 then (if (findD (R.map RF.f) name).isSome then (stepF ⟨room, R.map RF.f, plan, false⟩, 7) else ({ stepF ⟨room, R.map RF.f, plan, false⟩ with files := putF (R.map RF.f) ⟨name, [], 0⟩ }, 0))
         else match findD (R.map RF.f) name with
         | none => (stepF ⟨room, R.map RF.f, plan, false⟩, 6)
         | some f =>
           if 3 = 2 then (if room < sumD (R.map RF.f) + b.length then (stepF ⟨room, R.map RF.f, plan, false⟩, 5) else ({ stepF ⟨room, R.map RF.f, plan, false⟩ with files := putF (R.map RF.f) ⟨f.name, f.b ++ b, f.d⟩ }, 0))
           else if 3 = 3 then ({ stepF ⟨room, R.map RF.f, plan, false⟩ with files := putF (R.map RF.f) ⟨f.name, f.b, f.b.length⟩ }, 0)
           else if 3 = 4 then ({ stepF ⟨room, R.map RF.f, plan, false⟩ with files := putF (outF (R.map RF.f) name) ⟨tgt, f.b, f.d⟩ }, 0)
           else ({ stepF ⟨room, R.map RF.f, plan, false⟩ with files := outF (R.map RF.f) name }, 0)) := by
       rw [Hid, HDD.out, doF, if_neg (by simp), if_neg hp1]; rfl
     go_upto_region 8 with fail
     have HD2 : Hid ((wd.setCell ⟨w.heap.size, 2, none⟩ (.int .i64 (max (plan - 1) 0))).heap[w.heap.size]? = some (.cells #[.int .i64 room, .slice la R.length lc, .int .i64 (max (plan - 1) 0), .bool false] 32 (0, 0))) := (heap_store HD1.out 2 (.int .i64 (max (plan - 1) 0)))
     have HO2 : Hid ((wd.setCell ⟨w.heap.size, 2, none⟩ (.int .i64 (max (plan - 1) 0))).heap[w.heap.size + 1]? = _) := ((Below.heap_setCell _ ⟨w.heap.size, 2, none⟩ _ _ (by show w.heap.size + 1 ≠ w.heap.size; omega)).trans HO1.out)
     have HZ2 : Hid ((wd.setCell ⟨w.heap.size, 2, none⟩ (.int .i64 (max (plan - 1) 0))).heap[w.heap.size + 1 + 1]? = _) := ((Below.heap_setCell _ ⟨w.heap.size, 2, none⟩ _ _ (by show w.heap.size + 1 + 1 ≠ w.heap.size; omega)).trans HZ1.out)
     have HB2 : Hid (Below w.heap.size w (wd.setCell ⟨w.heap.size, 2, none⟩ (.int .i64 (max (plan - 1) 0)))) := (HB1.out.setCell (p := ⟨w.heap.size, 2, none⟩) (Nat.le_refl _) _)
     have HR2 : Hid (RLi (wd.setCell ⟨w.heap.size, 2, none⟩ (.int .i64 (max (plan - 1) 0))) (.slice la R.length lc) R (inDo w T)) := (HR1.out.store (p := ⟨w.heap.size, 2, none⟩) hnod _)
     clear HD1 HO1 HZ1 HR1
     have hwp : w.heap.size + 3 ≤ (wd.setCell ⟨w.heap.size, 2, none⟩ (.int .i64 (max (plan - 1) 0))).heap.size := by rw [← HSZ.out]; simp [World.setCell]
     generalize (wd.setCell ⟨w.heap.size, 2, none⟩ (.int .i64 (max (plan - 1) 0))) = wp at *
     clear hx0 hx1 hx2 hx3 hd2 hd3
     obtain ⟨hx0, hx1, hx2, hx3⟩ := cells4 HD2.out
     obtain ⟨ho0, ho1, ho2, ho3⟩ := cells4 HO2.out
     have HST : Hid (∀ (c : Int), (stepF ⟨room, R.map RF.f, plan, false⟩, c) = ((⟨room, R.map RF.f, max (plan - 1) 0, false⟩ : DS), c)) := fun c => rfl
     go_wp2_with fail
     refine (rfind_any room (max (plan - 1) 0) false _ R _ name _ HR2.out (by omega)).mono ?_
     rintro e w3 ⟨rfl, hb3⟩
     have HD3 := Lib.hid ((hb3.block _ (lt_of_heap HD2.out)).trans HD2.out)
     have HO3 := Lib.hid ((hb3.block _ (lt_of_heap HO2.out)).trans HO2.out)
     have HZ3 := Lib.hid ((hb3.block _ (lt_of_heap HZ2.out)).trans HZ2.out)
     have HB3 := Lib.hid (HB2.out.trans (hb3.mono HB2.out.size))
     have HR3 := Lib.hid (HR2.out.below hb3)
     clear HD2 HO2 HZ2 HR2
     have HW3 := Nat.le_trans hwp hb3.size
     clear hx0 hx1 hx2 hx3 ho0 ho1 ho2 ho3 hb3
     obtain ⟨hx0, hx1, hx2, hx3⟩ := cells4 HD3.out
     obtain ⟨ho0, ho1, ho2, ho3⟩ := cells4 HO3.out
     have HFN := Lib.hid (first_name R name)
     go_wp2_with fail
     refine (rnamed_any name _ hn).mono ?_
     rintro e w4 ⟨rfl, hw4⟩
     obtain rfl := hw4.symm
     cases hnm : namedB name with
     | false =>
       have HV : Hid (DD = (stepF ⟨room, R.map RF.f, plan, false⟩, 6)) := by rw [Hid, HSTEP.out, if_pos (.inl hnm)]
       obtain ⟨hq0, hq1, hq2, hq3⟩ := cells4 HZ3.out
       have hz0 := freeAt HZ3.out 0
       have hz1 := freeAt HZ3.out 1
       have hz2 := freeAt HZ3.out 2
       have hz3 := freeAt HZ3.out 3
       go_wp2
       try simp only [Exit.inBlock, Exit.then]
       exact rdo_end 6 HZ3.out HB3.out HR3.out (HV.out) rfl rfl
     | true =>
       rcases HFN.out with hmiss | ⟨i, hi, hni, hlow⟩
       · have HV : Hid (DD = (stepF ⟨room, R.map RF.f, plan, false⟩, 6)) := by rw [Hid, HSTEP.out, if_pos (.inr (.inr ⟨by decide, findD_miss hmiss⟩))]
         rw [posR_miss hmiss] at *
         clear hmiss HFN
         obtain ⟨hq0, hq1, hq2, hq3⟩ := cells4 HZ3.out
         have hz0 := freeAt HZ3.out 0
         have hz1 := freeAt HZ3.out 1
         have hz2 := freeAt HZ3.out 2
         have hz3 := freeAt HZ3.out 3
         go_wp2
         try simp only [Exit.inBlock, Exit.then]
         exact rdo_end 6 HZ3.out HB3.out HR3.out (HV.out) rfl rfl
       · have HV : Hid (DD = (⟨room, putF (R.map RF.f) ⟨R[i].f.name, R[i].f.b, R[i].f.b.length⟩, max (plan - 1) 0, false⟩, 0)) := by
           rw [Hid, HSTEP.out]; simp [hnm, findD_hit hi hni hlow, stepF]
         rw [posR_hit hi hni hlow] at *
         obtain ⟨lb, lo, lcc, he, hcap, hlb, hcell⟩ := HR3.out.cells (by omega)
         obtain ⟨rfl, rfl⟩ : la = some ⟨lb, lo, none⟩ ∧ lc = lcc := by cases he; exact ⟨rfl, rfl⟩
         obtain ⟨hc0, hc1, hc2⟩ := hcell i hi
         have hmem : R[i] ∈ R := List.getElem_mem hi
         clear hcell he hni hlow HFN HSTEP HDD
         generalize R[i] = r at *
         go_upto_region 17 with fail
         have HF4 : Hid ((w3.alloc (.cells #[.string r.f.name, .slice r.a r.f.b.length r.c, .int .i64 r.f.d] 120)).heap[w3.heap.size]? = some (.cells #[.string r.f.name, .slice r.a r.f.b.length r.c, .int .i64 r.f.d] 120 (0, 0))) := heap_alloc_new _ _
         have hb4 : Below w3.heap.size w3 (w3.alloc (.cells #[.string r.f.name, .slice r.a r.f.b.length r.c, .int .i64 r.f.d] 120)) := (Below.refl _ _).alloc (Nat.le_refl _) _
         have HR4' : Hid (RLi (w3.alloc (.cells #[.string r.f.name, .slice r.a r.f.b.length r.c, .int .i64 r.f.d] 120)) _ R (fun k => inDo w T k ∧ k < w3.heap.size)) := HR3.out.tight.below hb4
         have HD4 := Lib.hid ((hb4.block _ (lt_of_heap HD3.out)).trans HD3.out)
         have HO4 := Lib.hid ((hb4.block _ (lt_of_heap HO3.out)).trans HO3.out)
         have HZ4 := Lib.hid ((hb4.block _ (lt_of_heap HZ3.out)).trans HZ3.out)
         have HB4 := Lib.hid (HB3.out.trans (hb4.mono HB3.out.size))
         have HR4 := Lib.hid (HR3.out.below hb4)
         clear HD3 HO3 HZ3 HR3
         have HR4 := HR4'
         have HRI : Hid (okR (w3.alloc (.cells #[.string r.f.name, .slice r.a r.f.b.length r.c, .int .i64 r.f.d] 120)) (fun k => inDo w T k ∧ k < w3.heap.size) r) := HR4.out.byt r hmem
         have HW4 : w3.heap.size < (w3.alloc (.cells #[.string r.f.name, .slice r.a r.f.b.length r.c, .int .i64 r.f.d] 120)).heap.size := by rw [World.size_alloc]; omega
         generalize w3.alloc (.cells #[.string r.f.name, .slice r.a r.f.b.length r.c, .int .i64 r.f.d] 120) = w4 at *
         clear hx0 hx1 hx2 hx3 ho0 ho1 ho2 ho3 hc0 hc1 hc2 hb4 HR4'
         obtain ⟨hx0, hx1, hx2, hx3⟩ := cells4 HD4.out
         obtain ⟨ho0, ho1, ho2, ho3⟩ := cells4 HO4.out
         obtain ⟨hy0, hy1, hy2⟩ := cells3 HF4.out
         have hd1 := freeAt HD4.out 1
         have hw1 : w.heap.size + 3 ≤ w3.heap.size := HW3
         have hf2 := freeAt HF4.out 2
         go_upto_region 25 with fail
         have HD5 : Hid ((w4.setCell ⟨w3.heap.size, 2, none⟩ (.int .i64 r.f.b.length)).heap[w.heap.size]? = _) := (Below.heap_setCell _ ⟨w3.heap.size, 2, none⟩ _ _ (by show w.heap.size ≠ w3.heap.size; omega)).trans HD4.out
         have HO5 : Hid ((w4.setCell ⟨w3.heap.size, 2, none⟩ (.int .i64 r.f.b.length)).heap[w.heap.size + 1]? = _) := (Below.heap_setCell _ ⟨w3.heap.size, 2, none⟩ _ _ (by show w.heap.size + 1 ≠ w3.heap.size; omega)).trans HO4.out
         have HZ5 : Hid ((w4.setCell ⟨w3.heap.size, 2, none⟩ (.int .i64 r.f.b.length)).heap[w.heap.size + 1 + 1]? = _) := (Below.heap_setCell _ ⟨w3.heap.size, 2, none⟩ _ _ (by show w.heap.size + 1 + 1 ≠ w3.heap.size; omega)).trans HZ4.out
         have HB5 : Hid (Below w.heap.size w (w4.setCell ⟨w3.heap.size, 2, none⟩ (.int .i64 r.f.b.length))) := HB4.out.setCell (p := ⟨w3.heap.size, 2, none⟩) (by show w.heap.size ≤ w3.heap.size; omega) _
         have HF5 : Hid ((w4.setCell ⟨w3.heap.size, 2, none⟩ (.int .i64 r.f.b.length)).heap[w3.heap.size]? = some (.cells #[.string r.f.name, .slice r.a r.f.b.length r.c, .int .i64 r.f.b.length] 120 (0, 0))) := heap_store HF4.out 2 _
         have HR5 := Lib.hid (HR4.out.frame (w' := (w4.setCell ⟨w3.heap.size, 2, none⟩ (.int .i64 r.f.b.length))) (fun k hk _ => Below.heap_setCell _ ⟨w3.heap.size, 2, none⟩ _ _ (by have h9 := hk.2; intro e; have e2 : k = w3.heap.size := e; omega)))
         have HI5 : Hid (Row (w4.setCell ⟨w3.heap.size, 2, none⟩ (.int .i64 r.f.b.length)) 5 1 (.slice r.a r.f.b.length r.c) r.f.b.length (byts r.f.b) (fun k => inDo w T k ∧ k < w3.heap.size)) := HRI.out.1.frame (fun k hk _ => Below.heap_setCell _ ⟨w3.heap.size, 2, none⟩ _ _ (by have h9 := hk.2; intro e; have e2 : k = w3.heap.size := e; omega))
         have hws : w.heap.size + 3 ≤ (w4.setCell ⟨w3.heap.size, 2, none⟩ (.int .i64 r.f.b.length)).heap.size := by simp [World.setCell]; omega
         generalize (w4.setCell ⟨w3.heap.size, 2, none⟩ (.int .i64 r.f.b.length)) = w5 at *
         clear HD4 HO4 HZ4 HF4 HR4 hx0 hx1 hx2 hx3 ho0 ho1 ho2 ho3 hy0 hy1 hy2 hd1 hf2
         obtain ⟨hx0, hx1, hx2, hx3⟩ := cells4 HD5.out
         obtain ⟨hy0, hy1, hy2⟩ := cells3 HF5.out
         have hd1 := freeAt HD5.out 1
         obtain ⟨TP, hTP⟩ : ∃ TP, TP = (fun k => inDo w T k ∧ k < w3.heap.size) := ⟨_, rfl⟩
         have HTP : ∀ k, TP k → inDo w T k := fun k hk => by rw [hTP] at hk; exact hk.1
         rw [← hTP] at HR5 HI5
         have HRP := HR5
         have HOKP : Hid (okR w5 TP ⟨⟨r.f.name, r.f.b, r.f.b.length⟩, r.a, r.c⟩) := ⟨HI5.out, Nat.le_refl _, HRI.out.2.2⟩
         clear hTP HI5
         go_wp2_with fail
         refine (rput_any _ R TP ⟨⟨r.f.name, r.f.b, r.f.b.length⟩, r.a, r.c⟩ _ HRP.out (by omega) HOKP.out).mono ?_
         rintro e w8 ⟨v8, rfl, hr8, hb8⟩
         obtain ⟨a8, c8, rfl⟩ := slice_form hr8.row
         have hr8' := Lib.hid (hr8.mono (T' := inDo w T) (fun k hk => by rcases hk with hk | hk; exact HTP k hk; exact .inr (by omega)))
         have HR5 := HRP
         have HD8 := Lib.hid ((hb8.block _ (lt_of_heap HD5.out)).trans HD5.out)
         have HO8 := Lib.hid ((hb8.block _ (lt_of_heap HO5.out)).trans HO5.out)
         have HZ8 := Lib.hid ((hb8.block _ (lt_of_heap HZ5.out)).trans HZ5.out)
         have HB8 := Lib.hid (HB5.out.trans (hb8.mono HB5.out.size))
         have HR8 := Lib.hid (HR5.out.below hb8)
         clear HD5 HO5 HZ5 HR5
         clear hx0 hx1 hx2 hx3 hb8 hr8 hd1 HR8
         have hd1 := freeAt HD8.out 1
         obtain ⟨hx0, hx1, hx2, hx3⟩ := cells4 HD8.out
         generalize (putR R ⟨⟨r.f.name, r.f.b, r.f.b.length⟩, r.a, r.c⟩).length = n8 at *
         go_upto_region 32 with fail
         have HD9 : Hid ((w8.setCell ⟨w.heap.size, 1, none⟩ (.slice a8 n8 c8)).heap[w.heap.size]? = some (.cells #[.int .i64 room, (.slice a8 n8 c8), .int .i64 (max (plan - 1) 0), .bool false] 32 (0, 0))) := heap_store HD8.out 1 _
         have HO9 : Hid ((w8.setCell ⟨w.heap.size, 1, none⟩ (.slice a8 n8 c8)).heap[w.heap.size + 1]? = _) := (Below.heap_setCell _ ⟨w.heap.size, 1, none⟩ _ _ (by show w.heap.size + 1 ≠ w.heap.size; omega)).trans HO8.out
         have HZ9 : Hid ((w8.setCell ⟨w.heap.size, 1, none⟩ (.slice a8 n8 c8)).heap[w.heap.size + 1 + 1]? = _) := (Below.heap_setCell _ ⟨w.heap.size, 1, none⟩ _ _ (by show w.heap.size + 1 + 1 ≠ w.heap.size; omega)).trans HZ8.out
         have HB9 : Hid (Below w.heap.size w (w8.setCell ⟨w.heap.size, 1, none⟩ (.slice a8 n8 c8))) := HB8.out.setCell (p := ⟨w.heap.size, 1, none⟩) (Nat.le_refl _) _
         have HR9 : Hid (RLi (w8.setCell ⟨w.heap.size, 1, none⟩ (.slice a8 n8 c8)) (.slice a8 n8 c8) (putR R ⟨⟨r.f.name, r.f.b, r.f.b.length⟩, r.a, r.c⟩) (inDo w T)) := hr8'.out.store (p := ⟨w.heap.size, 1, none⟩) hnod _
         generalize (w8.setCell ⟨w.heap.size, 1, none⟩ (.slice a8 n8 c8)) = w9 at *
         clear hx0 hx1 hx2 hx3 hd1
         obtain ⟨hx0, hx1, hx2, hx3⟩ := cells4 HD9.out
         obtain ⟨hq0, hq1, hq2, hq3⟩ := cells4 HZ9.out
         have hz0 := freeAt HZ9.out 0
         have hz1 := freeAt HZ9.out 1
         have hz2 := freeAt HZ9.out 2
         have hz3 := freeAt HZ9.out 3
         go_wp2
         try simp only [Exit.inBlock, Exit.then]
         exact rdo_end 0 HZ9.out HB9.out HR9.out (by rw [HV.out, putR_f]) rfl rfl
set_option maxHeartbeats 4000000 in
theorem rdo4_any (room plan : Int) (down : Bool) (v : Value) (R : List RF) (T : Nat → Prop) (name tgt : ByteArray) (b : List UInt8) (ba : Option Addr) (bc : Nat) (w : World) (h : RLi w v R T) (hL : R.length ≤ 5000) (hp : 0 ≤ plan ∧ plan ≤ 9223372036854775807)
   (hn : name.size ≤ 100000) (hto : tgt.size ≤ 100000) (hb : Reads w (.slice ba b.length bc) b.length 1 (byts b)) (hs : sumR R + b.length ≤ 1000000000) :
   Calls Tryz.prog 64 #[rdisk room v plan down, .agg #[.int .i64 4, .string name, .string tgt, .slice ba b.length bc]] w (RPost w T (doF 4 ⟨room, R.map RF.f, plan, down⟩ name tgt b)) := by
 obtain ⟨la, lc, rfl⟩ := slice_form h.row
 have HRB := Lib.hid hb
 have h3 := heap3 w (.cells #[.int .i64 room, .slice la R.length lc, .int .i64 plan, .bool down] 32) (.cells #[.int .i64 4, .string name, .string tgt, .slice ba b.length bc] 112) (.cells #[.int .i64 0, .slice none 0 0, .int .i64 0, .bool false] 32)
 have hb3 := below3 w (.cells #[.int .i64 room, .slice la R.length lc, .int .i64 plan, .bool down] 32) (.cells #[.int .i64 4, .string name, .string tgt, .slice ba b.length bc] 112) (.cells #[.int .i64 0, .slice none 0 0, .int .i64 0, .bool false] 32)
 have HD1 : Hid ((((w.alloc (.cells #[.int .i64 room, .slice la R.length lc, .int .i64 plan, .bool down] 32)).alloc (.cells #[.int .i64 4, .string name, .string tgt, .slice ba b.length bc] 112)).alloc (.cells #[.int .i64 0, .slice none 0 0, .int .i64 0, .bool false] 32)).heap[w.heap.size]? = some (.cells #[.int .i64 room, .slice la R.length lc, .int .i64 plan, .bool down] 32 (0, 0))) := h3.1.trans (heap_alloc_new _ _)
 have HO1 : Hid ((((w.alloc (.cells #[.int .i64 room, .slice la R.length lc, .int .i64 plan, .bool down] 32)).alloc (.cells #[.int .i64 4, .string name, .string tgt, .slice ba b.length bc] 112)).alloc (.cells #[.int .i64 0, .slice none 0 0, .int .i64 0, .bool false] 32)).heap[w.heap.size + 1]? = some (.cells #[.int .i64 4, .string name, .string tgt, .slice ba b.length bc] 112 (0, 0))) := h3.2.1.trans (heap_alloc_new _ _)
 have HZ1 : Hid ((((w.alloc (.cells #[.int .i64 room, .slice la R.length lc, .int .i64 plan, .bool down] 32)).alloc (.cells #[.int .i64 4, .string name, .string tgt, .slice ba b.length bc] 112)).alloc (.cells #[.int .i64 0, .slice none 0 0, .int .i64 0, .bool false] 32)).heap[w.heap.size + 1 + 1]? = some (.cells #[.int .i64 0, .slice none 0 0, .int .i64 0, .bool false] 32 (0, 0))) := h3.2.2.trans (heap_alloc_new _ _)
 have HB1 := Lib.hid hb3.1
 have HSZ := Lib.hid hb3.2
 have HR1 := Lib.hid ((h.tight.below hb3.1).mono (T' := inDo w T) (fun k hk => .inl hk))
 obtain ⟨DD, hDD⟩ : ∃ DD, DD = doF 4 ⟨room, R.map RF.f, plan, down⟩ name tgt b := ⟨_, rfl⟩
 rw [← hDD]
 have HDD := Lib.hid hDD
 have hnod : ¬ inDo w T w.heap.size := by rintro (h | h) <;> omega
 clear h hb h3 hb3 hDD
 go_enter Tryz.func64, Tryz.ntmps64
 go_upto_region 1 with fail
 generalize (((w.alloc (.cells #[.int .i64 room, .slice la R.length lc, .int .i64 plan, .bool down] 32)).alloc (.cells #[.int .i64 4, .string name, .string tgt, .slice ba b.length bc] 112)).alloc (.cells #[.int .i64 0, .slice none 0 0, .int .i64 0, .bool false] 32)) = wd at *
 obtain ⟨hx0, hx1, hx2, hx3⟩ := cells4 HD1.out
 cases down with
 | true =>
   obtain ⟨hq0, hq1, hq2, hq3⟩ := cells4 HZ1.out
   have hz0 := freeAt HZ1.out 0
   have hz1 := freeAt HZ1.out 1
   have hz2 := freeAt HZ1.out 2
   have hz3 := freeAt HZ1.out 3
   go_wp2
   try simp only [Exit.inBlock, Exit.then]
   exact rdo_end 10 HZ1.out HB1.out HR1.out (by rw [HDD.out]; simp [doF]) rfl rfl
 | false =>
   have hd2 := freeAt HD1.out 2
   have hd3 := freeAt HD1.out 3
   by_cases hp1 : plan = 1
   · subst hp1
     go_upto_region 6 with fail
     have HD2 : Hid (((wd.setCell ⟨w.heap.size, 2, none⟩ (.int .i64 0)).setCell ⟨w.heap.size, 3, none⟩ (.bool true)).heap[w.heap.size]? = some (.cells #[.int .i64 room, .slice la R.length lc, .int .i64 0, .bool true] 32 (0, 0))) := (heap_store (heap_store HD1.out 2 (.int .i64 0)) 3 (.bool true))
     have HO2 : Hid (((wd.setCell ⟨w.heap.size, 2, none⟩ (.int .i64 0)).setCell ⟨w.heap.size, 3, none⟩ (.bool true)).heap[w.heap.size + 1]? = _) := ((Below.heap_setCell _ ⟨w.heap.size, 3, none⟩ _ _ (by show w.heap.size + 1 ≠ w.heap.size; omega)).trans ((Below.heap_setCell _ ⟨w.heap.size, 2, none⟩ _ _ (by show w.heap.size + 1 ≠ w.heap.size; omega)).trans HO1.out))
     have HZ2 : Hid (((wd.setCell ⟨w.heap.size, 2, none⟩ (.int .i64 0)).setCell ⟨w.heap.size, 3, none⟩ (.bool true)).heap[w.heap.size + 1 + 1]? = _) := ((Below.heap_setCell _ ⟨w.heap.size, 3, none⟩ _ _ (by show w.heap.size + 1 + 1 ≠ w.heap.size; omega)).trans ((Below.heap_setCell _ ⟨w.heap.size, 2, none⟩ _ _ (by show w.heap.size + 1 + 1 ≠ w.heap.size; omega)).trans HZ1.out))
     have HB2 : Hid (Below w.heap.size w ((wd.setCell ⟨w.heap.size, 2, none⟩ (.int .i64 0)).setCell ⟨w.heap.size, 3, none⟩ (.bool true))) := ((HB1.out.setCell (p := ⟨w.heap.size, 2, none⟩) (Nat.le_refl _) _).setCell (p := ⟨w.heap.size, 3, none⟩) (Nat.le_refl _) _)
     have HR2 : Hid (RLi ((wd.setCell ⟨w.heap.size, 2, none⟩ (.int .i64 0)).setCell ⟨w.heap.size, 3, none⟩ (.bool true)) (.slice la R.length lc) R (inDo w T)) := ((HR1.out.store (p := ⟨w.heap.size, 2, none⟩) hnod _).store (p := ⟨w.heap.size, 3, none⟩) hnod _)
     clear HD1 HO1 HZ1 HR1
     generalize ((wd.setCell ⟨w.heap.size, 2, none⟩ (.int .i64 0)).setCell ⟨w.heap.size, 3, none⟩ (.bool true)) = wp at *
     clear hx0 hx1 hx2 hx3 hd2 hd3
     obtain ⟨hx0, hx1, hx2, hx3⟩ := cells4 HD2.out
     obtain ⟨hq0, hq1, hq2, hq3⟩ := cells4 HZ2.out
     have hz0 := freeAt HZ2.out 0
     have hz1 := freeAt HZ2.out 1
     have hz2 := freeAt HZ2.out 2
     have hz3 := freeAt HZ2.out 3
     go_wp2
     try simp only [Exit.inBlock, Exit.then]
     exact rdo_end 10 HZ2.out HB2.out HR2.out (by rw [HDD.out]; simp [doF]) rfl rfl
   · have hpb : (plan == 1) = false := by simp [hp1]
     have hwr : IntKind.i64.wrap (plan - 1) = plan - 1 := IntWalk.i64_in _ (by omega)
     have HSTEP : Hid (DD = if namedB name = false ∨ (4 = 4 ∧ namedB tgt = false) ∨ (4 ≠ 1 ∧ findD (R.map RF.f) name = none) then (stepF ⟨room, R.map RF.f, plan, false⟩, (6 : Int))
         else if 4 = 1 then (if (findD (R.map RF.f) name).isSome then (stepF ⟨room, R.map RF.f, plan, false⟩, 7) else ({ stepF ⟨room, R.map RF.f, plan, false⟩ with files := putF (R.map RF.f) ⟨name, [], 0⟩ }, 0))
         else match findD (R.map RF.f) name with
         | none => (stepF ⟨room, R.map RF.f, plan, false⟩, 6)
         | some f =>
           if 4 = 2 then (if room < sumD (R.map RF.f) + b.length then (stepF ⟨room, R.map RF.f, plan, false⟩, 5) else ({ stepF ⟨room, R.map RF.f, plan, false⟩ with files := putF (R.map RF.f) ⟨f.name, f.b ++ b, f.d⟩ }, 0))
           else if 4 = 3 then ({ stepF ⟨room, R.map RF.f, plan, false⟩ with files := putF (R.map RF.f) ⟨f.name, f.b, f.b.length⟩ }, 0)
           else if 4 = 4 then ({ stepF ⟨room, R.map RF.f, plan, false⟩ with files := putF (outF (R.map RF.f) name) ⟨tgt, f.b, f.d⟩ }, 0)
           else ({ stepF ⟨room, R.map RF.f, plan, false⟩ with files := outF (R.map RF.f) name }, 0)) := by
       rw [Hid, HDD.out, doF, if_neg (by simp), if_neg hp1]; rfl
     go_upto_region 8 with fail
     have HD2 : Hid ((wd.setCell ⟨w.heap.size, 2, none⟩ (.int .i64 (max (plan - 1) 0))).heap[w.heap.size]? = some (.cells #[.int .i64 room, .slice la R.length lc, .int .i64 (max (plan - 1) 0), .bool false] 32 (0, 0))) := (heap_store HD1.out 2 (.int .i64 (max (plan - 1) 0)))
     have HO2 : Hid ((wd.setCell ⟨w.heap.size, 2, none⟩ (.int .i64 (max (plan - 1) 0))).heap[w.heap.size + 1]? = _) := ((Below.heap_setCell _ ⟨w.heap.size, 2, none⟩ _ _ (by show w.heap.size + 1 ≠ w.heap.size; omega)).trans HO1.out)
     have HZ2 : Hid ((wd.setCell ⟨w.heap.size, 2, none⟩ (.int .i64 (max (plan - 1) 0))).heap[w.heap.size + 1 + 1]? = _) := ((Below.heap_setCell _ ⟨w.heap.size, 2, none⟩ _ _ (by show w.heap.size + 1 + 1 ≠ w.heap.size; omega)).trans HZ1.out)
     have HB2 : Hid (Below w.heap.size w (wd.setCell ⟨w.heap.size, 2, none⟩ (.int .i64 (max (plan - 1) 0)))) := (HB1.out.setCell (p := ⟨w.heap.size, 2, none⟩) (Nat.le_refl _) _)
     have HR2 : Hid (RLi (wd.setCell ⟨w.heap.size, 2, none⟩ (.int .i64 (max (plan - 1) 0))) (.slice la R.length lc) R (inDo w T)) := (HR1.out.store (p := ⟨w.heap.size, 2, none⟩) hnod _)
     clear HD1 HO1 HZ1 HR1
     have hwp : w.heap.size + 3 ≤ (wd.setCell ⟨w.heap.size, 2, none⟩ (.int .i64 (max (plan - 1) 0))).heap.size := by rw [← HSZ.out]; simp [World.setCell]
     generalize (wd.setCell ⟨w.heap.size, 2, none⟩ (.int .i64 (max (plan - 1) 0))) = wp at *
     clear hx0 hx1 hx2 hx3 hd2 hd3
     obtain ⟨hx0, hx1, hx2, hx3⟩ := cells4 HD2.out
     obtain ⟨ho0, ho1, ho2, ho3⟩ := cells4 HO2.out
     have HST : Hid (∀ (c : Int), (stepF ⟨room, R.map RF.f, plan, false⟩, c) = ((⟨room, R.map RF.f, max (plan - 1) 0, false⟩ : DS), c)) := fun c => rfl
     go_wp2_with fail
     refine (rfind_any room (max (plan - 1) 0) false _ R _ name _ HR2.out (by omega)).mono ?_
     rintro e w3 ⟨rfl, hb3⟩
     have HD3 := Lib.hid ((hb3.block _ (lt_of_heap HD2.out)).trans HD2.out)
     have HO3 := Lib.hid ((hb3.block _ (lt_of_heap HO2.out)).trans HO2.out)
     have HZ3 := Lib.hid ((hb3.block _ (lt_of_heap HZ2.out)).trans HZ2.out)
     have HB3 := Lib.hid (HB2.out.trans (hb3.mono HB2.out.size))
     have HR3 := Lib.hid (HR2.out.below hb3)
     clear HD2 HO2 HZ2 HR2
     have HW3 := Nat.le_trans hwp hb3.size
     clear hx0 hx1 hx2 hx3 ho0 ho1 ho2 ho3 hb3
     obtain ⟨hx0, hx1, hx2, hx3⟩ := cells4 HD3.out
     obtain ⟨ho0, ho1, ho2, ho3⟩ := cells4 HO3.out
     have HFN := Lib.hid (first_name R name)
     go_wp2_with fail
     refine (rnamed_any name _ hn).mono ?_
     rintro e w4 ⟨rfl, hw4⟩
     obtain rfl := hw4.symm
     cases hnm : namedB name with
     | false =>
       have HV : Hid (DD = (stepF ⟨room, R.map RF.f, plan, false⟩, 6)) := by rw [Hid, HSTEP.out, if_pos (.inl hnm)]
       obtain ⟨hq0, hq1, hq2, hq3⟩ := cells4 HZ3.out
       have hz0 := freeAt HZ3.out 0
       have hz1 := freeAt HZ3.out 1
       have hz2 := freeAt HZ3.out 2
       have hz3 := freeAt HZ3.out 3
       go_wp2
       try simp only [Exit.inBlock, Exit.then]
       exact rdo_end 6 HZ3.out HB3.out HR3.out (HV.out) rfl rfl
     | true =>
       go_wp2_with fail
       refine (rnamed_any tgt _ hto).mono ?_
       rintro e w4 ⟨rfl, hw4⟩
       obtain rfl := hw4.symm
       cases hnt : namedB tgt with
       | false =>
         have HV : Hid (DD = (stepF ⟨room, R.map RF.f, plan, false⟩, 6)) := by rw [Hid, HSTEP.out, if_pos (.inr (.inl ⟨by decide, hnt⟩))]
         obtain ⟨hq0, hq1, hq2, hq3⟩ := cells4 HZ3.out
         have hz0 := freeAt HZ3.out 0
         have hz1 := freeAt HZ3.out 1
         have hz2 := freeAt HZ3.out 2
         have hz3 := freeAt HZ3.out 3
         go_wp2
         try simp only [Exit.inBlock, Exit.then]
         exact rdo_end 6 HZ3.out HB3.out HR3.out (HV.out) rfl rfl
       | true =>
         rcases HFN.out with hmiss | ⟨i, hi, hni, hlow⟩
         · have HV : Hid (DD = (stepF ⟨room, R.map RF.f, plan, false⟩, 6)) := by rw [Hid, HSTEP.out, if_pos (.inr (.inr ⟨by decide, findD_miss hmiss⟩))]
           rw [posR_miss hmiss] at *
           clear hmiss HFN
           obtain ⟨hq0, hq1, hq2, hq3⟩ := cells4 HZ3.out
           have hz0 := freeAt HZ3.out 0
           have hz1 := freeAt HZ3.out 1
           have hz2 := freeAt HZ3.out 2
           have hz3 := freeAt HZ3.out 3
           go_wp2
           try simp only [Exit.inBlock, Exit.then]
           exact rdo_end 6 HZ3.out HB3.out HR3.out (HV.out) rfl rfl
         · have HV : Hid (DD = (⟨room, putF (outF (R.map RF.f) name) ⟨tgt, R[i].f.b, R[i].f.d⟩, max (plan - 1) 0, false⟩, 0)) := by
             rw [Hid, HSTEP.out]; simp [hnm, hnt, findD_hit hi hni hlow, stepF]
           rw [posR_hit hi hni hlow] at *
           obtain ⟨lb, lo, lcc, he, hcap, hlb, hcell⟩ := HR3.out.cells (by omega)
           obtain ⟨rfl, rfl⟩ : la = some ⟨lb, lo, none⟩ ∧ lc = lcc := by cases he; exact ⟨rfl, rfl⟩
           obtain ⟨hc0, hc1, hc2⟩ := hcell i hi
           have hmem : R[i] ∈ R := List.getElem_mem hi
           clear hcell he hni hlow HFN HSTEP HDD
           generalize R[i] = r at *
           go_upto_region 17 with fail
           have HF4 : Hid ((w3.alloc (.cells #[.string r.f.name, .slice r.a r.f.b.length r.c, .int .i64 r.f.d] 120)).heap[w3.heap.size]? = some (.cells #[.string r.f.name, .slice r.a r.f.b.length r.c, .int .i64 r.f.d] 120 (0, 0))) := heap_alloc_new _ _
           have hb4 : Below w3.heap.size w3 (w3.alloc (.cells #[.string r.f.name, .slice r.a r.f.b.length r.c, .int .i64 r.f.d] 120)) := (Below.refl _ _).alloc (Nat.le_refl _) _
           have HR4' : Hid (RLi (w3.alloc (.cells #[.string r.f.name, .slice r.a r.f.b.length r.c, .int .i64 r.f.d] 120)) _ R (fun k => inDo w T k ∧ k < w3.heap.size)) := HR3.out.tight.below hb4
           have HD4 := Lib.hid ((hb4.block _ (lt_of_heap HD3.out)).trans HD3.out)
           have HO4 := Lib.hid ((hb4.block _ (lt_of_heap HO3.out)).trans HO3.out)
           have HZ4 := Lib.hid ((hb4.block _ (lt_of_heap HZ3.out)).trans HZ3.out)
           have HB4 := Lib.hid (HB3.out.trans (hb4.mono HB3.out.size))
           have HR4 := Lib.hid (HR3.out.below hb4)
           clear HD3 HO3 HZ3 HR3
           have HR4 := HR4'
           have HRI : Hid (okR (w3.alloc (.cells #[.string r.f.name, .slice r.a r.f.b.length r.c, .int .i64 r.f.d] 120)) (fun k => inDo w T k ∧ k < w3.heap.size) r) := HR4.out.byt r hmem
           have HW4 : w3.heap.size < (w3.alloc (.cells #[.string r.f.name, .slice r.a r.f.b.length r.c, .int .i64 r.f.d] 120)).heap.size := by rw [World.size_alloc]; omega
           generalize w3.alloc (.cells #[.string r.f.name, .slice r.a r.f.b.length r.c, .int .i64 r.f.d] 120) = w4 at *
           clear hx0 hx1 hx2 hx3 ho0 ho1 ho2 ho3 hc0 hc1 hc2 hb4 HR4'
           obtain ⟨hx0, hx1, hx2, hx3⟩ := cells4 HD4.out
           obtain ⟨ho0, ho1, ho2, ho3⟩ := cells4 HO4.out
           obtain ⟨hy0, hy1, hy2⟩ := cells3 HF4.out
           have hd1 := freeAt HD4.out 1
           have hw1 : w.heap.size + 3 ≤ w3.heap.size := HW3
           go_wp2_with fail
           refine (rwithout_any _ R (fun k => inDo w T k ∧ k < w3.heap.size) name _ HR4.out (by omega)).mono ?_
           rintro e w5 ⟨v5, rfl, hr5, hb5⟩
           obtain ⟨a5, c5, rfl⟩ := slice_form hr5.row
           have HF5 := Lib.hid ((hb5.block _ (lt_of_heap HF4.out)).trans HF4.out)
           have HS5 : Hid (RLi w5 (.slice a5 (outR R name).length c5) (outR R name) (fun k => inDo w T k ∧ k ≠ w3.heap.size)) := hr5.mono (fun k hk => by rcases hk with hk | hk; exact ⟨hk.1, by have := hk.2; omega⟩; exact ⟨.inr (by omega), by omega⟩)
           have HI5 : Hid (Row w5 5 1 (.slice r.a r.f.b.length r.c) r.f.b.length (byts r.f.b) (fun k => inDo w T k ∧ k ≠ w3.heap.size)) := (HRI.out.1.frame (fun k _ hk => hb5.block k hk)).mono (fun k hk => ⟨hk.1, by have := hk.2; omega⟩)
           have hw5 := Nat.le_trans (Nat.le_trans HW3 (Nat.le_of_lt HW4)) hb5.size
           have HD5 := Lib.hid ((hb5.block _ (lt_of_heap HD4.out)).trans HD4.out)
           have HO5 := Lib.hid ((hb5.block _ (lt_of_heap HO4.out)).trans HO4.out)
           have HZ5 := Lib.hid ((hb5.block _ (lt_of_heap HZ4.out)).trans HZ4.out)
           have HB5 := Lib.hid (HB4.out.trans (hb5.mono HB4.out.size))
           have HR5 := Lib.hid (HR4.out.below hb5)
           clear HD4 HO4 HZ4 HR4
           clear hx0 hx1 hx2 hx3 ho0 ho1 ho2 ho3 hb5 hr5 hd1 HR5 hy0 hy1 hy2 HF4
           have hd1 := freeAt HD5.out 1
           obtain ⟨hx0, hx1, hx2, hx3⟩ := cells4 HD5.out
           have hle5 := outR_len R name
           have HLEN : Hid ((outR R name).length ≤ 5000) := show _ ≤ _ by omega
           clear hle5
           obtain ⟨RO, hRO⟩ : ∃ RO, RO = outR R name := ⟨_, rfl⟩
           have HRO := Lib.hid hRO
           rw [← hRO] at HS5 HLEN
           clear hRO
           obtain ⟨n5, hn5⟩ : ∃ n5, n5 = RO.length := ⟨_, rfl⟩
           rw [← hn5] at HS5
           have HN5 := Lib.hid hn5
           have hlen5 := HLEN.out
           rw [← HRO.out, ← HN5.out]
           clear hn5
           go_upto_region 28 with fail
           have HD6 : Hid ((w5.setCell ⟨w.heap.size, 1, none⟩ (.slice a5 n5 c5)).heap[w.heap.size]? = some (.cells #[.int .i64 room, .slice a5 n5 c5, .int .i64 (max (plan - 1) 0), .bool false] 32 (0, 0))) := heap_store HD5.out 1 _
           have HO6 : Hid ((w5.setCell ⟨w.heap.size, 1, none⟩ (.slice a5 n5 c5)).heap[w.heap.size + 1]? = _) := (Below.heap_setCell _ ⟨w.heap.size, 1, none⟩ _ _ (by show w.heap.size + 1 ≠ w.heap.size; omega)).trans HO5.out
           have HZ6 : Hid ((w5.setCell ⟨w.heap.size, 1, none⟩ (.slice a5 n5 c5)).heap[w.heap.size + 1 + 1]? = _) := (Below.heap_setCell _ ⟨w.heap.size, 1, none⟩ _ _ (by show w.heap.size + 1 + 1 ≠ w.heap.size; omega)).trans HZ5.out
           have HF6 : Hid ((w5.setCell ⟨w.heap.size, 1, none⟩ (.slice a5 n5 c5)).heap[w3.heap.size]? = _) := (Below.heap_setCell _ ⟨w.heap.size, 1, none⟩ _ _ (by show w3.heap.size ≠ w.heap.size; omega)).trans HF5.out
           have HB6 : Hid (Below w.heap.size w (w5.setCell ⟨w.heap.size, 1, none⟩ (.slice a5 n5 c5))) := HB5.out.setCell (p := ⟨w.heap.size, 1, none⟩) (Nat.le_refl _) _
           have HS6 := Lib.hid (HS5.out.frame (w' := (w5.setCell ⟨w.heap.size, 1, none⟩ (.slice a5 n5 c5))) (fun k hk _ => Below.heap_setCell _ ⟨w.heap.size, 1, none⟩ _ _ (by intro e; have e2 : k = w.heap.size := e; rw [e2] at hk; exact hnod hk.1)))
           have HI6 := Lib.hid (HI5.out.frame (w' := (w5.setCell ⟨w.heap.size, 1, none⟩ (.slice a5 n5 c5))) (fun k hk _ => Below.heap_setCell _ ⟨w.heap.size, 1, none⟩ _ _ (by intro e; have e2 : k = w.heap.size := e; rw [e2] at hk; exact hnod hk.1)))
           have hw6 : w.heap.size + 3 ≤ (w5.setCell ⟨w.heap.size, 1, none⟩ (.slice a5 n5 c5)).heap.size := by simp [World.setCell]; omega
           generalize (w5.setCell ⟨w.heap.size, 1, none⟩ (.slice a5 n5 c5)) = w6 at *
           clear HD5 HO5 HZ5 HF5 HS5 HI5 hx0 hx1 hx2 hx3 hd1
           obtain ⟨hx0, hx1, hx2, hx3⟩ := cells4 HD6.out
           obtain ⟨ho0, ho1, ho2, ho3⟩ := cells4 HO6.out
           obtain ⟨hy0, hy1, hy2⟩ := cells3 HF6.out
           have hf0 := freeAt HF6.out 0
           go_upto_region 29 with fail
           have HD7 : Hid ((w6.setCell ⟨w3.heap.size, 0, none⟩ (.string tgt)).heap[w.heap.size]? = _) := (Below.heap_setCell _ ⟨w3.heap.size, 0, none⟩ _ _ (by show w.heap.size ≠ w3.heap.size; omega)).trans HD6.out
           have HO7 : Hid ((w6.setCell ⟨w3.heap.size, 0, none⟩ (.string tgt)).heap[w.heap.size + 1]? = _) := (Below.heap_setCell _ ⟨w3.heap.size, 0, none⟩ _ _ (by show w.heap.size + 1 ≠ w3.heap.size; omega)).trans HO6.out
           have HZ7 : Hid ((w6.setCell ⟨w3.heap.size, 0, none⟩ (.string tgt)).heap[w.heap.size + 1 + 1]? = _) := (Below.heap_setCell _ ⟨w3.heap.size, 0, none⟩ _ _ (by show w.heap.size + 1 + 1 ≠ w3.heap.size; omega)).trans HZ6.out
           have HB7 : Hid (Below w.heap.size w (w6.setCell ⟨w3.heap.size, 0, none⟩ (.string tgt))) := HB6.out.setCell (p := ⟨w3.heap.size, 0, none⟩) (by show w.heap.size ≤ w3.heap.size; omega) _
           have HF7 : Hid ((w6.setCell ⟨w3.heap.size, 0, none⟩ (.string tgt)).heap[w3.heap.size]? = some (.cells #[.string tgt, .slice r.a r.f.b.length r.c, .int .i64 r.f.d] 120 (0, 0))) := heap_store HF6.out 0 _
           have HS7 := Lib.hid (HS6.out.frame (w' := (w6.setCell ⟨w3.heap.size, 0, none⟩ (.string tgt))) (fun k hk _ => Below.heap_setCell _ ⟨w3.heap.size, 0, none⟩ _ _ hk.2))
           have HI7 := Lib.hid (HI6.out.frame (w' := (w6.setCell ⟨w3.heap.size, 0, none⟩ (.string tgt))) (fun k hk _ => Below.heap_setCell _ ⟨w3.heap.size, 0, none⟩ _ _ hk.2))
           have hws : w.heap.size + 3 ≤ (w6.setCell ⟨w3.heap.size, 0, none⟩ (.string tgt)).heap.size := by simp [World.setCell]; omega
           generalize (w6.setCell ⟨w3.heap.size, 0, none⟩ (.string tgt)) = w7 at *
           clear HD6 HO6 HZ6 HF6 HS6 HI6 hx0 hx1 hx2 hx3 ho0 ho1 ho2 ho3 hy0 hy1 hy2 hf0
           obtain ⟨hx0, hx1, hx2, hx3⟩ := cells4 HD7.out
           obtain ⟨hy0, hy1, hy2⟩ := cells3 HF7.out
           have hd1 := freeAt HD7.out 1
           obtain ⟨TP, hTP⟩ : ∃ TP, TP = (fun k => inDo w T k ∧ k ≠ w3.heap.size) := ⟨_, rfl⟩
           have HTP : ∀ k, TP k → inDo w T k := fun k hk => by rw [hTP] at hk; exact hk.1
           rw [← hTP] at HS7 HI7
           have HRP : Hid (RLi w7 (.slice a5 n5 c5) RO TP) := HS7
           have HOKP : Hid (okR w7 TP ⟨⟨tgt, r.f.b, r.f.d⟩, r.a, r.c⟩) := ⟨HI7.out, HRI.out.2.1, HRI.out.2.2⟩
           clear hTP HI7 HS7
           go_wp2_with fail
           refine (rput_any _ RO TP ⟨⟨tgt, r.f.b, r.f.d⟩, r.a, r.c⟩ _ HRP.out (by omega) HOKP.out).mono ?_
           rintro e w8 ⟨v8, rfl, hr8, hb8⟩
           obtain ⟨a8, c8, rfl⟩ := slice_form hr8.row
           have hr8' := Lib.hid (hr8.mono (T' := inDo w T) (fun k hk => by rcases hk with hk | hk; exact HTP k hk; exact .inr (by omega)))
           have HR7 := HRP
           have HD8 := Lib.hid ((hb8.block _ (lt_of_heap HD7.out)).trans HD7.out)
           have HO8 := Lib.hid ((hb8.block _ (lt_of_heap HO7.out)).trans HO7.out)
           have HZ8 := Lib.hid ((hb8.block _ (lt_of_heap HZ7.out)).trans HZ7.out)
           have HB8 := Lib.hid (HB7.out.trans (hb8.mono HB7.out.size))
           have HR8 := Lib.hid (HR7.out.below hb8)
           clear HD7 HO7 HZ7 HR7
           clear hx0 hx1 hx2 hx3 hb8 hr8 hd1 HR8
           have hd1 := freeAt HD8.out 1
           obtain ⟨hx0, hx1, hx2, hx3⟩ := cells4 HD8.out
           generalize (putR RO ⟨⟨tgt, r.f.b, r.f.d⟩, r.a, r.c⟩).length = n8 at *
           go_upto_region 32 with fail
           have HD9 : Hid ((w8.setCell ⟨w.heap.size, 1, none⟩ (.slice a8 n8 c8)).heap[w.heap.size]? = some (.cells #[.int .i64 room, (.slice a8 n8 c8), .int .i64 (max (plan - 1) 0), .bool false] 32 (0, 0))) := heap_store HD8.out 1 _
           have HO9 : Hid ((w8.setCell ⟨w.heap.size, 1, none⟩ (.slice a8 n8 c8)).heap[w.heap.size + 1]? = _) := (Below.heap_setCell _ ⟨w.heap.size, 1, none⟩ _ _ (by show w.heap.size + 1 ≠ w.heap.size; omega)).trans HO8.out
           have HZ9 : Hid ((w8.setCell ⟨w.heap.size, 1, none⟩ (.slice a8 n8 c8)).heap[w.heap.size + 1 + 1]? = _) := (Below.heap_setCell _ ⟨w.heap.size, 1, none⟩ _ _ (by show w.heap.size + 1 + 1 ≠ w.heap.size; omega)).trans HZ8.out
           have HB9 : Hid (Below w.heap.size w (w8.setCell ⟨w.heap.size, 1, none⟩ (.slice a8 n8 c8))) := HB8.out.setCell (p := ⟨w.heap.size, 1, none⟩) (Nat.le_refl _) _
           have HR9 : Hid (RLi (w8.setCell ⟨w.heap.size, 1, none⟩ (.slice a8 n8 c8)) (.slice a8 n8 c8) (putR RO ⟨⟨tgt, r.f.b, r.f.d⟩, r.a, r.c⟩) (inDo w T)) := hr8'.out.store (p := ⟨w.heap.size, 1, none⟩) hnod _
           generalize (w8.setCell ⟨w.heap.size, 1, none⟩ (.slice a8 n8 c8)) = w9 at *
           clear hx0 hx1 hx2 hx3 hd1
           obtain ⟨hx0, hx1, hx2, hx3⟩ := cells4 HD9.out
           obtain ⟨hq0, hq1, hq2, hq3⟩ := cells4 HZ9.out
           have hz0 := freeAt HZ9.out 0
           have hz1 := freeAt HZ9.out 1
           have hz2 := freeAt HZ9.out 2
           have hz3 := freeAt HZ9.out 3
           go_wp2
           try simp only [Exit.inBlock, Exit.then]
           exact rdo_end 0 HZ9.out HB9.out HR9.out (by rw [HV.out, putR_f, HRO.out, outR_f]) rfl rfl
set_option maxHeartbeats 4000000 in
theorem rdo5_any (room plan : Int) (down : Bool) (v : Value) (R : List RF) (T : Nat → Prop) (name tgt : ByteArray) (b : List UInt8) (ba : Option Addr) (bc : Nat) (w : World) (h : RLi w v R T) (hL : R.length ≤ 5000) (hp : 0 ≤ plan ∧ plan ≤ 9223372036854775807)
   (hn : name.size ≤ 100000) (hto : tgt.size ≤ 100000) (hb : Reads w (.slice ba b.length bc) b.length 1 (byts b)) (hs : sumR R + b.length ≤ 1000000000) :
   Calls Tryz.prog 64 #[rdisk room v plan down, .agg #[.int .i64 5, .string name, .string tgt, .slice ba b.length bc]] w (RPost w T (doF 5 ⟨room, R.map RF.f, plan, down⟩ name tgt b)) := by
 obtain ⟨la, lc, rfl⟩ := slice_form h.row
 have HRB := Lib.hid hb
 have h3 := heap3 w (.cells #[.int .i64 room, .slice la R.length lc, .int .i64 plan, .bool down] 32) (.cells #[.int .i64 5, .string name, .string tgt, .slice ba b.length bc] 112) (.cells #[.int .i64 0, .slice none 0 0, .int .i64 0, .bool false] 32)
 have hb3 := below3 w (.cells #[.int .i64 room, .slice la R.length lc, .int .i64 plan, .bool down] 32) (.cells #[.int .i64 5, .string name, .string tgt, .slice ba b.length bc] 112) (.cells #[.int .i64 0, .slice none 0 0, .int .i64 0, .bool false] 32)
 have HD1 : Hid ((((w.alloc (.cells #[.int .i64 room, .slice la R.length lc, .int .i64 plan, .bool down] 32)).alloc (.cells #[.int .i64 5, .string name, .string tgt, .slice ba b.length bc] 112)).alloc (.cells #[.int .i64 0, .slice none 0 0, .int .i64 0, .bool false] 32)).heap[w.heap.size]? = some (.cells #[.int .i64 room, .slice la R.length lc, .int .i64 plan, .bool down] 32 (0, 0))) := h3.1.trans (heap_alloc_new _ _)
 have HO1 : Hid ((((w.alloc (.cells #[.int .i64 room, .slice la R.length lc, .int .i64 plan, .bool down] 32)).alloc (.cells #[.int .i64 5, .string name, .string tgt, .slice ba b.length bc] 112)).alloc (.cells #[.int .i64 0, .slice none 0 0, .int .i64 0, .bool false] 32)).heap[w.heap.size + 1]? = some (.cells #[.int .i64 5, .string name, .string tgt, .slice ba b.length bc] 112 (0, 0))) := h3.2.1.trans (heap_alloc_new _ _)
 have HZ1 : Hid ((((w.alloc (.cells #[.int .i64 room, .slice la R.length lc, .int .i64 plan, .bool down] 32)).alloc (.cells #[.int .i64 5, .string name, .string tgt, .slice ba b.length bc] 112)).alloc (.cells #[.int .i64 0, .slice none 0 0, .int .i64 0, .bool false] 32)).heap[w.heap.size + 1 + 1]? = some (.cells #[.int .i64 0, .slice none 0 0, .int .i64 0, .bool false] 32 (0, 0))) := h3.2.2.trans (heap_alloc_new _ _)
 have HB1 := Lib.hid hb3.1
 have HSZ := Lib.hid hb3.2
 have HR1 := Lib.hid ((h.tight.below hb3.1).mono (T' := inDo w T) (fun k hk => .inl hk))
 obtain ⟨DD, hDD⟩ : ∃ DD, DD = doF 5 ⟨room, R.map RF.f, plan, down⟩ name tgt b := ⟨_, rfl⟩
 rw [← hDD]
 have HDD := Lib.hid hDD
 have hnod : ¬ inDo w T w.heap.size := by rintro (h | h) <;> omega
 clear h hb h3 hb3 hDD
 go_enter Tryz.func64, Tryz.ntmps64
 go_upto_region 1 with fail
 generalize (((w.alloc (.cells #[.int .i64 room, .slice la R.length lc, .int .i64 plan, .bool down] 32)).alloc (.cells #[.int .i64 5, .string name, .string tgt, .slice ba b.length bc] 112)).alloc (.cells #[.int .i64 0, .slice none 0 0, .int .i64 0, .bool false] 32)) = wd at *
 obtain ⟨hx0, hx1, hx2, hx3⟩ := cells4 HD1.out
 cases down with
 | true =>
   obtain ⟨hq0, hq1, hq2, hq3⟩ := cells4 HZ1.out
   have hz0 := freeAt HZ1.out 0
   have hz1 := freeAt HZ1.out 1
   have hz2 := freeAt HZ1.out 2
   have hz3 := freeAt HZ1.out 3
   go_wp2
   try simp only [Exit.inBlock, Exit.then]
   exact rdo_end 10 HZ1.out HB1.out HR1.out (by rw [HDD.out]; simp [doF]) rfl rfl
 | false =>
   have hd2 := freeAt HD1.out 2
   have hd3 := freeAt HD1.out 3
   by_cases hp1 : plan = 1
   · subst hp1
     go_upto_region 6 with fail
     have HD2 : Hid (((wd.setCell ⟨w.heap.size, 2, none⟩ (.int .i64 0)).setCell ⟨w.heap.size, 3, none⟩ (.bool true)).heap[w.heap.size]? = some (.cells #[.int .i64 room, .slice la R.length lc, .int .i64 0, .bool true] 32 (0, 0))) := (heap_store (heap_store HD1.out 2 (.int .i64 0)) 3 (.bool true))
     have HO2 : Hid (((wd.setCell ⟨w.heap.size, 2, none⟩ (.int .i64 0)).setCell ⟨w.heap.size, 3, none⟩ (.bool true)).heap[w.heap.size + 1]? = _) := ((Below.heap_setCell _ ⟨w.heap.size, 3, none⟩ _ _ (by show w.heap.size + 1 ≠ w.heap.size; omega)).trans ((Below.heap_setCell _ ⟨w.heap.size, 2, none⟩ _ _ (by show w.heap.size + 1 ≠ w.heap.size; omega)).trans HO1.out))
     have HZ2 : Hid (((wd.setCell ⟨w.heap.size, 2, none⟩ (.int .i64 0)).setCell ⟨w.heap.size, 3, none⟩ (.bool true)).heap[w.heap.size + 1 + 1]? = _) := ((Below.heap_setCell _ ⟨w.heap.size, 3, none⟩ _ _ (by show w.heap.size + 1 + 1 ≠ w.heap.size; omega)).trans ((Below.heap_setCell _ ⟨w.heap.size, 2, none⟩ _ _ (by show w.heap.size + 1 + 1 ≠ w.heap.size; omega)).trans HZ1.out))
     have HB2 : Hid (Below w.heap.size w ((wd.setCell ⟨w.heap.size, 2, none⟩ (.int .i64 0)).setCell ⟨w.heap.size, 3, none⟩ (.bool true))) := ((HB1.out.setCell (p := ⟨w.heap.size, 2, none⟩) (Nat.le_refl _) _).setCell (p := ⟨w.heap.size, 3, none⟩) (Nat.le_refl _) _)
     have HR2 : Hid (RLi ((wd.setCell ⟨w.heap.size, 2, none⟩ (.int .i64 0)).setCell ⟨w.heap.size, 3, none⟩ (.bool true)) (.slice la R.length lc) R (inDo w T)) := ((HR1.out.store (p := ⟨w.heap.size, 2, none⟩) hnod _).store (p := ⟨w.heap.size, 3, none⟩) hnod _)
     clear HD1 HO1 HZ1 HR1
     generalize ((wd.setCell ⟨w.heap.size, 2, none⟩ (.int .i64 0)).setCell ⟨w.heap.size, 3, none⟩ (.bool true)) = wp at *
     clear hx0 hx1 hx2 hx3 hd2 hd3
     obtain ⟨hx0, hx1, hx2, hx3⟩ := cells4 HD2.out
     obtain ⟨hq0, hq1, hq2, hq3⟩ := cells4 HZ2.out
     have hz0 := freeAt HZ2.out 0
     have hz1 := freeAt HZ2.out 1
     have hz2 := freeAt HZ2.out 2
     have hz3 := freeAt HZ2.out 3
     go_wp2
     try simp only [Exit.inBlock, Exit.then]
     exact rdo_end 10 HZ2.out HB2.out HR2.out (by rw [HDD.out]; simp [doF]) rfl rfl
   · have hpb : (plan == 1) = false := by simp [hp1]
     have hwr : IntKind.i64.wrap (plan - 1) = plan - 1 := IntWalk.i64_in _ (by omega)
     have HSTEP : Hid (DD = if namedB name = false ∨ (5 = 4 ∧ namedB tgt = false) ∨ (5 ≠ 1 ∧ findD (R.map RF.f) name = none) then (stepF ⟨room, R.map RF.f, plan, false⟩, (6 : Int))
         else if 5 = 1 then (if (findD (R.map RF.f) name).isSome then (stepF ⟨room, R.map RF.f, plan, false⟩, 7) else ({ stepF ⟨room, R.map RF.f, plan, false⟩ with files := putF (R.map RF.f) ⟨name, [], 0⟩ }, 0))
         else match findD (R.map RF.f) name with
         | none => (stepF ⟨room, R.map RF.f, plan, false⟩, 6)
         | some f =>
           if 5 = 2 then (if room < sumD (R.map RF.f) + b.length then (stepF ⟨room, R.map RF.f, plan, false⟩, 5) else ({ stepF ⟨room, R.map RF.f, plan, false⟩ with files := putF (R.map RF.f) ⟨f.name, f.b ++ b, f.d⟩ }, 0))
           else if 5 = 3 then ({ stepF ⟨room, R.map RF.f, plan, false⟩ with files := putF (R.map RF.f) ⟨f.name, f.b, f.b.length⟩ }, 0)
           else if 5 = 4 then ({ stepF ⟨room, R.map RF.f, plan, false⟩ with files := putF (outF (R.map RF.f) name) ⟨tgt, f.b, f.d⟩ }, 0)
           else ({ stepF ⟨room, R.map RF.f, plan, false⟩ with files := outF (R.map RF.f) name }, 0)) := by
       rw [Hid, HDD.out, doF, if_neg (by simp), if_neg hp1]; rfl
     go_upto_region 8 with fail
     have HD2 : Hid ((wd.setCell ⟨w.heap.size, 2, none⟩ (.int .i64 (max (plan - 1) 0))).heap[w.heap.size]? = some (.cells #[.int .i64 room, .slice la R.length lc, .int .i64 (max (plan - 1) 0), .bool false] 32 (0, 0))) := (heap_store HD1.out 2 (.int .i64 (max (plan - 1) 0)))
     have HO2 : Hid ((wd.setCell ⟨w.heap.size, 2, none⟩ (.int .i64 (max (plan - 1) 0))).heap[w.heap.size + 1]? = _) := ((Below.heap_setCell _ ⟨w.heap.size, 2, none⟩ _ _ (by show w.heap.size + 1 ≠ w.heap.size; omega)).trans HO1.out)
     have HZ2 : Hid ((wd.setCell ⟨w.heap.size, 2, none⟩ (.int .i64 (max (plan - 1) 0))).heap[w.heap.size + 1 + 1]? = _) := ((Below.heap_setCell _ ⟨w.heap.size, 2, none⟩ _ _ (by show w.heap.size + 1 + 1 ≠ w.heap.size; omega)).trans HZ1.out)
     have HB2 : Hid (Below w.heap.size w (wd.setCell ⟨w.heap.size, 2, none⟩ (.int .i64 (max (plan - 1) 0)))) := (HB1.out.setCell (p := ⟨w.heap.size, 2, none⟩) (Nat.le_refl _) _)
     have HR2 : Hid (RLi (wd.setCell ⟨w.heap.size, 2, none⟩ (.int .i64 (max (plan - 1) 0))) (.slice la R.length lc) R (inDo w T)) := (HR1.out.store (p := ⟨w.heap.size, 2, none⟩) hnod _)
     clear HD1 HO1 HZ1 HR1
     have hwp : w.heap.size + 3 ≤ (wd.setCell ⟨w.heap.size, 2, none⟩ (.int .i64 (max (plan - 1) 0))).heap.size := by rw [← HSZ.out]; simp [World.setCell]
     generalize (wd.setCell ⟨w.heap.size, 2, none⟩ (.int .i64 (max (plan - 1) 0))) = wp at *
     clear hx0 hx1 hx2 hx3 hd2 hd3
     obtain ⟨hx0, hx1, hx2, hx3⟩ := cells4 HD2.out
     obtain ⟨ho0, ho1, ho2, ho3⟩ := cells4 HO2.out
     have HST : Hid (∀ (c : Int), (stepF ⟨room, R.map RF.f, plan, false⟩, c) = ((⟨room, R.map RF.f, max (plan - 1) 0, false⟩ : DS), c)) := fun c => rfl
     go_wp2_with fail
     refine (rfind_any room (max (plan - 1) 0) false _ R _ name _ HR2.out (by omega)).mono ?_
     rintro e w3 ⟨rfl, hb3⟩
     have HD3 := Lib.hid ((hb3.block _ (lt_of_heap HD2.out)).trans HD2.out)
     have HO3 := Lib.hid ((hb3.block _ (lt_of_heap HO2.out)).trans HO2.out)
     have HZ3 := Lib.hid ((hb3.block _ (lt_of_heap HZ2.out)).trans HZ2.out)
     have HB3 := Lib.hid (HB2.out.trans (hb3.mono HB2.out.size))
     have HR3 := Lib.hid (HR2.out.below hb3)
     clear HD2 HO2 HZ2 HR2
     have HW3 := Nat.le_trans hwp hb3.size
     clear hx0 hx1 hx2 hx3 ho0 ho1 ho2 ho3 hb3
     obtain ⟨hx0, hx1, hx2, hx3⟩ := cells4 HD3.out
     obtain ⟨ho0, ho1, ho2, ho3⟩ := cells4 HO3.out
     have HFN := Lib.hid (first_name R name)
     go_wp2_with fail
     refine (rnamed_any name _ hn).mono ?_
     rintro e w4 ⟨rfl, hw4⟩
     obtain rfl := hw4.symm
     cases hnm : namedB name with
     | false =>
       have HV : Hid (DD = (stepF ⟨room, R.map RF.f, plan, false⟩, 6)) := by rw [Hid, HSTEP.out, if_pos (.inl hnm)]
       obtain ⟨hq0, hq1, hq2, hq3⟩ := cells4 HZ3.out
       have hz0 := freeAt HZ3.out 0
       have hz1 := freeAt HZ3.out 1
       have hz2 := freeAt HZ3.out 2
       have hz3 := freeAt HZ3.out 3
       go_wp2
       try simp only [Exit.inBlock, Exit.then]
       exact rdo_end 6 HZ3.out HB3.out HR3.out (HV.out) rfl rfl
     | true =>
       rcases HFN.out with hmiss | ⟨i, hi, hni, hlow⟩
       · have HV : Hid (DD = (stepF ⟨room, R.map RF.f, plan, false⟩, 6)) := by rw [Hid, HSTEP.out, if_pos (.inr (.inr ⟨by decide, findD_miss hmiss⟩))]
         rw [posR_miss hmiss] at *
         clear hmiss HFN
         obtain ⟨hq0, hq1, hq2, hq3⟩ := cells4 HZ3.out
         have hz0 := freeAt HZ3.out 0
         have hz1 := freeAt HZ3.out 1
         have hz2 := freeAt HZ3.out 2
         have hz3 := freeAt HZ3.out 3
         go_wp2
         try simp only [Exit.inBlock, Exit.then]
         exact rdo_end 6 HZ3.out HB3.out HR3.out (HV.out) rfl rfl
       · have HV : Hid (DD = (⟨room, outF (R.map RF.f) name, max (plan - 1) 0, false⟩, 0)) := by
           rw [Hid, HSTEP.out]; simp [hnm, findD_hit hi hni hlow, stepF]
         rw [posR_hit hi hni hlow] at *
         obtain ⟨lb, lo, lcc, he, hcap, hlb, hcell⟩ := HR3.out.cells (by omega)
         obtain ⟨rfl, rfl⟩ : la = some ⟨lb, lo, none⟩ ∧ lc = lcc := by cases he; exact ⟨rfl, rfl⟩
         obtain ⟨hc0, hc1, hc2⟩ := hcell i hi
         have hmem : R[i] ∈ R := List.getElem_mem hi
         clear hcell he hni hlow HFN HSTEP HDD
         generalize R[i] = r at *
         go_upto_region 17 with fail
         have HF4 : Hid ((w3.alloc (.cells #[.string r.f.name, .slice r.a r.f.b.length r.c, .int .i64 r.f.d] 120)).heap[w3.heap.size]? = some (.cells #[.string r.f.name, .slice r.a r.f.b.length r.c, .int .i64 r.f.d] 120 (0, 0))) := heap_alloc_new _ _
         have hb4 : Below w3.heap.size w3 (w3.alloc (.cells #[.string r.f.name, .slice r.a r.f.b.length r.c, .int .i64 r.f.d] 120)) := (Below.refl _ _).alloc (Nat.le_refl _) _
         have HR4' : Hid (RLi (w3.alloc (.cells #[.string r.f.name, .slice r.a r.f.b.length r.c, .int .i64 r.f.d] 120)) _ R (fun k => inDo w T k ∧ k < w3.heap.size)) := HR3.out.tight.below hb4
         have HD4 := Lib.hid ((hb4.block _ (lt_of_heap HD3.out)).trans HD3.out)
         have HO4 := Lib.hid ((hb4.block _ (lt_of_heap HO3.out)).trans HO3.out)
         have HZ4 := Lib.hid ((hb4.block _ (lt_of_heap HZ3.out)).trans HZ3.out)
         have HB4 := Lib.hid (HB3.out.trans (hb4.mono HB3.out.size))
         have HR4 := Lib.hid (HR3.out.below hb4)
         clear HD3 HO3 HZ3 HR3
         have HR4 := HR4'
         have HRI : Hid (okR (w3.alloc (.cells #[.string r.f.name, .slice r.a r.f.b.length r.c, .int .i64 r.f.d] 120)) (fun k => inDo w T k ∧ k < w3.heap.size) r) := HR4.out.byt r hmem
         have HW4 : w3.heap.size < (w3.alloc (.cells #[.string r.f.name, .slice r.a r.f.b.length r.c, .int .i64 r.f.d] 120)).heap.size := by rw [World.size_alloc]; omega
         generalize w3.alloc (.cells #[.string r.f.name, .slice r.a r.f.b.length r.c, .int .i64 r.f.d] 120) = w4 at *
         clear hx0 hx1 hx2 hx3 ho0 ho1 ho2 ho3 hc0 hc1 hc2 hb4 HR4'
         obtain ⟨hx0, hx1, hx2, hx3⟩ := cells4 HD4.out
         obtain ⟨ho0, ho1, ho2, ho3⟩ := cells4 HO4.out
         obtain ⟨hy0, hy1, hy2⟩ := cells3 HF4.out
         have hd1 := freeAt HD4.out 1
         have hw1 : w.heap.size + 3 ≤ w3.heap.size := HW3
         go_wp2_with fail
         refine (rwithout_any _ R (fun k => inDo w T k ∧ k < w3.heap.size) name _ HR4.out (by omega)).mono ?_
         rintro e w5 ⟨v5, rfl, hr5, hb5⟩
         obtain ⟨a5, c5, rfl⟩ := slice_form hr5.row
         have hr5' := Lib.hid (hr5.mono (T' := inDo w T) (fun k hk => by rcases hk with hk | hk; exact hk.1; exact .inr (by omega)))
         have HD5 := Lib.hid ((hb5.block _ (lt_of_heap HD4.out)).trans HD4.out)
         have HO5 := Lib.hid ((hb5.block _ (lt_of_heap HO4.out)).trans HO4.out)
         have HZ5 := Lib.hid ((hb5.block _ (lt_of_heap HZ4.out)).trans HZ4.out)
         have HB5 := Lib.hid (HB4.out.trans (hb5.mono HB4.out.size))
         have HR5 := Lib.hid (HR4.out.below hb5)
         clear HD4 HO4 HZ4 HR4
         clear hx0 hx1 hx2 hx3 ho0 ho1 ho2 ho3 hb5 hr5 hd1 HR5 hy0 hy1 hy2
         have hd1 := freeAt HD5.out 1
         obtain ⟨hx0, hx1, hx2, hx3⟩ := cells4 HD5.out
         generalize (outR R name).length = n5 at *
         go_upto_region 32 with fail
         have HD6 : Hid ((w5.setCell ⟨w.heap.size, 1, none⟩ (.slice a5 n5 c5)).heap[w.heap.size]? = some (.cells #[.int .i64 room, (.slice a5 n5 c5), .int .i64 (max (plan - 1) 0), .bool false] 32 (0, 0))) := heap_store HD5.out 1 _
         have HO6 : Hid ((w5.setCell ⟨w.heap.size, 1, none⟩ (.slice a5 n5 c5)).heap[w.heap.size + 1]? = _) := (Below.heap_setCell _ ⟨w.heap.size, 1, none⟩ _ _ (by show w.heap.size + 1 ≠ w.heap.size; omega)).trans HO5.out
         have HZ6 : Hid ((w5.setCell ⟨w.heap.size, 1, none⟩ (.slice a5 n5 c5)).heap[w.heap.size + 1 + 1]? = _) := (Below.heap_setCell _ ⟨w.heap.size, 1, none⟩ _ _ (by show w.heap.size + 1 + 1 ≠ w.heap.size; omega)).trans HZ5.out
         have HB6 : Hid (Below w.heap.size w (w5.setCell ⟨w.heap.size, 1, none⟩ (.slice a5 n5 c5))) := HB5.out.setCell (p := ⟨w.heap.size, 1, none⟩) (Nat.le_refl _) _
         have HR6 : Hid (RLi (w5.setCell ⟨w.heap.size, 1, none⟩ (.slice a5 n5 c5)) (.slice a5 n5 c5) (outR R name) (inDo w T)) := hr5'.out.store (p := ⟨w.heap.size, 1, none⟩) hnod _
         generalize (w5.setCell ⟨w.heap.size, 1, none⟩ (.slice a5 n5 c5)) = w6 at *
         clear hx0 hx1 hx2 hx3 hd1
         obtain ⟨hx0, hx1, hx2, hx3⟩ := cells4 HD6.out
         obtain ⟨hq0, hq1, hq2, hq3⟩ := cells4 HZ6.out
         have hz0 := freeAt HZ6.out 0
         have hz1 := freeAt HZ6.out 1
         have hz2 := freeAt HZ6.out 2
         have hz3 := freeAt HZ6.out 3
         go_wp2
         try simp only [Exit.inBlock, Exit.then]
         exact rdo_end 0 HZ6.out HB6.out HR6.out (by rw [HV.out, outR_f]) rfl rfl
end Go.Proofs.YtgdmdbdljmlkkaaGreatDoor
