/- The reference of a disk: Do of the kind 1. -/
import Derived.Test.YtjhhmljebflanaaDoorRf6
namespace Go.Proofs.YtjhhmljebflanaaDoor
set_option linter.unusedVariables false
set_option linter.unusedSimpArgs false
open Go.RowKit

set_option maxRecDepth 100000 in
set_option maxHeartbeats 4000000 in
theorem rdo1_any (room plan : Int) (down : Bool) (v : Value) (R : List RF) (T : Nat → Prop) (name to : ByteArray) (b : List UInt8) (ba : Option Addr) (bc : Nat) (w : World) (h : RLi w v R T) (hL : R.length ≤ 5000) (hp : 0 ≤ plan ∧ plan ≤ 9223372036854775807)
    (hn : name.size ≤ 100000) (hto : to.size ≤ 100000) (hb : Reads w (.slice ba b.length bc) b.length 1 (byts b)) (hs : sumR R + b.length ≤ 1000000000) :
    Calls Tryd.prog 33 #[rdisk room v plan down, .agg #[.int .i64 1, .string name, .string to, .slice ba b.length bc]] w (RPost w T (doF 1 ⟨room, R.map RF.f, plan, down⟩ name to b)) := by
  obtain ⟨la, lc, rfl⟩ := slice_form h.row
  have HRB := Lib.hid hb
  have h3 := heap3 w (.cells #[.int .i64 room, .slice la R.length lc, .int .i64 plan, .bool down] 46) (.cells #[.int .i64 1, .string name, .string to, .slice ba b.length bc] 38) (.cells #[.int .i64 0, .slice none 0 0, .int .i64 0, .bool false] 46)
  have hb3 := below3 w (.cells #[.int .i64 room, .slice la R.length lc, .int .i64 plan, .bool down] 46) (.cells #[.int .i64 1, .string name, .string to, .slice ba b.length bc] 38) (.cells #[.int .i64 0, .slice none 0 0, .int .i64 0, .bool false] 46)
  have HD1 : Hid ((((w.alloc (.cells #[.int .i64 room, .slice la R.length lc, .int .i64 plan, .bool down] 46)).alloc (.cells #[.int .i64 1, .string name, .string to, .slice ba b.length bc] 38)).alloc (.cells #[.int .i64 0, .slice none 0 0, .int .i64 0, .bool false] 46)).heap[w.heap.size]? = some (.cells #[.int .i64 room, .slice la R.length lc, .int .i64 plan, .bool down] 46 (0, 0))) := h3.1.trans (heap_alloc_new _ _)
  have HO1 : Hid ((((w.alloc (.cells #[.int .i64 room, .slice la R.length lc, .int .i64 plan, .bool down] 46)).alloc (.cells #[.int .i64 1, .string name, .string to, .slice ba b.length bc] 38)).alloc (.cells #[.int .i64 0, .slice none 0 0, .int .i64 0, .bool false] 46)).heap[w.heap.size + 1]? = some (.cells #[.int .i64 1, .string name, .string to, .slice ba b.length bc] 38 (0, 0))) := h3.2.1.trans (heap_alloc_new _ _)
  have HZ1 : Hid ((((w.alloc (.cells #[.int .i64 room, .slice la R.length lc, .int .i64 plan, .bool down] 46)).alloc (.cells #[.int .i64 1, .string name, .string to, .slice ba b.length bc] 38)).alloc (.cells #[.int .i64 0, .slice none 0 0, .int .i64 0, .bool false] 46)).heap[w.heap.size + 1 + 1]? = some (.cells #[.int .i64 0, .slice none 0 0, .int .i64 0, .bool false] 46 (0, 0))) := h3.2.2.trans (heap_alloc_new _ _)
  have HB1 := Lib.hid hb3.1
  have HSZ := Lib.hid hb3.2
  have HR1 := Lib.hid ((h.tight.below hb3.1).mono (T' := inDo w T) (fun k hk => .inl hk))
  obtain ⟨DD, hDD⟩ : ∃ DD, DD = doF 1 ⟨room, R.map RF.f, plan, down⟩ name to b := ⟨_, rfl⟩
  rw [← hDD]
  have HDD := Lib.hid hDD
  have hnod : ¬ inDo w T w.heap.size := by rintro (h | h) <;> omega
  clear h hb h3 hb3 hDD
  go_enter Tryd.func33, Tryd.ntmps33
  go_upto_region 1 with fail
  generalize (((w.alloc (.cells #[.int .i64 room, .slice la R.length lc, .int .i64 plan, .bool down] 46)).alloc (.cells #[.int .i64 1, .string name, .string to, .slice ba b.length bc] 38)).alloc (.cells #[.int .i64 0, .slice none 0 0, .int .i64 0, .bool false] 46)) = wd at *
  obtain ⟨hx0, hx1, hx2, hx3⟩ := cells4 HD1.out
  cases down with
  | true =>
    obtain ⟨hq0, hq1, hq2, hq3⟩ := cells4 HZ1.out
    have hz0 := freeAt HZ1.out 0
    have hz1 := freeAt HZ1.out 1
    have hz2 := freeAt HZ1.out 2
    have hz3 := freeAt HZ1.out 3
    go_wp2
    try simp only [Exit.inBlock, Exit.then]
    exact rdo_end 10 HZ1.out HB1.out HR1.out (by rw [HDD.out]; simp [doF]) rfl rfl
  | false =>
    have hd2 := freeAt HD1.out 2
    have hd3 := freeAt HD1.out 3
    by_cases hp1 : plan = 1
    · subst hp1
      go_upto_region 6 with fail
      have HD2 : Hid (((wd.setCell ⟨w.heap.size, 2, none⟩ (.int .i64 0)).setCell ⟨w.heap.size, 3, none⟩ (.bool true)).heap[w.heap.size]? = some (.cells #[.int .i64 room, .slice la R.length lc, .int .i64 0, .bool true] 46 (0, 0))) := (heap_store (heap_store HD1.out 2 (.int .i64 0)) 3 (.bool true))
      have HO2 : Hid (((wd.setCell ⟨w.heap.size, 2, none⟩ (.int .i64 0)).setCell ⟨w.heap.size, 3, none⟩ (.bool true)).heap[w.heap.size + 1]? = _) := ((Below.heap_setCell _ ⟨w.heap.size, 3, none⟩ _ _ (by show w.heap.size + 1 ≠ w.heap.size; omega)).trans ((Below.heap_setCell _ ⟨w.heap.size, 2, none⟩ _ _ (by show w.heap.size + 1 ≠ w.heap.size; omega)).trans HO1.out))
      have HZ2 : Hid (((wd.setCell ⟨w.heap.size, 2, none⟩ (.int .i64 0)).setCell ⟨w.heap.size, 3, none⟩ (.bool true)).heap[w.heap.size + 1 + 1]? = _) := ((Below.heap_setCell _ ⟨w.heap.size, 3, none⟩ _ _ (by show w.heap.size + 1 + 1 ≠ w.heap.size; omega)).trans ((Below.heap_setCell _ ⟨w.heap.size, 2, none⟩ _ _ (by show w.heap.size + 1 + 1 ≠ w.heap.size; omega)).trans HZ1.out))
      have HB2 : Hid (Below w.heap.size w ((wd.setCell ⟨w.heap.size, 2, none⟩ (.int .i64 0)).setCell ⟨w.heap.size, 3, none⟩ (.bool true))) := ((HB1.out.setCell (p := ⟨w.heap.size, 2, none⟩) (Nat.le_refl _) _).setCell (p := ⟨w.heap.size, 3, none⟩) (Nat.le_refl _) _)
      have HR2 : Hid (RLi ((wd.setCell ⟨w.heap.size, 2, none⟩ (.int .i64 0)).setCell ⟨w.heap.size, 3, none⟩ (.bool true)) (.slice la R.length lc) R (inDo w T)) := ((HR1.out.store (p := ⟨w.heap.size, 2, none⟩) hnod _).store (p := ⟨w.heap.size, 3, none⟩) hnod _)
      clear HD1 HO1 HZ1 HR1
      generalize ((wd.setCell ⟨w.heap.size, 2, none⟩ (.int .i64 0)).setCell ⟨w.heap.size, 3, none⟩ (.bool true)) = wp at *
      clear hx0 hx1 hx2 hx3 hd2 hd3
      obtain ⟨hx0, hx1, hx2, hx3⟩ := cells4 HD2.out
      obtain ⟨hq0, hq1, hq2, hq3⟩ := cells4 HZ2.out
      have hz0 := freeAt HZ2.out 0
      have hz1 := freeAt HZ2.out 1
      have hz2 := freeAt HZ2.out 2
      have hz3 := freeAt HZ2.out 3
      go_wp2
      try simp only [Exit.inBlock, Exit.then]
      exact rdo_end 10 HZ2.out HB2.out HR2.out (by rw [HDD.out]; simp [doF]) rfl rfl
    · have hpb : (plan == 1) = false := by simp [hp1]
      have hwr : IntKind.i64.wrap (plan - 1) = plan - 1 := IntWalk.i64_in _ (by omega)
      have HSTEP : Hid (DD = if namedB name = false ∨ (1 = 4 ∧ namedB to = false) ∨ (1 ≠ 1 ∧ findD (R.map RF.f) name = none) then (stepF ⟨room, R.map RF.f, plan, false⟩, (6 : Int))
          else if 1 = 1 then (if (findD (R.map RF.f) name).isSome then (stepF ⟨room, R.map RF.f, plan, false⟩, 7) else ({ stepF ⟨room, R.map RF.f, plan, false⟩ with files := putF (R.map RF.f) ⟨name, [], 0⟩ }, 0))
          else match findD (R.map RF.f) name with
          | none => (stepF ⟨room, R.map RF.f, plan, false⟩, 6)
          | some f =>
            if 1 = 2 then (if room < sumD (R.map RF.f) + b.length then (stepF ⟨room, R.map RF.f, plan, false⟩, 5) else ({ stepF ⟨room, R.map RF.f, plan, false⟩ with files := putF (R.map RF.f) ⟨f.name, f.b ++ b, f.d⟩ }, 0))
            else if 1 = 3 then ({ stepF ⟨room, R.map RF.f, plan, false⟩ with files := putF (R.map RF.f) ⟨f.name, f.b, f.b.length⟩ }, 0)
            else if 1 = 4 then ({ stepF ⟨room, R.map RF.f, plan, false⟩ with files := putF (outF (R.map RF.f) name) ⟨to, f.b, f.d⟩ }, 0)
            else ({ stepF ⟨room, R.map RF.f, plan, false⟩ with files := outF (R.map RF.f) name }, 0)) := by
        rw [Hid, HDD.out, doF, if_neg (by simp), if_neg hp1]; rfl
      go_upto_region 8 with fail
      have HD2 : Hid ((wd.setCell ⟨w.heap.size, 2, none⟩ (.int .i64 (max (plan - 1) 0))).heap[w.heap.size]? = some (.cells #[.int .i64 room, .slice la R.length lc, .int .i64 (max (plan - 1) 0), .bool false] 46 (0, 0))) := (heap_store HD1.out 2 (.int .i64 (max (plan - 1) 0)))
      have HO2 : Hid ((wd.setCell ⟨w.heap.size, 2, none⟩ (.int .i64 (max (plan - 1) 0))).heap[w.heap.size + 1]? = _) := ((Below.heap_setCell _ ⟨w.heap.size, 2, none⟩ _ _ (by show w.heap.size + 1 ≠ w.heap.size; omega)).trans HO1.out)
      have HZ2 : Hid ((wd.setCell ⟨w.heap.size, 2, none⟩ (.int .i64 (max (plan - 1) 0))).heap[w.heap.size + 1 + 1]? = _) := ((Below.heap_setCell _ ⟨w.heap.size, 2, none⟩ _ _ (by show w.heap.size + 1 + 1 ≠ w.heap.size; omega)).trans HZ1.out)
      have HB2 : Hid (Below w.heap.size w (wd.setCell ⟨w.heap.size, 2, none⟩ (.int .i64 (max (plan - 1) 0)))) := (HB1.out.setCell (p := ⟨w.heap.size, 2, none⟩) (Nat.le_refl _) _)
      have HR2 : Hid (RLi (wd.setCell ⟨w.heap.size, 2, none⟩ (.int .i64 (max (plan - 1) 0))) (.slice la R.length lc) R (inDo w T)) := (HR1.out.store (p := ⟨w.heap.size, 2, none⟩) hnod _)
      clear HD1 HO1 HZ1 HR1
      have hwp : w.heap.size + 3 ≤ (wd.setCell ⟨w.heap.size, 2, none⟩ (.int .i64 (max (plan - 1) 0))).heap.size := by rw [← HSZ.out]; simp [World.setCell]
      generalize (wd.setCell ⟨w.heap.size, 2, none⟩ (.int .i64 (max (plan - 1) 0))) = wp at *
      clear hx0 hx1 hx2 hx3 hd2 hd3
      obtain ⟨hx0, hx1, hx2, hx3⟩ := cells4 HD2.out
      obtain ⟨ho0, ho1, ho2, ho3⟩ := cells4 HO2.out

      have HST : Hid (∀ (c : Int), (stepF ⟨room, R.map RF.f, plan, false⟩, c) = ((⟨room, R.map RF.f, max (plan - 1) 0, false⟩ : DS), c)) := fun c => rfl
      go_wp2_with fail
      refine (rfind_any room (max (plan - 1) 0) false _ R _ name _ HR2.out (by omega)).mono ?_
      rintro e w3 ⟨rfl, hb3⟩
      have HD3 := Lib.hid ((hb3.block _ (lt_of_heap HD2.out)).trans HD2.out)
      have HO3 := Lib.hid ((hb3.block _ (lt_of_heap HO2.out)).trans HO2.out)
      have HZ3 := Lib.hid ((hb3.block _ (lt_of_heap HZ2.out)).trans HZ2.out)
      have HB3 := Lib.hid (HB2.out.trans (hb3.mono HB2.out.size))
      have HR3 := Lib.hid (HR2.out.below hb3)
      clear HD2 HO2 HZ2 HR2
      have HW3 := Nat.le_trans hwp hb3.size
      clear hx0 hx1 hx2 hx3 ho0 ho1 ho2 ho3 hb3
      obtain ⟨hx0, hx1, hx2, hx3⟩ := cells4 HD3.out
      obtain ⟨ho0, ho1, ho2, ho3⟩ := cells4 HO3.out

      have HFN := Lib.hid (first_name R name)
      go_wp2_with fail
      refine (rnamed_any name _ hn).mono ?_
      rintro e w4 ⟨rfl, hw4⟩
      obtain rfl := hw4.symm
      cases hnm : namedB name with
      | false =>
        have HV : Hid (DD = (stepF ⟨room, R.map RF.f, plan, false⟩, 6)) := by rw [Hid, HSTEP.out, if_pos (.inl hnm)]
        obtain ⟨hq0, hq1, hq2, hq3⟩ := cells4 HZ3.out
        have hz0 := freeAt HZ3.out 0
        have hz1 := freeAt HZ3.out 1
        have hz2 := freeAt HZ3.out 2
        have hz3 := freeAt HZ3.out 3
        go_wp2
        try simp only [Exit.inBlock, Exit.then]
        exact rdo_end 6 HZ3.out HB3.out HR3.out (HV.out) rfl rfl
      | true =>
        rcases HFN.out with hmiss | ⟨i, hi, hni, hlow⟩
        · have HV : Hid (DD = (⟨room, putF (R.map RF.f) ⟨name, [], 0⟩, max (plan - 1) 0, false⟩, 0)) := by
            rw [Hid, HSTEP.out]; simp [hnm, findD_miss hmiss, stepF]
          rw [posR_miss hmiss] at *
          clear hmiss HFN
          have hd1 := freeAt HD3.out 1
          go_wp2_with fail
          refine (rput_any _ R (inDo w T) ⟨⟨name, [], 0⟩, none, 0⟩ _ HR3.out (by omega) ⟨Row.nil _ _ _ _, Nat.le_refl _, by simp⟩).mono ?_
          rintro e w5 ⟨v5, rfl, hr5, hb5⟩
          obtain ⟨a5, c5, rfl⟩ := slice_form hr5.row
          have hr5' := Lib.hid (hr5.mono (T' := inDo w T) (fun k hk => by have h1 := HSZ.out; have h2 := HW3; rcases hk with hk | hk; exact hk; exact .inr (by omega)))
          have HD5 := Lib.hid ((hb5.block _ (lt_of_heap HD3.out)).trans HD3.out)
          have HO5 := Lib.hid ((hb5.block _ (lt_of_heap HO3.out)).trans HO3.out)
          have HZ5 := Lib.hid ((hb5.block _ (lt_of_heap HZ3.out)).trans HZ3.out)
          have HB5 := Lib.hid (HB3.out.trans (hb5.mono HB3.out.size))
          have HR5 := Lib.hid (HR3.out.below hb5)
          clear HD3 HO3 HZ3 HR3
          clear hx0 hx1 hx2 hx3 ho0 ho1 ho2 ho3 hb5 hr5 hd1 HR5
          have hd1 := freeAt HD5.out 1
          obtain ⟨hx0, hx1, hx2, hx3⟩ := cells4 HD5.out

          generalize (putR R ⟨⟨name, [], 0⟩, none, 0⟩).length = n5 at *
          go_upto_region 15 with fail
          have HD6 : Hid ((w5.setCell ⟨w.heap.size, 1, none⟩ (.slice a5 n5 c5)).heap[w.heap.size]? = some (.cells #[.int .i64 room, (.slice a5 n5 c5), .int .i64 (max (plan - 1) 0), .bool false] 46 (0, 0))) := heap_store HD5.out 1 _
          have HO6 : Hid ((w5.setCell ⟨w.heap.size, 1, none⟩ (.slice a5 n5 c5)).heap[w.heap.size + 1]? = _) := (Below.heap_setCell _ ⟨w.heap.size, 1, none⟩ _ _ (by show w.heap.size + 1 ≠ w.heap.size; omega)).trans HO5.out
          have HZ6 : Hid ((w5.setCell ⟨w.heap.size, 1, none⟩ (.slice a5 n5 c5)).heap[w.heap.size + 1 + 1]? = _) := (Below.heap_setCell _ ⟨w.heap.size, 1, none⟩ _ _ (by show w.heap.size + 1 + 1 ≠ w.heap.size; omega)).trans HZ5.out
          have HB6 : Hid (Below w.heap.size w (w5.setCell ⟨w.heap.size, 1, none⟩ (.slice a5 n5 c5))) := HB5.out.setCell (p := ⟨w.heap.size, 1, none⟩) (Nat.le_refl _) _
          have HR6 : Hid (RLi (w5.setCell ⟨w.heap.size, 1, none⟩ (.slice a5 n5 c5)) (.slice a5 n5 c5) (putR R ⟨⟨name, [], 0⟩, none, 0⟩) (inDo w T)) := hr5'.out.store (p := ⟨w.heap.size, 1, none⟩) hnod _
          generalize (w5.setCell ⟨w.heap.size, 1, none⟩ (.slice a5 n5 c5)) = w6 at *
          clear hx0 hx1 hx2 hx3 hd1
          obtain ⟨hx0, hx1, hx2, hx3⟩ := cells4 HD6.out
          obtain ⟨hq0, hq1, hq2, hq3⟩ := cells4 HZ6.out
          have hz0 := freeAt HZ6.out 0
          have hz1 := freeAt HZ6.out 1
          have hz2 := freeAt HZ6.out 2
          have hz3 := freeAt HZ6.out 3
          go_wp2
          try simp only [Exit.inBlock, Exit.then]
          exact rdo_end 0 HZ6.out HB6.out HR6.out (by rw [HV.out, putR_f]) rfl rfl
        · have HV : Hid (DD = (stepF ⟨room, R.map RF.f, plan, false⟩, 7)) := by
            rw [Hid, HSTEP.out]; simp [hnm, findD_hit hi hni hlow]
          rw [posR_hit hi hni hlow] at *
          clear hni hlow HFN
          obtain ⟨hq0, hq1, hq2, hq3⟩ := cells4 HZ3.out
          have hz0 := freeAt HZ3.out 0
          have hz1 := freeAt HZ3.out 1
          have hz2 := freeAt HZ3.out 2
          have hz3 := freeAt HZ3.out 3
          go_wp2
          try simp only [Exit.inBlock, Exit.then]
          exact rdo_end 7 HZ3.out HB3.out HR3.out (HV.out) rfl rfl
end Go.Proofs.YtjhhmljebflanaaDoor
