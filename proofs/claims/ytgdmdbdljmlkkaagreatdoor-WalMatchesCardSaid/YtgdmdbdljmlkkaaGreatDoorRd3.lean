/- The reference of a disk: Do of the kind 3. -/
import Derived.Test.YtgdmdbdljmlkkaaGreatDoorRf6
namespace Go.Proofs.YtgdmdbdljmlkkaaGreatDoor
set_option linter.unusedVariables false
set_option linter.unusedSimpArgs false
open Go.RowKit

set_option maxRecDepth 100000 in
set_option maxHeartbeats 4000000 in
theorem rdo3_any (room plan : Int) (down : Bool) (v : Value) (R : List RF) (T : Nat → Prop) (name tgt : ByteArray) (b : List UInt8) (ba : Option Addr) (bc : Nat) (w : World) (h : RLi w v R T) (hL : R.length ≤ 5000) (hp : 0 ≤ plan ∧ plan ≤ 9223372036854775807)
    (hn : name.size ≤ 100000) (hto : tgt.size ≤ 100000) (hb : Reads w (.slice ba b.length bc) b.length 1 (byts b)) (hs : sumR R + b.length ≤ 1000000000) :
    Calls Tryz.prog 64 #[rdisk room v plan down, .agg #[.int .i64 3, .string name, .string tgt, .slice ba b.length bc]] w (RPost w T (doF 3 ⟨room, R.map RF.f, plan, down⟩ name tgt b)) := by
  obtain ⟨la, lc, rfl⟩ := slice_form h.row
  have HRB := Lib.hid hb
  have h3 := heap3 w (.cells #[.int .i64 room, .slice la R.length lc, .int .i64 plan, .bool down] 32) (.cells #[.int .i64 3, .string name, .string tgt, .slice ba b.length bc] 112) (.cells #[.int .i64 0, .slice none 0 0, .int .i64 0, .bool false] 32)
  have hb3 := below3 w (.cells #[.int .i64 room, .slice la R.length lc, .int .i64 plan, .bool down] 32) (.cells #[.int .i64 3, .string name, .string tgt, .slice ba b.length bc] 112) (.cells #[.int .i64 0, .slice none 0 0, .int .i64 0, .bool false] 32)
  have HD1 : Hid ((((w.alloc (.cells #[.int .i64 room, .slice la R.length lc, .int .i64 plan, .bool down] 32)).alloc (.cells #[.int .i64 3, .string name, .string tgt, .slice ba b.length bc] 112)).alloc (.cells #[.int .i64 0, .slice none 0 0, .int .i64 0, .bool false] 32)).heap[w.heap.size]? = some (.cells #[.int .i64 room, .slice la R.length lc, .int .i64 plan, .bool down] 32 (0, 0))) := h3.1.trans (heap_alloc_new _ _)
  have HO1 : Hid ((((w.alloc (.cells #[.int .i64 room, .slice la R.length lc, .int .i64 plan, .bool down] 32)).alloc (.cells #[.int .i64 3, .string name, .string tgt, .slice ba b.length bc] 112)).alloc (.cells #[.int .i64 0, .slice none 0 0, .int .i64 0, .bool false] 32)).heap[w.heap.size + 1]? = some (.cells #[.int .i64 3, .string name, .string tgt, .slice ba b.length bc] 112 (0, 0))) := h3.2.1.trans (heap_alloc_new _ _)
  have HZ1 : Hid ((((w.alloc (.cells #[.int .i64 room, .slice la R.length lc, .int .i64 plan, .bool down] 32)).alloc (.cells #[.int .i64 3, .string name, .string tgt, .slice ba b.length bc] 112)).alloc (.cells #[.int .i64 0, .slice none 0 0, .int .i64 0, .bool false] 32)).heap[w.heap.size + 1 + 1]? = some (.cells #[.int .i64 0, .slice none 0 0, .int .i64 0, .bool false] 32 (0, 0))) := h3.2.2.trans (heap_alloc_new _ _)
  have HB1 := Lib.hid hb3.1
  have HSZ := Lib.hid hb3.2
  have HR1 := Lib.hid ((h.tight.below hb3.1).mono (T' := inDo w T) (fun k hk => .inl hk))
  obtain ⟨DD, hDD⟩ : ∃ DD, DD = doF 3 ⟨room, R.map RF.f, plan, down⟩ name tgt b := ⟨_, rfl⟩
  rw [← hDD]
  have HDD := Lib.hid hDD
  have hnod : ¬ inDo w T w.heap.size := by rintro (h | h) <;> omega
  clear h hb h3 hb3 hDD
  go_enter Tryz.func64, Tryz.ntmps64
  go_upto_region 1 with fail
  generalize (((w.alloc (.cells #[.int .i64 room, .slice la R.length lc, .int .i64 plan, .bool down] 32)).alloc (.cells #[.int .i64 3, .string name, .string tgt, .slice ba b.length bc] 112)).alloc (.cells #[.int .i64 0, .slice none 0 0, .int .i64 0, .bool false] 32)) = wd at *
  obtain ⟨hx0, hx1, hx2, hx3⟩ := cells4 HD1.out
  cases down with
  | true =>
    obtain ⟨hq0, hq1, hq2, hq3⟩ := cells4 HZ1.out
    have hz0 := freeAt HZ1.out 0
    have hz1 := freeAt HZ1.out 1
    have hz2 := freeAt HZ1.out 2
    have hz3 := freeAt HZ1.out 3
    go_wp2
    try simp only [Exit.inBlock, Exit.then]
    exact rdo_end 10 HZ1.out HB1.out HR1.out (by rw [HDD.out]; simp [doF]) rfl rfl
  | false =>
    have hd2 := freeAt HD1.out 2
    have hd3 := freeAt HD1.out 3
    by_cases hp1 : plan = 1
    · subst hp1
      go_upto_region 6 with fail
      have HD2 : Hid (((wd.setCell ⟨w.heap.size, 2, none⟩ (.int .i64 0)).setCell ⟨w.heap.size, 3, none⟩ (.bool true)).heap[w.heap.size]? = some (.cells #[.int .i64 room, .slice la R.length lc, .int .i64 0, .bool true] 32 (0, 0))) := (heap_store (heap_store HD1.out 2 (.int .i64 0)) 3 (.bool true))
      have HO2 : Hid (((wd.setCell ⟨w.heap.size, 2, none⟩ (.int .i64 0)).setCell ⟨w.heap.size, 3, none⟩ (.bool true)).heap[w.heap.size + 1]? = _) := ((Below.heap_setCell _ ⟨w.heap.size, 3, none⟩ _ _ (by show w.heap.size + 1 ≠ w.heap.size; omega)).trans ((Below.heap_setCell _ ⟨w.heap.size, 2, none⟩ _ _ (by show w.heap.size + 1 ≠ w.heap.size; omega)).trans HO1.out))
      have HZ2 : Hid (((wd.setCell ⟨w.heap.size, 2, none⟩ (.int .i64 0)).setCell ⟨w.heap.size, 3, none⟩ (.bool true)).heap[w.heap.size + 1 + 1]? = _) := ((Below.heap_setCell _ ⟨w.heap.size, 3, none⟩ _ _ (by show w.heap.size + 1 + 1 ≠ w.heap.size; omega)).trans ((Below.heap_setCell _ ⟨w.heap.size, 2, none⟩ _ _ (by show w.heap.size + 1 + 1 ≠ w.heap.size; omega)).trans HZ1.out))
      have HB2 : Hid (Below w.heap.size w ((wd.setCell ⟨w.heap.size, 2, none⟩ (.int .i64 0)).setCell ⟨w.heap.size, 3, none⟩ (.bool true))) := ((HB1.out.setCell (p := ⟨w.heap.size, 2, none⟩) (Nat.le_refl _) _).setCell (p := ⟨w.heap.size, 3, none⟩) (Nat.le_refl _) _)
      have HR2 : Hid (RLi ((wd.setCell ⟨w.heap.size, 2, none⟩ (.int .i64 0)).setCell ⟨w.heap.size, 3, none⟩ (.bool true)) (.slice la R.length lc) R (inDo w T)) := ((HR1.out.store (p := ⟨w.heap.size, 2, none⟩) hnod _).store (p := ⟨w.heap.size, 3, none⟩) hnod _)
      clear HD1 HO1 HZ1 HR1
      generalize ((wd.setCell ⟨w.heap.size, 2, none⟩ (.int .i64 0)).setCell ⟨w.heap.size, 3, none⟩ (.bool true)) = wp at *
      clear hx0 hx1 hx2 hx3 hd2 hd3
      obtain ⟨hx0, hx1, hx2, hx3⟩ := cells4 HD2.out
      obtain ⟨hq0, hq1, hq2, hq3⟩ := cells4 HZ2.out
      have hz0 := freeAt HZ2.out 0
      have hz1 := freeAt HZ2.out 1
      have hz2 := freeAt HZ2.out 2
      have hz3 := freeAt HZ2.out 3
      go_wp2
      try simp only [Exit.inBlock, Exit.then]
      exact rdo_end 10 HZ2.out HB2.out HR2.out (by rw [HDD.out]; simp [doF]) rfl rfl
    · have hpb : (plan == 1) = false := by simp [hp1]
      have hwr : IntKind.i64.wrap (plan - 1) = plan - 1 := IntWalk.i64_in _ (by omega)
      have HSTEP : Hid (DD = if namedB name = false ∨ (3 = 4 ∧ namedB tgt = false) ∨ (3 ≠ 1 ∧ findD (R.map RF.f) name = none) then (stepF ⟨room, R.map RF.f, plan, false⟩, (6 : Int))
          else if 3 = 1 then (if (findD (R.map RF.f) name).isSome then (stepF ⟨room, R.map RF.f, plan, false⟩, 7) else ({ stepF ⟨room, R.map RF.f, plan, false⟩ with files := putF (R.map RF.f) ⟨name, [], 0⟩ }, 0))
          else match findD (R.map RF.f) name with
          | none => (stepF ⟨room, R.map RF.f, plan, false⟩, 6)
          | some f =>
            if 3 = 2 then (if room < sumD (R.map RF.f) + b.length then (stepF ⟨room, R.map RF.f, plan, false⟩, 5) else ({ stepF ⟨room, R.map RF.f, plan, false⟩ with files := putF (R.map RF.f) ⟨f.name, f.b ++ b, f.d⟩ }, 0))
            else if 3 = 3 then ({ stepF ⟨room, R.map RF.f, plan, false⟩ with files := putF (R.map RF.f) ⟨f.name, f.b, f.b.length⟩ }, 0)
            else if 3 = 4 then ({ stepF ⟨room, R.map RF.f, plan, false⟩ with files := putF (outF (R.map RF.f) name) ⟨tgt, f.b, f.d⟩ }, 0)
            else ({ stepF ⟨room, R.map RF.f, plan, false⟩ with files := outF (R.map RF.f) name }, 0)) := by
        rw [Hid, HDD.out, doF, if_neg (by simp), if_neg hp1]; rfl
      go_upto_region 8 with fail
      have HD2 : Hid ((wd.setCell ⟨w.heap.size, 2, none⟩ (.int .i64 (max (plan - 1) 0))).heap[w.heap.size]? = some (.cells #[.int .i64 room, .slice la R.length lc, .int .i64 (max (plan - 1) 0), .bool false] 32 (0, 0))) := (heap_store HD1.out 2 (.int .i64 (max (plan - 1) 0)))
      have HO2 : Hid ((wd.setCell ⟨w.heap.size, 2, none⟩ (.int .i64 (max (plan - 1) 0))).heap[w.heap.size + 1]? = _) := ((Below.heap_setCell _ ⟨w.heap.size, 2, none⟩ _ _ (by show w.heap.size + 1 ≠ w.heap.size; omega)).trans HO1.out)
      have HZ2 : Hid ((wd.setCell ⟨w.heap.size, 2, none⟩ (.int .i64 (max (plan - 1) 0))).heap[w.heap.size + 1 + 1]? = _) := ((Below.heap_setCell _ ⟨w.heap.size, 2, none⟩ _ _ (by show w.heap.size + 1 + 1 ≠ w.heap.size; omega)).trans HZ1.out)
      have HB2 : Hid (Below w.heap.size w (wd.setCell ⟨w.heap.size, 2, none⟩ (.int .i64 (max (plan - 1) 0)))) := (HB1.out.setCell (p := ⟨w.heap.size, 2, none⟩) (Nat.le_refl _) _)
      have HR2 : Hid (RLi (wd.setCell ⟨w.heap.size, 2, none⟩ (.int .i64 (max (plan - 1) 0))) (.slice la R.length lc) R (inDo w T)) := (HR1.out.store (p := ⟨w.heap.size, 2, none⟩) hnod _)
      clear HD1 HO1 HZ1 HR1
      have hwp : w.heap.size + 3 ≤ (wd.setCell ⟨w.heap.size, 2, none⟩ (.int .i64 (max (plan - 1) 0))).heap.size := by rw [← HSZ.out]; simp [World.setCell]
      generalize (wd.setCell ⟨w.heap.size, 2, none⟩ (.int .i64 (max (plan - 1) 0))) = wp at *
      clear hx0 hx1 hx2 hx3 hd2 hd3
      obtain ⟨hx0, hx1, hx2, hx3⟩ := cells4 HD2.out
      obtain ⟨ho0, ho1, ho2, ho3⟩ := cells4 HO2.out

      have HST : Hid (∀ (c : Int), (stepF ⟨room, R.map RF.f, plan, false⟩, c) = ((⟨room, R.map RF.f, max (plan - 1) 0, false⟩ : DS), c)) := fun c => rfl
      go_wp2_with fail
      refine (rfind_any room (max (plan - 1) 0) false _ R _ name _ HR2.out (by omega)).mono ?_
      rintro e w3 ⟨rfl, hb3⟩
      have HD3 := Lib.hid ((hb3.block _ (lt_of_heap HD2.out)).trans HD2.out)
      have HO3 := Lib.hid ((hb3.block _ (lt_of_heap HO2.out)).trans HO2.out)
      have HZ3 := Lib.hid ((hb3.block _ (lt_of_heap HZ2.out)).trans HZ2.out)
      have HB3 := Lib.hid (HB2.out.trans (hb3.mono HB2.out.size))
      have HR3 := Lib.hid (HR2.out.below hb3)
      clear HD2 HO2 HZ2 HR2
      have HW3 := Nat.le_trans hwp hb3.size
      clear hx0 hx1 hx2 hx3 ho0 ho1 ho2 ho3 hb3
      obtain ⟨hx0, hx1, hx2, hx3⟩ := cells4 HD3.out
      obtain ⟨ho0, ho1, ho2, ho3⟩ := cells4 HO3.out

      have HFN := Lib.hid (first_name R name)
      go_wp2_with fail
      refine (rnamed_any name _ hn).mono ?_
      rintro e w4 ⟨rfl, hw4⟩
      obtain rfl := hw4.symm
      cases hnm : namedB name with
      | false =>
        have HV : Hid (DD = (stepF ⟨room, R.map RF.f, plan, false⟩, 6)) := by rw [Hid, HSTEP.out, if_pos (.inl hnm)]
        obtain ⟨hq0, hq1, hq2, hq3⟩ := cells4 HZ3.out
        have hz0 := freeAt HZ3.out 0
        have hz1 := freeAt HZ3.out 1
        have hz2 := freeAt HZ3.out 2
        have hz3 := freeAt HZ3.out 3
        go_wp2
        try simp only [Exit.inBlock, Exit.then]
        exact rdo_end 6 HZ3.out HB3.out HR3.out (HV.out) rfl rfl
      | true =>
        rcases HFN.out with hmiss | ⟨i, hi, hni, hlow⟩
        · have HV : Hid (DD = (stepF ⟨room, R.map RF.f, plan, false⟩, 6)) := by rw [Hid, HSTEP.out, if_pos (.inr (.inr ⟨by decide, findD_miss hmiss⟩))]
          rw [posR_miss hmiss] at *
          clear hmiss HFN
          obtain ⟨hq0, hq1, hq2, hq3⟩ := cells4 HZ3.out
          have hz0 := freeAt HZ3.out 0
          have hz1 := freeAt HZ3.out 1
          have hz2 := freeAt HZ3.out 2
          have hz3 := freeAt HZ3.out 3
          go_wp2
          try simp only [Exit.inBlock, Exit.then]
          exact rdo_end 6 HZ3.out HB3.out HR3.out (HV.out) rfl rfl
        · have HV : Hid (DD = (⟨room, putF (R.map RF.f) ⟨R[i].f.name, R[i].f.b, R[i].f.b.length⟩, max (plan - 1) 0, false⟩, 0)) := by
            rw [Hid, HSTEP.out]; simp [hnm, findD_hit hi hni hlow, stepF]
          rw [posR_hit hi hni hlow] at *
          obtain ⟨lb, lo, lcc, he, hcap, hlb, hcell⟩ := HR3.out.cells (by omega)
          obtain ⟨rfl, rfl⟩ : la = some ⟨lb, lo, none⟩ ∧ lc = lcc := by cases he; exact ⟨rfl, rfl⟩
          obtain ⟨hc0, hc1, hc2⟩ := hcell i hi
          have hmem : R[i] ∈ R := List.getElem_mem hi
          clear hcell he hni hlow HFN HSTEP HDD
          generalize R[i] = r at *
          go_upto_region 17 with fail
          have HF4 : Hid ((w3.alloc (.cells #[.string r.f.name, .slice r.a r.f.b.length r.c, .int .i64 r.f.d] 120)).heap[w3.heap.size]? = some (.cells #[.string r.f.name, .slice r.a r.f.b.length r.c, .int .i64 r.f.d] 120 (0, 0))) := heap_alloc_new _ _
          have hb4 : Below w3.heap.size w3 (w3.alloc (.cells #[.string r.f.name, .slice r.a r.f.b.length r.c, .int .i64 r.f.d] 120)) := (Below.refl _ _).alloc (Nat.le_refl _) _
          have HR4' : Hid (RLi (w3.alloc (.cells #[.string r.f.name, .slice r.a r.f.b.length r.c, .int .i64 r.f.d] 120)) _ R (fun k => inDo w T k ∧ k < w3.heap.size)) := HR3.out.tight.below hb4
          have HD4 := Lib.hid ((hb4.block _ (lt_of_heap HD3.out)).trans HD3.out)
          have HO4 := Lib.hid ((hb4.block _ (lt_of_heap HO3.out)).trans HO3.out)
          have HZ4 := Lib.hid ((hb4.block _ (lt_of_heap HZ3.out)).trans HZ3.out)
          have HB4 := Lib.hid (HB3.out.trans (hb4.mono HB3.out.size))
          have HR4 := Lib.hid (HR3.out.below hb4)
          clear HD3 HO3 HZ3 HR3
          have HR4 := HR4'
          have HRI : Hid (okR (w3.alloc (.cells #[.string r.f.name, .slice r.a r.f.b.length r.c, .int .i64 r.f.d] 120)) (fun k => inDo w T k ∧ k < w3.heap.size) r) := HR4.out.byt r hmem
          have HW4 : w3.heap.size < (w3.alloc (.cells #[.string r.f.name, .slice r.a r.f.b.length r.c, .int .i64 r.f.d] 120)).heap.size := by rw [World.size_alloc]; omega
          generalize w3.alloc (.cells #[.string r.f.name, .slice r.a r.f.b.length r.c, .int .i64 r.f.d] 120) = w4 at *
          clear hx0 hx1 hx2 hx3 ho0 ho1 ho2 ho3 hc0 hc1 hc2 hb4 HR4'
          obtain ⟨hx0, hx1, hx2, hx3⟩ := cells4 HD4.out
          obtain ⟨ho0, ho1, ho2, ho3⟩ := cells4 HO4.out
          obtain ⟨hy0, hy1, hy2⟩ := cells3 HF4.out
          have hd1 := freeAt HD4.out 1
          have hw1 : w.heap.size + 3 ≤ w3.heap.size := HW3
          have hf2 := freeAt HF4.out 2
          go_upto_region 25 with fail
          have HD5 : Hid ((w4.setCell ⟨w3.heap.size, 2, none⟩ (.int .i64 r.f.b.length)).heap[w.heap.size]? = _) := (Below.heap_setCell _ ⟨w3.heap.size, 2, none⟩ _ _ (by show w.heap.size ≠ w3.heap.size; omega)).trans HD4.out
          have HO5 : Hid ((w4.setCell ⟨w3.heap.size, 2, none⟩ (.int .i64 r.f.b.length)).heap[w.heap.size + 1]? = _) := (Below.heap_setCell _ ⟨w3.heap.size, 2, none⟩ _ _ (by show w.heap.size + 1 ≠ w3.heap.size; omega)).trans HO4.out
          have HZ5 : Hid ((w4.setCell ⟨w3.heap.size, 2, none⟩ (.int .i64 r.f.b.length)).heap[w.heap.size + 1 + 1]? = _) := (Below.heap_setCell _ ⟨w3.heap.size, 2, none⟩ _ _ (by show w.heap.size + 1 + 1 ≠ w3.heap.size; omega)).trans HZ4.out
          have HB5 : Hid (Below w.heap.size w (w4.setCell ⟨w3.heap.size, 2, none⟩ (.int .i64 r.f.b.length))) := HB4.out.setCell (p := ⟨w3.heap.size, 2, none⟩) (by show w.heap.size ≤ w3.heap.size; omega) _
          have HF5 : Hid ((w4.setCell ⟨w3.heap.size, 2, none⟩ (.int .i64 r.f.b.length)).heap[w3.heap.size]? = some (.cells #[.string r.f.name, .slice r.a r.f.b.length r.c, .int .i64 r.f.b.length] 120 (0, 0))) := heap_store HF4.out 2 _
          have HR5 := Lib.hid (HR4.out.frame (w' := (w4.setCell ⟨w3.heap.size, 2, none⟩ (.int .i64 r.f.b.length))) (fun k hk _ => Below.heap_setCell _ ⟨w3.heap.size, 2, none⟩ _ _ (by have h9 := hk.2; intro e; have e2 : k = w3.heap.size := e; omega)))
          have HI5 : Hid (Row (w4.setCell ⟨w3.heap.size, 2, none⟩ (.int .i64 r.f.b.length)) 5 1 (.slice r.a r.f.b.length r.c) r.f.b.length (byts r.f.b) (fun k => inDo w T k ∧ k < w3.heap.size)) := HRI.out.1.frame (fun k hk _ => Below.heap_setCell _ ⟨w3.heap.size, 2, none⟩ _ _ (by have h9 := hk.2; intro e; have e2 : k = w3.heap.size := e; omega))
          have hws : w.heap.size + 3 ≤ (w4.setCell ⟨w3.heap.size, 2, none⟩ (.int .i64 r.f.b.length)).heap.size := by simp [World.setCell]; omega
          generalize (w4.setCell ⟨w3.heap.size, 2, none⟩ (.int .i64 r.f.b.length)) = w5 at *
          clear HD4 HO4 HZ4 HF4 HR4 hx0 hx1 hx2 hx3 ho0 ho1 ho2 ho3 hy0 hy1 hy2 hd1 hf2
          obtain ⟨hx0, hx1, hx2, hx3⟩ := cells4 HD5.out
          obtain ⟨hy0, hy1, hy2⟩ := cells3 HF5.out
          have hd1 := freeAt HD5.out 1
          obtain ⟨TP, hTP⟩ : ∃ TP, TP = (fun k => inDo w T k ∧ k < w3.heap.size) := ⟨_, rfl⟩
          have HTP : ∀ k, TP k → inDo w T k := fun k hk => by rw [hTP] at hk; exact hk.1
          rw [← hTP] at HR5 HI5
          have HRP := HR5
          have HOKP : Hid (okR w5 TP ⟨⟨r.f.name, r.f.b, r.f.b.length⟩, r.a, r.c⟩) := ⟨HI5.out, Nat.le_refl _, HRI.out.2.2⟩
          clear hTP HI5
          go_wp2_with fail
          refine (rput_any _ R TP ⟨⟨r.f.name, r.f.b, r.f.b.length⟩, r.a, r.c⟩ _ HRP.out (by omega) HOKP.out).mono ?_
          rintro e w8 ⟨v8, rfl, hr8, hb8⟩
          obtain ⟨a8, c8, rfl⟩ := slice_form hr8.row
          have hr8' := Lib.hid (hr8.mono (T' := inDo w T) (fun k hk => by rcases hk with hk | hk; exact HTP k hk; exact .inr (by omega)))
          have HR5 := HRP
          have HD8 := Lib.hid ((hb8.block _ (lt_of_heap HD5.out)).trans HD5.out)
          have HO8 := Lib.hid ((hb8.block _ (lt_of_heap HO5.out)).trans HO5.out)
          have HZ8 := Lib.hid ((hb8.block _ (lt_of_heap HZ5.out)).trans HZ5.out)
          have HB8 := Lib.hid (HB5.out.trans (hb8.mono HB5.out.size))
          have HR8 := Lib.hid (HR5.out.below hb8)
          clear HD5 HO5 HZ5 HR5
          clear hx0 hx1 hx2 hx3 hb8 hr8 hd1 HR8
          have hd1 := freeAt HD8.out 1
          obtain ⟨hx0, hx1, hx2, hx3⟩ := cells4 HD8.out

          generalize (putR R ⟨⟨r.f.name, r.f.b, r.f.b.length⟩, r.a, r.c⟩).length = n8 at *
          go_upto_region 32 with fail
          have HD9 : Hid ((w8.setCell ⟨w.heap.size, 1, none⟩ (.slice a8 n8 c8)).heap[w.heap.size]? = some (.cells #[.int .i64 room, (.slice a8 n8 c8), .int .i64 (max (plan - 1) 0), .bool false] 32 (0, 0))) := heap_store HD8.out 1 _
          have HO9 : Hid ((w8.setCell ⟨w.heap.size, 1, none⟩ (.slice a8 n8 c8)).heap[w.heap.size + 1]? = _) := (Below.heap_setCell _ ⟨w.heap.size, 1, none⟩ _ _ (by show w.heap.size + 1 ≠ w.heap.size; omega)).trans HO8.out
          have HZ9 : Hid ((w8.setCell ⟨w.heap.size, 1, none⟩ (.slice a8 n8 c8)).heap[w.heap.size + 1 + 1]? = _) := (Below.heap_setCell _ ⟨w.heap.size, 1, none⟩ _ _ (by show w.heap.size + 1 + 1 ≠ w.heap.size; omega)).trans HZ8.out
          have HB9 : Hid (Below w.heap.size w (w8.setCell ⟨w.heap.size, 1, none⟩ (.slice a8 n8 c8))) := HB8.out.setCell (p := ⟨w.heap.size, 1, none⟩) (Nat.le_refl _) _
          have HR9 : Hid (RLi (w8.setCell ⟨w.heap.size, 1, none⟩ (.slice a8 n8 c8)) (.slice a8 n8 c8) (putR R ⟨⟨r.f.name, r.f.b, r.f.b.length⟩, r.a, r.c⟩) (inDo w T)) := hr8'.out.store (p := ⟨w.heap.size, 1, none⟩) hnod _
          generalize (w8.setCell ⟨w.heap.size, 1, none⟩ (.slice a8 n8 c8)) = w9 at *
          clear hx0 hx1 hx2 hx3 hd1
          obtain ⟨hx0, hx1, hx2, hx3⟩ := cells4 HD9.out
          obtain ⟨hq0, hq1, hq2, hq3⟩ := cells4 HZ9.out
          have hz0 := freeAt HZ9.out 0
          have hz1 := freeAt HZ9.out 1
          have hz2 := freeAt HZ9.out 2
          have hz3 := freeAt HZ9.out 3
          go_wp2
          try simp only [Exit.inBlock, Exit.then]
          exact rdo_end 0 HZ9.out HB9.out HR9.out (by rw [HV.out, putR_f]) rfl rfl
end Go.Proofs.YtgdmdbdljmlkkaaGreatDoor
