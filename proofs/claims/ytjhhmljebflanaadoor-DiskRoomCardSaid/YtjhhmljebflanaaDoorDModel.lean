/- The law's Model: an operation on the disk of the reference. -/
import Derived.Test.YtjhhmljebflanaaDoorDAct
import Derived.Test.YtjhhmljebflanaaDoorRd1
import Derived.Test.YtjhhmljebflanaaDoorRd2
import Derived.Test.YtjhhmljebflanaaDoorRd3
import Derived.Test.YtjhhmljebflanaaDoorRd4
import Derived.Test.YtjhhmljebflanaaDoorRd5
namespace Go.Proofs.YtjhhmljebflanaaDoor
set_option linter.unusedVariables false
set_option linter.unusedSimpArgs false
open Go.RowKit

/-- What an operation does to the disk of the reference. -/
def actF (F : DS) (a : AC) : DS × Int × List UInt8 :=
  if a.k = 1 then ((doF 1 F a.name a.to a.b).1, (doF 1 F a.name a.to a.b).2, [])
  else if a.k = 2 then ((doF 2 F a.name a.to a.b).1, (doF 2 F a.name a.to a.b).2, [])
  else if a.k = 3 then ((doF 3 F a.name a.to a.b).1, (doF 3 F a.name a.to a.b).2, [])
  else if a.k = 4 then ((doF 4 F a.name a.to a.b).1, (doF 4 F a.name a.to a.b).2, [])
  else if a.k = 5 then ((doF 5 F a.name a.to a.b).1, (doF 5 F a.name a.to a.b).2, [])
  else if a.k = 6 then ({ F with plan := max a.n 0 }, 0, [])
  else if a.k = 7 then (⟨F.room, crashF F.files a.keep, 0, false⟩, 0, [])
  else (F, (readD F a.name).2, (readD F a.name).1)

def MPost (w : World) (T : Nat → Prop) (r : DS × Int × List UInt8) : Ending → World → Prop := fun e w' =>
  ∃ v' R' rv, e = .returned (.tuple #[rdisk r.1.room v' r.1.plan r.1.down, .int .i64 r.2.1, rv]) ∧ R'.map RF.f = r.1.files ∧ RLi w' v' R' (fun k => T k ∨ w.heap.size ≤ k) ∧ Row w' 5 1 rv r.2.2.length (byts r.2.2) (fun k => T k ∨ w.heap.size ≤ k) ∧ Below w.heap.size w w'

theorem results_row_tmp2 {P : Program} {fn : Func} {p u v : Tmp} {ty : TypeId} (h : fn.results = #[.cell p ty, .tmp u, .tmp v]) (tmps : Array Value) (w : World) (g : Nat) (t : TypeId) (cs : Array Value) (fr : Nat × Nat) (d : TypeDesc)
    (hp : tmps.getD p undef = .pointer (some ⟨g, 0, none⟩)) (hg : w.heap[g]? = some (.cells cs t fr))
    (hu : P.underlying ty = some d) (hd : (match d with | .struct _ | .array _ _ => true | _ => false) = true) (hi : (P.info? ty).map (·.size) = some cs.size) :
    (results fn tmps).run P w = .ok (.tuple #[.agg cs, tmps.getD u undef, tmps.getD v undef]) w := by
  have hl := run_loadVar_row w g t ty cs fr d hg hu hd hi
  simp only [results, h]
  simp [Sem.run_bind, Result.andThen, show tmps[p]?.getD undef = _ from by simpa [Array.getD_eq_getD_getElem?] using hp, asAddr, hl]

set_option maxRecDepth 100000 in
theorem rmodel_end {w wz : World} {T : Nat → Prop} {room plan : Int} {down : Bool} {v rv : Value} {R : List RF} {r : DS × Int × List UInt8} {x0 x1 x2 x3 : Value} (code : Int) (bs : List UInt8) (hz : wz.heap[w.heap.size + 1 + 1]? = some (.cells #[x0, x1, x2, x3] 46 (0, 0)))
    (hb : Below w.heap.size w wz) (hr : RLi wz v R (inDo w T)) (hrow : Row wz 5 1 rv bs.length (byts bs) (inDo w T)) (he : r = (⟨room, R.map RF.f, plan, down⟩, code, bs)) {tmps : Array Value} (h4 : tmps.getD 4 undef = .pointer (some ⟨w.heap.size + 1 + 1, 0, none⟩)) (h5 : tmps.getD 5 undef = .int .i64 code) (h6 : tmps.getD 6 undef = rv) :
    bodyPost Tryd.prog Tryd.f20 (MPost w T r) Exit.ret { tmps := tmps, defers := [] } ((((wz.setCell ⟨w.heap.size + 1 + 1, 0, none⟩ (.int .i64 room)).setCell ⟨w.heap.size + 1 + 1, 1, none⟩ v).setCell ⟨w.heap.size + 1 + 1, 2, none⟩ (.int .i64 plan)).setCell ⟨w.heap.size + 1 + 1, 3, none⟩ (.bool down)) := by
  have HRF := heap_store (heap_store (heap_store (heap_store hz 0 (.int .i64 room)) 1 v) 2 (.int .i64 plan)) 3 (.bool down)
  refine bodyPost_ret (results_row_tmp2 (P := Tryd.prog) Tryd.results20 _ _ (w.heap.size + 1 + 1) 46 #[.int .i64 room, v, .int .i64 plan, .bool down] (0, 0) _ h4 HRF Tryd.underlying46 rfl rfl) rfl ?_
  rw [h5, h6, he]
  have hno : ¬ inDo w T (w.heap.size + 1 + 1) := by rintro (h | h) <;> omega
  have hle : w.heap.size ≤ w.heap.size + 1 + 1 := by omega
  have hfr : ∀ k, inDo w T k → ((((wz.setCell ⟨w.heap.size + 1 + 1, 0, none⟩ (.int .i64 room)).setCell ⟨w.heap.size + 1 + 1, 1, none⟩ v).setCell ⟨w.heap.size + 1 + 1, 2, none⟩ (.int .i64 plan)).setCell ⟨w.heap.size + 1 + 1, 3, none⟩ (.bool down)).heap[k]? = wz.heap[k]? := fun k hk => by
    have hne : k ≠ w.heap.size + 1 + 1 := fun e => hno (e ▸ hk)
    rw [Below.heap_setCell _ _ _ _ hne, Below.heap_setCell _ _ _ _ hne, Below.heap_setCell _ _ _ _ hne, Below.heap_setCell _ _ _ _ hne]
  have hT : ∀ k, inDo w T k → T k ∨ w.heap.size ≤ k := fun k hk => by rcases hk with h | h; exact .inl h.1; exact .inr (by omega)
  exact ⟨v, R, rv, rfl, rfl, (hr.frame (fun k hk _ => hfr k hk)).mono hT, (hrow.frame (fun k hk _ => hfr k hk)).mono hT, (((hb.setCell (p := ⟨w.heap.size + 1 + 1, 0, none⟩) hle _).setCell (p := ⟨w.heap.size + 1 + 1, 1, none⟩) hle _).setCell (p := ⟨w.heap.size + 1 + 1, 2, none⟩) hle _).setCell (p := ⟨w.heap.size + 1 + 1, 3, none⟩) hle _⟩

set_option maxRecDepth 100000 in
set_option maxHeartbeats 4000000 in
theorem model_any (room plan : Int) (down : Bool) (v : Value) (R : List RF) (T : Nat → Prop) (a : AC) (w : World) (h : RLi w v R T) (hL : R.length ≤ 5000) (hp : 0 ≤ plan ∧ plan ≤ 9223372036854775807) (ha : a.ok w (fun _ => False)) (hs : sumR R ≤ 100000000) :
    Calls Tryd.prog 20 #[rdisk room v plan down, a.val] w (MPost w T (actF ⟨room, R.map RF.f, plan, down⟩ a)) := by
  obtain ⟨la, lc, rfl⟩ := slice_form h.row
  obtain ⟨k, name, to, b, ba, bc, n, keep, ka, kc⟩ := a
  have HRB := Lib.hid ha.rb
  have HRK := Lib.hid ha.rk
  have hlb : b.length ≤ 100000 := ha.lb
  have hlk : keep.length ≤ 100000 := ha.lk
  have hln : name.size ≤ 100000 := ha.ln
  have hlt : to.size ≤ 100000 := ha.lt
  simp only [AC.val] at *
  have h3 := heap3 w (.cells #[.int .i64 room, .slice la R.length lc, .int .i64 plan, .bool down] 46) (.cells #[.int .i64 k, .string name, .string to, .slice ba b.length bc, .int .i64 n, .slice ka keep.length kc] 41) (.cells #[.int .i64 0, .slice none 0 0, .int .i64 0, .bool false] 46)
  have hb3 := below3 w (.cells #[.int .i64 room, .slice la R.length lc, .int .i64 plan, .bool down] 46) (.cells #[.int .i64 k, .string name, .string to, .slice ba b.length bc, .int .i64 n, .slice ka keep.length kc] 41) (.cells #[.int .i64 0, .slice none 0 0, .int .i64 0, .bool false] 46)
  have HD1 : Hid ((((w.alloc (.cells #[.int .i64 room, .slice la R.length lc, .int .i64 plan, .bool down] 46)).alloc (.cells #[.int .i64 k, .string name, .string to, .slice ba b.length bc, .int .i64 n, .slice ka keep.length kc] 41)).alloc (.cells #[.int .i64 0, .slice none 0 0, .int .i64 0, .bool false] 46)).heap[w.heap.size]? = some (.cells #[.int .i64 room, .slice la R.length lc, .int .i64 plan, .bool down] 46 (0, 0))) := h3.1.trans (heap_alloc_new _ _)
  have HO1 : Hid ((((w.alloc (.cells #[.int .i64 room, .slice la R.length lc, .int .i64 plan, .bool down] 46)).alloc (.cells #[.int .i64 k, .string name, .string to, .slice ba b.length bc, .int .i64 n, .slice ka keep.length kc] 41)).alloc (.cells #[.int .i64 0, .slice none 0 0, .int .i64 0, .bool false] 46)).heap[w.heap.size + 1]? = some (.cells #[.int .i64 k, .string name, .string to, .slice ba b.length bc, .int .i64 n, .slice ka keep.length kc] 41 (0, 0))) := h3.2.1.trans (heap_alloc_new _ _)
  have HZ1 : Hid ((((w.alloc (.cells #[.int .i64 room, .slice la R.length lc, .int .i64 plan, .bool down] 46)).alloc (.cells #[.int .i64 k, .string name, .string to, .slice ba b.length bc, .int .i64 n, .slice ka keep.length kc] 41)).alloc (.cells #[.int .i64 0, .slice none 0 0, .int .i64 0, .bool false] 46)).heap[w.heap.size + 1 + 1]? = some (.cells #[.int .i64 0, .slice none 0 0, .int .i64 0, .bool false] 46 (0, 0))) := h3.2.2.trans (heap_alloc_new _ _)
  have HB1 := Lib.hid hb3.1
  have HSZ := Lib.hid hb3.2
  have HR1 := Lib.hid ((h.tight.below hb3.1).mono (T' := inDo w T) (fun k hk => .inl hk))
  obtain ⟨MD, hMD⟩ : ∃ MD, MD = actF ⟨room, R.map RF.f, plan, down⟩ ⟨k, name, to, b, ba, bc, n, keep, ka, kc⟩ := ⟨_, rfl⟩
  rw [← hMD]
  have HMD := Lib.hid hMD
  have hnod : ¬ inDo w T w.heap.size := by rintro (h | h) <;> omega
  clear h ha h3 hb3 hMD
  have hcases : k = 1 ∨ k = 2 ∨ k = 3 ∨ k = 4 ∨ k = 5 ∨ k = 6 ∨ k = 7 ∨ (k ≠ 1 ∧ k ≠ 2 ∧ k ≠ 3 ∧ k ≠ 4 ∧ k ≠ 5 ∧ k ≠ 6 ∧ k ≠ 7) := by omega
  go_enter Tryd.func20, Tryd.ntmps20
  go_upto_region 1 with fail
  generalize (((w.alloc (.cells #[.int .i64 room, .slice la R.length lc, .int .i64 plan, .bool down] 46)).alloc (.cells #[.int .i64 k, .string name, .string to, .slice ba b.length bc, .int .i64 n, .slice ka keep.length kc] 41)).alloc (.cells #[.int .i64 0, .slice none 0 0, .int .i64 0, .bool false] 46)) = wd at *
  obtain ⟨hx0, hx1, hx2, hx3⟩ := cells4 HD1.out
  have ho0 := cellAt HO1.out 0 rfl
  have ho1 := cellAt HO1.out 1 rfl
  have ho2 := cellAt HO1.out 2 rfl
  have ho3 := cellAt HO1.out 3 rfl
  have ho4 := cellAt HO1.out 4 rfl
  have ho5 := cellAt HO1.out 5 rfl
  rcases hcases with rfl | rfl | rfl | rfl | rfl | rfl | rfl | ⟨h1, h2, h3, h4, h5, h6, h7⟩
  · have HV : Hid (MD = ((doF 1 ⟨room, R.map RF.f, plan, down⟩ name to b).1, (doF 1 ⟨room, R.map RF.f, plan, down⟩ name to b).2, [])) := by rw [Hid, HMD.out]; rfl
    obtain ⟨⟨⟨room2, fl2, plan2, down2⟩, c2⟩, hDR⟩ : ∃ r, r = doF 1 ⟨room, R.map RF.f, plan, down⟩ name to b := ⟨_, rfl⟩
    have HC := Lib.hid (rdo1_any room plan down _ R (inDo w T) name to b ba bc wd HR1.out hL hp hln hlt (HRB.out.later HB1.out) (by omega))
    rw [← hDR] at HV HC
    clear hDR
    go_wp2_with fail
    refine HC.out.mono ?_
    rintro e w2 ⟨v2, R2, rfl, hf2, hr2, hb2⟩
    simp only at hf2
    subst hf2
    obtain ⟨a2, cc2, rfl⟩ := slice_form hr2.row
    have HZ2 := Lib.hid ((hb2.block _ (lt_of_heap HZ1.out)).trans HZ1.out)
    have HB2 := Lib.hid (HB1.out.trans (hb2.mono HB1.out.size))
    have HR2 := Lib.hid (hr2.mono (T' := inDo w T) (fun j hj => by have := HSZ.out; rcases hj with hj | hj; exact hj; exact .inr (by omega)))
    have HW2 := Lib.hid hb2.size
    clear hr2 hb2 HC HZ1 hx0 hx1 hx2 hx3 ho0 ho1 ho2 ho3 ho4 ho5
    simp only at *
    go_upto_region 8 with fail
    have hb4 : Below w2.heap.size w2 (w2.alloc (.cells #[.int .i64 room2, .slice a2 R2.length cc2, .int .i64 plan2, .bool down2] 46)) := (Below.refl _ _).alloc (Nat.le_refl _) _
    have HF4 : Hid ((w2.alloc (.cells #[.int .i64 room2, .slice a2 R2.length cc2, .int .i64 plan2, .bool down2] 46)).heap[w2.heap.size]? = some (.cells #[.int .i64 room2, .slice a2 R2.length cc2, .int .i64 plan2, .bool down2] 46 (0, 0))) := heap_alloc_new _ _
    have HZ4 := Lib.hid ((hb4.block _ (lt_of_heap HZ2.out)).trans HZ2.out)
    have HB4 := Lib.hid (HB2.out.trans (hb4.mono HB2.out.size))
    have HR4 := Lib.hid (HR2.out.below hb4)
    generalize w2.alloc (.cells #[.int .i64 room2, .slice a2 R2.length cc2, .int .i64 plan2, .bool down2] 46) = w4 at *
    clear hb4 HZ2
    obtain ⟨hx0, hx1, hx2, hx3⟩ := cells4 HF4.out
    obtain ⟨hq0, hq1, hq2, hq3⟩ := cells4 HZ4.out
    have hz0 := freeAt HZ4.out 0
    have hz1 := freeAt HZ4.out 1
    have hz2 := freeAt HZ4.out 2
    have hz3 := freeAt HZ4.out 3
    go_wp2
    try simp only [Exit.inBlock, Exit.then]
    exact rmodel_end c2 [] HZ4.out HB4.out HR4.out (Row.nil _ _ _ _) HV.out rfl rfl rfl
  · have HV : Hid (MD = ((doF 2 ⟨room, R.map RF.f, plan, down⟩ name to b).1, (doF 2 ⟨room, R.map RF.f, plan, down⟩ name to b).2, [])) := by rw [Hid, HMD.out]; rfl
    obtain ⟨⟨⟨room2, fl2, plan2, down2⟩, c2⟩, hDR⟩ : ∃ r, r = doF 2 ⟨room, R.map RF.f, plan, down⟩ name to b := ⟨_, rfl⟩
    have HC := Lib.hid (rdo2_any room plan down _ R (inDo w T) name to b ba bc wd HR1.out hL hp hln hlt (HRB.out.later HB1.out) (by omega))
    rw [← hDR] at HV HC
    clear hDR
    go_wp2_with fail
    refine HC.out.mono ?_
    rintro e w2 ⟨v2, R2, rfl, hf2, hr2, hb2⟩
    simp only at hf2
    subst hf2
    obtain ⟨a2, cc2, rfl⟩ := slice_form hr2.row
    have HZ2 := Lib.hid ((hb2.block _ (lt_of_heap HZ1.out)).trans HZ1.out)
    have HB2 := Lib.hid (HB1.out.trans (hb2.mono HB1.out.size))
    have HR2 := Lib.hid (hr2.mono (T' := inDo w T) (fun j hj => by have := HSZ.out; rcases hj with hj | hj; exact hj; exact .inr (by omega)))
    have HW2 := Lib.hid hb2.size
    clear hr2 hb2 HC HZ1 hx0 hx1 hx2 hx3 ho0 ho1 ho2 ho3 ho4 ho5
    simp only at *
    go_upto_region 8 with fail
    have hb4 : Below w2.heap.size w2 (w2.alloc (.cells #[.int .i64 room2, .slice a2 R2.length cc2, .int .i64 plan2, .bool down2] 46)) := (Below.refl _ _).alloc (Nat.le_refl _) _
    have HF4 : Hid ((w2.alloc (.cells #[.int .i64 room2, .slice a2 R2.length cc2, .int .i64 plan2, .bool down2] 46)).heap[w2.heap.size]? = some (.cells #[.int .i64 room2, .slice a2 R2.length cc2, .int .i64 plan2, .bool down2] 46 (0, 0))) := heap_alloc_new _ _
    have HZ4 := Lib.hid ((hb4.block _ (lt_of_heap HZ2.out)).trans HZ2.out)
    have HB4 := Lib.hid (HB2.out.trans (hb4.mono HB2.out.size))
    have HR4 := Lib.hid (HR2.out.below hb4)
    generalize w2.alloc (.cells #[.int .i64 room2, .slice a2 R2.length cc2, .int .i64 plan2, .bool down2] 46) = w4 at *
    clear hb4 HZ2
    obtain ⟨hx0, hx1, hx2, hx3⟩ := cells4 HF4.out
    obtain ⟨hq0, hq1, hq2, hq3⟩ := cells4 HZ4.out
    have hz0 := freeAt HZ4.out 0
    have hz1 := freeAt HZ4.out 1
    have hz2 := freeAt HZ4.out 2
    have hz3 := freeAt HZ4.out 3
    go_wp2
    try simp only [Exit.inBlock, Exit.then]
    exact rmodel_end c2 [] HZ4.out HB4.out HR4.out (Row.nil _ _ _ _) HV.out rfl rfl rfl
  · have HV : Hid (MD = ((doF 3 ⟨room, R.map RF.f, plan, down⟩ name to b).1, (doF 3 ⟨room, R.map RF.f, plan, down⟩ name to b).2, [])) := by rw [Hid, HMD.out]; rfl
    obtain ⟨⟨⟨room2, fl2, plan2, down2⟩, c2⟩, hDR⟩ : ∃ r, r = doF 3 ⟨room, R.map RF.f, plan, down⟩ name to b := ⟨_, rfl⟩
    have HC := Lib.hid (rdo3_any room plan down _ R (inDo w T) name to b ba bc wd HR1.out hL hp hln hlt (HRB.out.later HB1.out) (by omega))
    rw [← hDR] at HV HC
    clear hDR
    go_wp2_with fail
    refine HC.out.mono ?_
    rintro e w2 ⟨v2, R2, rfl, hf2, hr2, hb2⟩
    simp only at hf2
    subst hf2
    obtain ⟨a2, cc2, rfl⟩ := slice_form hr2.row
    have HZ2 := Lib.hid ((hb2.block _ (lt_of_heap HZ1.out)).trans HZ1.out)
    have HB2 := Lib.hid (HB1.out.trans (hb2.mono HB1.out.size))
    have HR2 := Lib.hid (hr2.mono (T' := inDo w T) (fun j hj => by have := HSZ.out; rcases hj with hj | hj; exact hj; exact .inr (by omega)))
    have HW2 := Lib.hid hb2.size
    clear hr2 hb2 HC HZ1 hx0 hx1 hx2 hx3 ho0 ho1 ho2 ho3 ho4 ho5
    simp only at *
    go_upto_region 8 with fail
    have hb4 : Below w2.heap.size w2 (w2.alloc (.cells #[.int .i64 room2, .slice a2 R2.length cc2, .int .i64 plan2, .bool down2] 46)) := (Below.refl _ _).alloc (Nat.le_refl _) _
    have HF4 : Hid ((w2.alloc (.cells #[.int .i64 room2, .slice a2 R2.length cc2, .int .i64 plan2, .bool down2] 46)).heap[w2.heap.size]? = some (.cells #[.int .i64 room2, .slice a2 R2.length cc2, .int .i64 plan2, .bool down2] 46 (0, 0))) := heap_alloc_new _ _
    have HZ4 := Lib.hid ((hb4.block _ (lt_of_heap HZ2.out)).trans HZ2.out)
    have HB4 := Lib.hid (HB2.out.trans (hb4.mono HB2.out.size))
    have HR4 := Lib.hid (HR2.out.below hb4)
    generalize w2.alloc (.cells #[.int .i64 room2, .slice a2 R2.length cc2, .int .i64 plan2, .bool down2] 46) = w4 at *
    clear hb4 HZ2
    obtain ⟨hx0, hx1, hx2, hx3⟩ := cells4 HF4.out
    obtain ⟨hq0, hq1, hq2, hq3⟩ := cells4 HZ4.out
    have hz0 := freeAt HZ4.out 0
    have hz1 := freeAt HZ4.out 1
    have hz2 := freeAt HZ4.out 2
    have hz3 := freeAt HZ4.out 3
    go_wp2
    try simp only [Exit.inBlock, Exit.then]
    exact rmodel_end c2 [] HZ4.out HB4.out HR4.out (Row.nil _ _ _ _) HV.out rfl rfl rfl
  · have HV : Hid (MD = ((doF 4 ⟨room, R.map RF.f, plan, down⟩ name to b).1, (doF 4 ⟨room, R.map RF.f, plan, down⟩ name to b).2, [])) := by rw [Hid, HMD.out]; rfl
    obtain ⟨⟨⟨room2, fl2, plan2, down2⟩, c2⟩, hDR⟩ : ∃ r, r = doF 4 ⟨room, R.map RF.f, plan, down⟩ name to b := ⟨_, rfl⟩
    have HC := Lib.hid (rdo4_any room plan down _ R (inDo w T) name to b ba bc wd HR1.out hL hp hln hlt (HRB.out.later HB1.out) (by omega))
    rw [← hDR] at HV HC
    clear hDR
    go_wp2_with fail
    refine HC.out.mono ?_
    rintro e w2 ⟨v2, R2, rfl, hf2, hr2, hb2⟩
    simp only at hf2
    subst hf2
    obtain ⟨a2, cc2, rfl⟩ := slice_form hr2.row
    have HZ2 := Lib.hid ((hb2.block _ (lt_of_heap HZ1.out)).trans HZ1.out)
    have HB2 := Lib.hid (HB1.out.trans (hb2.mono HB1.out.size))
    have HR2 := Lib.hid (hr2.mono (T' := inDo w T) (fun j hj => by have := HSZ.out; rcases hj with hj | hj; exact hj; exact .inr (by omega)))
    have HW2 := Lib.hid hb2.size
    clear hr2 hb2 HC HZ1 hx0 hx1 hx2 hx3 ho0 ho1 ho2 ho3 ho4 ho5
    simp only at *
    go_upto_region 8 with fail
    have hb4 : Below w2.heap.size w2 (w2.alloc (.cells #[.int .i64 room2, .slice a2 R2.length cc2, .int .i64 plan2, .bool down2] 46)) := (Below.refl _ _).alloc (Nat.le_refl _) _
    have HF4 : Hid ((w2.alloc (.cells #[.int .i64 room2, .slice a2 R2.length cc2, .int .i64 plan2, .bool down2] 46)).heap[w2.heap.size]? = some (.cells #[.int .i64 room2, .slice a2 R2.length cc2, .int .i64 plan2, .bool down2] 46 (0, 0))) := heap_alloc_new _ _
    have HZ4 := Lib.hid ((hb4.block _ (lt_of_heap HZ2.out)).trans HZ2.out)
    have HB4 := Lib.hid (HB2.out.trans (hb4.mono HB2.out.size))
    have HR4 := Lib.hid (HR2.out.below hb4)
    generalize w2.alloc (.cells #[.int .i64 room2, .slice a2 R2.length cc2, .int .i64 plan2, .bool down2] 46) = w4 at *
    clear hb4 HZ2
    obtain ⟨hx0, hx1, hx2, hx3⟩ := cells4 HF4.out
    obtain ⟨hq0, hq1, hq2, hq3⟩ := cells4 HZ4.out
    have hz0 := freeAt HZ4.out 0
    have hz1 := freeAt HZ4.out 1
    have hz2 := freeAt HZ4.out 2
    have hz3 := freeAt HZ4.out 3
    go_wp2
    try simp only [Exit.inBlock, Exit.then]
    exact rmodel_end c2 [] HZ4.out HB4.out HR4.out (Row.nil _ _ _ _) HV.out rfl rfl rfl
  · have HV : Hid (MD = ((doF 5 ⟨room, R.map RF.f, plan, down⟩ name to b).1, (doF 5 ⟨room, R.map RF.f, plan, down⟩ name to b).2, [])) := by rw [Hid, HMD.out]; rfl
    obtain ⟨⟨⟨room2, fl2, plan2, down2⟩, c2⟩, hDR⟩ : ∃ r, r = doF 5 ⟨room, R.map RF.f, plan, down⟩ name to b := ⟨_, rfl⟩
    have HC := Lib.hid (rdo5_any room plan down _ R (inDo w T) name to b ba bc wd HR1.out hL hp hln hlt (HRB.out.later HB1.out) (by omega))
    rw [← hDR] at HV HC
    clear hDR
    go_wp2_with fail
    refine HC.out.mono ?_
    rintro e w2 ⟨v2, R2, rfl, hf2, hr2, hb2⟩
    simp only at hf2
    subst hf2
    obtain ⟨a2, cc2, rfl⟩ := slice_form hr2.row
    have HZ2 := Lib.hid ((hb2.block _ (lt_of_heap HZ1.out)).trans HZ1.out)
    have HB2 := Lib.hid (HB1.out.trans (hb2.mono HB1.out.size))
    have HR2 := Lib.hid (hr2.mono (T' := inDo w T) (fun j hj => by have := HSZ.out; rcases hj with hj | hj; exact hj; exact .inr (by omega)))
    have HW2 := Lib.hid hb2.size
    clear hr2 hb2 HC HZ1 hx0 hx1 hx2 hx3 ho0 ho1 ho2 ho3 ho4 ho5
    simp only at *
    go_upto_region 8 with fail
    have hb4 : Below w2.heap.size w2 (w2.alloc (.cells #[.int .i64 room2, .slice a2 R2.length cc2, .int .i64 plan2, .bool down2] 46)) := (Below.refl _ _).alloc (Nat.le_refl _) _
    have HF4 : Hid ((w2.alloc (.cells #[.int .i64 room2, .slice a2 R2.length cc2, .int .i64 plan2, .bool down2] 46)).heap[w2.heap.size]? = some (.cells #[.int .i64 room2, .slice a2 R2.length cc2, .int .i64 plan2, .bool down2] 46 (0, 0))) := heap_alloc_new _ _
    have HZ4 := Lib.hid ((hb4.block _ (lt_of_heap HZ2.out)).trans HZ2.out)
    have HB4 := Lib.hid (HB2.out.trans (hb4.mono HB2.out.size))
    have HR4 := Lib.hid (HR2.out.below hb4)
    generalize w2.alloc (.cells #[.int .i64 room2, .slice a2 R2.length cc2, .int .i64 plan2, .bool down2] 46) = w4 at *
    clear hb4 HZ2
    obtain ⟨hx0, hx1, hx2, hx3⟩ := cells4 HF4.out
    obtain ⟨hq0, hq1, hq2, hq3⟩ := cells4 HZ4.out
    have hz0 := freeAt HZ4.out 0
    have hz1 := freeAt HZ4.out 1
    have hz2 := freeAt HZ4.out 2
    have hz3 := freeAt HZ4.out 3
    go_wp2
    try simp only [Exit.inBlock, Exit.then]
    exact rmodel_end c2 [] HZ4.out HB4.out HR4.out (Row.nil _ _ _ _) HV.out rfl rfl rfl
  · have HV : Hid (MD = (⟨room, R.map RF.f, max n 0, down⟩, 0, [])) := by rw [Hid, HMD.out]; rfl
    have hd2 := freeAt HD1.out 2
    go_upto_region 11 with fail
    have HD2 : Hid ((wd.setCell ⟨w.heap.size, 2, none⟩ (.int .i64 (max n 0))).heap[w.heap.size]? = some (.cells #[.int .i64 room, .slice la R.length lc, .int .i64 (max n 0), .bool down] 46 (0, 0))) := heap_store HD1.out 2 _
    have HZ2 : Hid ((wd.setCell ⟨w.heap.size, 2, none⟩ (.int .i64 (max n 0))).heap[w.heap.size + 1 + 1]? = _) := (Below.heap_setCell _ ⟨w.heap.size, 2, none⟩ _ _ (by show w.heap.size + 1 + 1 ≠ w.heap.size; omega)).trans HZ1.out
    have HB2 : Hid (Below w.heap.size w (wd.setCell ⟨w.heap.size, 2, none⟩ (.int .i64 (max n 0)))) := HB1.out.setCell (p := ⟨w.heap.size, 2, none⟩) (Nat.le_refl _) _
    have HR2 : Hid (RLi (wd.setCell ⟨w.heap.size, 2, none⟩ (.int .i64 (max n 0))) (.slice la R.length lc) R (inDo w T)) := HR1.out.store (p := ⟨w.heap.size, 2, none⟩) hnod _
    generalize (wd.setCell ⟨w.heap.size, 2, none⟩ (.int .i64 (max n 0))) = w2 at *
    clear HZ1 hx0 hx1 hx2 hx3 ho0 ho1 ho2 ho3 ho4 ho5 hd2
    obtain ⟨hx0, hx1, hx2, hx3⟩ := cells4 HD2.out
    obtain ⟨hq0, hq1, hq2, hq3⟩ := cells4 HZ2.out
    have hz0 := freeAt HZ2.out 0
    have hz1 := freeAt HZ2.out 1
    have hz2 := freeAt HZ2.out 2
    have hz3 := freeAt HZ2.out 3
    go_wp2
    try simp only [Exit.inBlock, Exit.then]
    exact rmodel_end 0 [] HZ2.out HB2.out HR2.out (Row.nil _ _ _ _) HV.out rfl rfl rfl
  · have HV : Hid (MD = (⟨room, crashF (R.map RF.f) keep, 0, false⟩, 0, [])) := by rw [Hid, HMD.out]; rfl
    go_wp2_with fail
    refine (rcrash_any room plan down _ R (inDo w T) ka kc keep wd HR1.out (by omega) (HRK.out.later HB1.out) hlk).mono ?_
    rintro e w2 ⟨v2, rfl, hr2, hb2⟩
    obtain ⟨a2, cc2, rfl⟩ := slice_form hr2.row
    have HZ2 := Lib.hid ((hb2.block _ (lt_of_heap HZ1.out)).trans HZ1.out)
    have HB2 := Lib.hid (HB1.out.trans (hb2.mono HB1.out.size))
    have HR2 := Lib.hid (hr2.mono (T' := inDo w T) (fun j hj => by have := HSZ.out; rcases hj with hj | hj; exact hj; exact .inr (by omega)))
    clear hr2 hb2 HZ1 hx0 hx1 hx2 hx3 ho0 ho1 ho2 ho3 ho4 ho5
    generalize (crashR R keep).length = n2 at *
    obtain ⟨hq0, hq1, hq2, hq3⟩ := cells4 HZ2.out
    have hz0 := freeAt HZ2.out 0
    have hz1 := freeAt HZ2.out 1
    have hz2 := freeAt HZ2.out 2
    have hz3 := freeAt HZ2.out 3
    go_wp2
    try simp only [Exit.inBlock, Exit.then]
    exact rmodel_end 0 [] HZ2.out HB2.out HR2.out (Row.nil _ _ _ _) (by rw [HV.out, crashR_f]) rfl rfl rfl
  · have HV : Hid (MD = (⟨room, R.map RF.f, plan, down⟩, (readD ⟨room, R.map RF.f, plan, down⟩ name).2, (readD ⟨room, R.map RF.f, plan, down⟩ name).1)) := by
      rw [Hid, HMD.out]
      simp only [actF, if_neg h1, if_neg h2, if_neg h3, if_neg h4, if_neg h5, if_neg h6, if_neg h7]
    have HC := Lib.hid (rread_any room plan down _ R (inDo w T) name wd HR1.out (by omega))
    obtain ⟨⟨rb, rc⟩, hrd⟩ : ∃ r, r = readD ⟨room, R.map RF.f, plan, down⟩ name := ⟨_, rfl⟩
    rw [← hrd] at HV HC
    clear hrd
    have g1 : (k == 1) = false := by simpa using h1
    have g2 : (k == 2) = false := by simpa using h2
    have g3 : (k == 3) = false := by simpa using h3
    have g4 : (k == 4) = false := by simpa using h4
    have g5 : (k == 5) = false := by simpa using h5
    have g6 : (k == 6) = false := by simpa using h6
    have g7 : (k == 7) = false := by simpa using h7
    clear h1 h2 h3 h4 h5 h6 h7
    go_wp2_with fail
    refine HC.out.mono ?_
    rintro e w2 ⟨a2, cc2, rfl, hr2, hb2⟩
    simp only at *
    have HZ2 := Lib.hid ((hb2.block _ (lt_of_heap HZ1.out)).trans HZ1.out)
    have HD2 := Lib.hid ((hb2.block _ (lt_of_heap HD1.out)).trans HD1.out)
    have HB2 := Lib.hid (HB1.out.trans (hb2.mono HB1.out.size))
    have HR2 := Lib.hid (HR1.out.below hb2)
    have HROW := Lib.hid hr2
    clear hr2 hb2 HC HZ1 hx0 hx1 hx2 hx3 ho0 ho1 ho2 ho3 ho4 ho5
    obtain ⟨hx0, hx1, hx2, hx3⟩ := cells4 HD2.out
    obtain ⟨hq0, hq1, hq2, hq3⟩ := cells4 HZ2.out
    have hz0 := freeAt HZ2.out 0
    have hz1 := freeAt HZ2.out 1
    have hz2 := freeAt HZ2.out 2
    have hz3 := freeAt HZ2.out 3
    go_wp2
    try simp only [Exit.inBlock, Exit.then]
    exact rmodel_end rc rb HZ2.out HB2.out HR2.out HROW.out HV.out rfl rfl rfl
end Go.Proofs.YtjhhmljebflanaaDoor
