/- Texts for scanBegins_holds, joined: ROpen. -/
import Derived.Test.YtgdmdbdljmlkkaaGreatDoorBg36
import Derived.Test.YtgdmdbdljmlkkaaGreatDoorBg35
import Derived.Deep.DrawnRows
namespace Go.Proofs.YtgdmdbdljmlkkaaGreatDoor
set_option linter.unusedVariables false
set_option linter.unusedSimpArgs false
open Go.RowKit
attribute [local go_sem ↓] Go.wp_at_zero Go.wp_at_succ
set_option maxRecDepth 100000 in
set_option maxHeartbeats 8000000 in
theorem rscopen_any (room plan most : Int) (down : Bool) (v : Value) (R : List RF) (T : Nat → Prop) (w : World) (h : RLi w v R T) (hT : ∀ k, T k → k < w.heap.size) (hl : R.length ≤ 1000) (hb : ∀ r ∈ R, r.f.b.length ≤ 100000) {s : Nat} (hbr : BR ⟨room, R.map RF.f, plan, down⟩ s 1000) (hs : s ≤ 100000) :
    Calls Tryz.prog 28 #[rdisk room v plan down, .int .i64 most] w (ROpenP R w T (findS ⟨room, R.map RF.f, plan, down⟩) most (openS doR ⟨room, R.map RF.f, plan, down⟩)) := by
  obtain ⟨la, lc, rfl⟩ := slice_form h.row
  have HR := Lib.hid h
  have HTT := Lib.hid hT
  have HFI := Lib.hid (fun (w' : World) (hb' : Below w.heap.size w w') => rfindlog_any room plan down (.slice la R.length lc) R T w' (h.below hb') hl hb)
  have HCL := Lib.hid (fun (va : Value) (ss : List ByteArray) (w' : World) (hb' : Below w.heap.size w w') (hr : Reads w' va ss.length 1 (strsV ss)) (hss : ss.length ≤ 1000) => rclean_any room plan down (.slice la R.length lc) R T va ss w' (h.below hb') (by omega) hr hss)
  have HST := Lib.hid (fun (w' : World) (a : Option Addr) (c : Nat) (P : List RO) (B : Nat) (hb' : Below w.heap.size w w') (ho : OpsL w w' (.slice a P.length c) P B) (hp : P.length ≤ 2000) (hby : bytsO P ≤ 100000) => (rsteps_any room plan down (.slice la R.length lc) R T a c P w' (h.below hb') (ho.ros hb') hp hbr (by omega) (by omega)).mono (fun e w2 he => dop_of he))
  have HBY := Lib.hid (fun (n : Int) (hn : n ∈ refL (R.map fun r => r.f.name)) => pos_find hn)
  have HBF := Lib.hid (fun (n : Int) (w' : World) (hb' : Below w.heap.size w w') (j : Nat) (hj : j < R.length) (hpos : posR R (nameI n) = (j : Int)) => rsbytes_fix room plan down (.slice la R.length lc) R T n w' (h.below hb') hl j hj hpos)
  have HBL := Lib.hid hb
  have hfs : (segsD ⟨room, R.map RF.f, plan, down⟩).length ≤ 1000 := by
    have := refL_length ((R.map RF.f).map DF.name)
    rw [List.length_map, List.length_map] at this
    unfold segsD; show (refL ((R.map RF.f).map DF.name)).length ≤ 1000; omega
  obtain ⟨D, hD⟩ : ∃ D : DS, D = ⟨room, R.map RF.f, plan, down⟩ := ⟨_, rfl⟩
  rw [← hD] at HFI HCL HST hfs ⊢
  obtain ⟨f, hf⟩ : ∃ f, f = findS D := ⟨_, rfl⟩
  rw [← hf] at HFI ⊢
  have HF := Lib.hid hf
  have HD := Lib.hid hD
  have HFS := Lib.hid hfs
  unfold rdisk at HFI HCL HST HBF ⊢
  have HBW : Hid (Below w.heap.size w ((w.alloc (.cells #[.int .i64 room, .slice la R.length lc, .int .i64 plan, .bool down] 32)).alloc (.cells #[.int .i64 0, .slice none 0 0, .int .i64 0, .bool false, .int .i64 0, .int .i64 0, .int .i64 0, .int .i64 0] 34))) := ((Below.refl _ _).alloc (Nat.le_refl _) _).alloc (by simp) _
  have HBX : Hid (((w.alloc (.cells #[.int .i64 room, .slice la R.length lc, .int .i64 plan, .bool down] 32)).alloc (.cells #[.int .i64 0, .slice none 0 0, .int .i64 0, .bool false, .int .i64 0, .int .i64 0, .int .i64 0, .int .i64 0] 34)).heap[w.heap.size]? = some (.cells #[.int .i64 room, .slice la R.length lc, .int .i64 plan, .bool down] 32 (0, 0))) := (alloc2_low w _ _).trans (heap_alloc_new _ _)
  have HBZ : Hid (((w.alloc (.cells #[.int .i64 room, .slice la R.length lc, .int .i64 plan, .bool down] 32)).alloc (.cells #[.int .i64 0, .slice none 0 0, .int .i64 0, .bool false, .int .i64 0, .int .i64 0, .int .i64 0, .int .i64 0] 34)).heap[w.heap.size + 1]? = some (.cells #[.int .i64 0, .slice none 0 0, .int .i64 0, .bool false, .int .i64 0, .int .i64 0, .int .i64 0, .int .i64 0] 34 (0, 0))) := alloc2_high w _ _ (heap_alloc_new _ _)
  have HSZ : Hid (((w.alloc (.cells #[.int .i64 room, .slice la R.length lc, .int .i64 plan, .bool down] 32)).alloc (.cells #[.int .i64 0, .slice none 0 0, .int .i64 0, .bool false, .int .i64 0, .int .i64 0, .int .i64 0, .int .i64 0] 34)).heap.size = w.heap.size + 2) := by simp [Hid]
  clear h hb hf hD hT hbr hs hfs hl
  go_enter Tryz.func28, Tryz.ntmps28
  go_upto_region 1 with fail
  generalize (w.alloc (.cells #[.int .i64 room, .slice la R.length lc, .int .i64 plan, .bool down] 32)).alloc (.cells #[.int .i64 0, .slice none 0 0, .int .i64 0, .bool false, .int .i64 0, .int .i64 0, .int .i64 0, .int .i64 0] 34) = wa at *
  obtain ⟨x0, x1, x2, x3⟩ := cells4 HBX.out
  go_wp2_with fail
  refine (HFI.out wa HBW.out).mono ?_
  rintro e w1 ⟨hb1, L, va, vr, ca, cr, first, X, rfl, hLr, hXr, hxx, hxl, hLs, hold, hxn⟩
  have hb2 : Below wa.heap.size wa (w1.alloc (.cells #[.slice va L.length ca, .int .i64 first, .int .i64 f.last, .slice vr X.length cr, .int .i64 f.front.length, .int .i64 f.torn, .int .i64 f.code] 61)) := hb1.alloc hb1.size _
  have HB2 := Lib.hid (HBW.out.trans (hb2.mono HBW.out.size))
  have HY2 : Hid ((w1.alloc (.cells #[.slice va L.length ca, .int .i64 first, .int .i64 f.last, .slice vr X.length cr, .int .i64 f.front.length, .int .i64 f.torn, .int .i64 f.code] 61)).heap[w1.heap.size]? = some (.cells #[.slice va L.length ca, .int .i64 first, .int .i64 f.last, .slice vr X.length cr, .int .i64 f.front.length, .int .i64 f.torn, .int .i64 f.code] 61 (0, 0))) := heap_alloc_new _ _
  have HX2 := Lib.hid ((hb2.block _ (lt_of_heap HBX.out)).trans HBX.out)
  have HZ2 := Lib.hid ((hb2.block _ (lt_of_heap HBZ.out)).trans HBZ.out)
  have HLR := Lib.hid (hLr.frame (w' := w1.alloc (.cells #[.slice va L.length ca, .int .i64 first, .int .i64 f.last, .slice vr X.length cr, .int .i64 f.front.length, .int .i64 f.torn, .int .i64 f.code] 61)) (fun k _ hk => Below.heap_alloc w1 _ _ hk)).reads
  have HXR := Lib.hid ((hXr.frame (w' := w1.alloc (.cells #[.slice va L.length ca, .int .i64 first, .int .i64 f.last, .slice vr X.length cr, .int .i64 f.front.length, .int .i64 f.torn, .int .i64 f.code] 61)) (fun k _ hk => Below.heap_alloc w1 _ _ hk)).tight.mono (T := fun k => w.heap.size + 2 ≤ k ∧ k < (w1.alloc (.cells #[.slice va L.length ca, .int .i64 first, .int .i64 f.last, .slice vr X.length cr, .int .i64 f.front.length, .int .i64 f.torn, .int .i64 f.code] 61)).heap.size) (fun k hk => ⟨by have := hk.1; have := HSZ.out; omega, hk.2⟩))
  have HXX : Hid (∀ x ∈ X, RdR R x) := fun x hx => (hxx x hx).2
  have HXL := Lib.hid hxl
  have HXN := Lib.hid hxn
  have HLS := Lib.hid hLs
  have HOL := Lib.hid hold
  have hlt1 : w.heap.size + 1 < w1.heap.size := by have h1 := lt_of_heap HBZ.out; have h2 := hb1.size; omega
  have HLT1 := Lib.hid hlt1
  clear hb1 hb2 hLr hXr hxx hxl hLs hold x0 x1 x2 x3 HFI HSZ hxn HBW HBX HBZ
  unfold logV at *
  go_upto_region 2 with fail
  generalize w1.alloc (.cells #[.slice va L.length ca, .int .i64 first, .int .i64 f.last, .slice vr X.length cr, .int .i64 f.front.length, .int .i64 f.torn, .int .i64 f.code] 61) = w2 at *
  obtain ⟨y0, y1, y2, y3, y4, y5, y6⟩ := cells7 HY2.out
  obtain ⟨x0, x1, x2, x3⟩ := cells4 HX2.out
  by_cases hc : f.code = 0
  · have HC := Lib.hid hc
    rw [hc] at y6
    have hdn : D.down = false := by
      cases hdd : D.down with
      | false => rfl
      | true => exfalso; rw [HF.out] at hc; unfold findS at hc; rw [hdd] at hc; exact absurd (show (10 : Int) = 0 from hc) (by decide)
    have HSH := Lib.hid (find_shape hdn (by rw [← HF.out]; exact hc))
    have HOS := Lib.hid (open_steps hdn (by rw [← HF.out]; exact hc))
    rw [← HF.out] at HSH HOS
    have HLE : Hid (L = segsD D) := by rw [Hid, HLS.out, if_pos hc]
    have HDN := Lib.hid hdn
    clear hc hdn HLS
    go_upto_region 4 with fail
    go_wp2_with fail
    refine (HCL.out _ [cutNm, newNm] _ (HB2.out.alloc HB2.out.size _) (reads_twoS w2 _ _ _) (by decide)).mono ?_
    rintro e w3 ⟨v3, rfl, hr3, hb3⟩
    have ho3 := opsl_clean (w0 := w) (B := w2.heap.size) hr3 (by simp) (by intro n hn; simp only [List.mem_cons, List.not_mem_nil, or_false] at hn; rcases hn with rfl | rfl <;> decide)
    have hcl : (cleanL D [cutNm, newNm]).length ≤ 2 := cleanL_len _ _
    obtain ⟨P0, hP0⟩ : ∃ P0, P0 = (cleanL D [cutNm, newNm]).map bareO := ⟨_, rfl⟩
    have hln : (cleanL D [cutNm, newNm]).length = P0.length := by rw [hP0, List.length_map]
    rw [← hP0] at ho3
    rw [hln] at hcl hr3
    obtain ⟨oa, oc, rfl⟩ := slice_form hr3
    have HO3 := Lib.hid ho3
    have HP0 : Hid ((cleanL D [cutNm, newNm]).map bareO = P0) := hP0.symm
    have HBA3 := Lib.hid (((Below.refl w2.heap.size w2).alloc (Nat.le_refl _) (.cells #[.string ⟨#[99, 117, 116]⟩, .string ⟨#[110, 101, 119]⟩] 9)).trans (hb3.mono (by simp)))
    have HB3 := Lib.hid (HB2.out.trans (HBA3.out.mono HB2.out.size))
    clear hr3 hb3 ho3 hP0 hln x0 x1 x2 x3 y0 y1 y2 y3 y4 y5 y6
    have HX3 := Lib.hid ((HBA3.out.block _ (lt_of_heap HX2.out)).trans HX2.out)
    have HY3 := Lib.hid ((HBA3.out.block _ (lt_of_heap HY2.out)).trans HY2.out)
    have HZ3 := Lib.hid ((HBA3.out.block _ (lt_of_heap HZ2.out)).trans HZ2.out)
    have HOL3 := Lib.hid (HLR.out.later HBA3.out)
    have HXR3 := Lib.hid (HXR.out.frame (w' := w3) (fun k hk hlt => HBA3.out.block k hlt))
    have HN23 : Hid (w1.heap.size < w2.heap.size) := lt_of_heap HY2.out
    have hsz23 := HBA3.out.size
    have HKD : Hid (∀ w', Hid (Below w2.heap.size w2 w') → w'.cell? ⟨w.heap.size, 0, none⟩ = some (.int .i64 room) ∧ w'.cell? ⟨w.heap.size, 1, none⟩ = some (.slice la R.length lc) ∧ w'.cell? ⟨w.heap.size, 2, none⟩ = some (.int .i64 plan) ∧ w'.cell? ⟨w.heap.size, 3, none⟩ = some (.bool down)) := fun w' hb => cells4 ((hb.out.block _ (lt_of_heap HX2.out)).trans HX2.out)
    have HKZ : Hid (∀ w', Below w2.heap.size w2 w' → w'.heap[w.heap.size + 1]? = some (.cells #[.int .i64 0, .slice none 0 0, .int .i64 0, .bool false, .int .i64 0, .int .i64 0, .int .i64 0, .int .i64 0] 34 (0, 0))) := fun w' hb => (hb.block _ (lt_of_heap HZ2.out)).trans HZ2.out
    have HKB : Hid (∀ w', Below w2.heap.size w2 w' → Below w.heap.size w w') := fun w' hb => HB2.out.trans (hb.mono HB2.out.size)
    have HTW : Hid (∀ k, T k → k < w2.heap.size) := fun k hk => by have h1 := HTT.out k hk; have h2 := HB2.out.size; omega
    obtain ⟨rr, hrr⟩ : ∃ rr, rr = openS doR D := ⟨_, rfl⟩
    rw [← hrr] at HOS ⊢
    have HRR := Lib.hid hrr
    clear hrr
    rcases HSH.out with ⟨hs0, hfb⟩ | hsh
    · have hL0 : L = [] := by rw [HLE.out]; exact hs0
      subst hL0
      simp only [List.length_nil] at *
      have hf0 : f.last = 0 := by rw [hfb]; rfl
      have HRE : Hid (rr = stepsG doR D ((P0 ++ [bareO ⟨1, nameI 1, ⟨#[]⟩, []⟩]).map RO.o)) := by
        rw [Hid, HOS.out]; unfold openOps; rw [if_pos hf0, List.map_append, ← HP0.out, bareO_o]; rfl
      have HF0 := Lib.hid hf0
      obtain ⟨y0, y1, y2, y3, y4, y5, y6⟩ := cells7 HY3.out
      clear hs0 hfb HSH hf0 HX2 HOS HLE HOL HOL3 HXR3 HXX HXL
      go_upto_region 6 with fail
      clear y0 y1 y2 y3 y4 y5 y6
      have HOW : Hid (Row w3 112 4 (.slice oa P0.length oc) P0.length (P0.flatMap opcells) (fun k => w2.heap.size ≤ k ∧ k < w3.heap.size)) := HO3.out.row.tight
      have OA : Hid (Row (w3.drew.alloc (.cells #[.int .i64 1, .string ⟨#[108, 111, 103, 45, 48, 48, 48, 48, 48, 48, 48, 49]⟩, .string ⟨#[]⟩, .slice none 0 0] 112)) 112 4 (.slice oa P0.length oc) P0.length (P0.flatMap opcells) (fun k => w2.heap.size ≤ k ∧ k < w3.heap.size)) := HOW.out.frame (fun k _ hk => Below.heap_alloc w3.drew _ _ hk)
      have OB : Hid (Row ((w3.drew.alloc (.cells #[.int .i64 0, .slice none 0 0, .int .i64 0, .bool false] 32)).alloc (.cells #[.int .i64 1, .string ⟨#[108, 111, 103, 45, 48, 48, 48, 48, 48, 48, 48, 49]⟩, .string ⟨#[]⟩, .slice none 0 0] 112)) 112 4 (.slice oa P0.length oc) P0.length (P0.flatMap opcells) (fun k => w2.heap.size ≤ k ∧ k < w3.heap.size)) := HOW.out.frame (fun k _ hk => (Below.heap_alloc (w3.drew.alloc (.cells #[.int .i64 0, .slice none 0 0, .int .i64 0, .bool false] 32)) _ _ (by simp; omega)).trans (Below.heap_alloc w3.drew _ _ hk))
      have OC : Hid (Row ((w3.drew.alloc (.cells #[.int .i64 1, .string ⟨#[108, 111, 103, 45, 48, 48, 48, 48, 48, 48, 48, 49]⟩, .string ⟨#[]⟩, .slice none 0 0] 112)).alloc (.cells #[.int .i64 0, .slice none 0 0, .int .i64 0, .bool false] 32)) 112 4 (.slice oa P0.length oc) P0.length (P0.flatMap opcells) (fun k => w2.heap.size ≤ k ∧ k < w3.heap.size)) := HOW.out.frame (fun k _ hk => (Below.heap_alloc (w3.drew.alloc (.cells #[.int .i64 1, .string ⟨#[108, 111, 103, 45, 48, 48, 48, 48, 48, 48, 48, 49]⟩, .string ⟨#[]⟩, .slice none 0 0] 112)) _ _ (by simp; omega)).trans (Below.heap_alloc w3.drew _ _ hk))
      have RA : Hid (Reads (w3.drew.alloc (.cells #[.int .i64 1, .string ⟨#[108, 111, 103, 45, 48, 48, 48, 48, 48, 48, 48, 49]⟩, .string ⟨#[]⟩, .slice none 0 0] 112)) (.slice (some ⟨w3.heap.size, 0, none⟩) 1 1) 1 4 [.int .i64 1, .string ⟨#[108, 111, 103, 45, 48, 48, 48, 48, 48, 48, 48, 49]⟩, .string ⟨#[]⟩, .slice none 0 0]) := Reads.single (heap_alloc_new w3.drew _)
      have RB : Hid (Reads ((w3.drew.alloc (.cells #[.int .i64 0, .slice none 0 0, .int .i64 0, .bool false] 32)).alloc (.cells #[.int .i64 1, .string ⟨#[108, 111, 103, 45, 48, 48, 48, 48, 48, 48, 48, 49]⟩, .string ⟨#[]⟩, .slice none 0 0] 112)) (.slice (some ⟨w3.heap.size + 1, 0, none⟩) 1 1) 1 4 [.int .i64 1, .string ⟨#[108, 111, 103, 45, 48, 48, 48, 48, 48, 48, 48, 49]⟩, .string ⟨#[]⟩, .slice none 0 0]) := Reads.single (alloc2_high w3.drew _ _ (heap_alloc_new _ _))
      have RC : Hid (Reads ((w3.drew.alloc (.cells #[.int .i64 1, .string ⟨#[108, 111, 103, 45, 48, 48, 48, 48, 48, 48, 48, 49]⟩, .string ⟨#[]⟩, .slice none 0 0] 112)).alloc (.cells #[.int .i64 0, .slice none 0 0, .int .i64 0, .bool false] 32)) (.slice (some ⟨w3.heap.size, 0, none⟩) 1 1) 1 4 [.int .i64 1, .string ⟨#[108, 111, 103, 45, 48, 48, 48, 48, 48, 48, 48, 49]⟩, .string ⟨#[]⟩, .slice none 0 0]) := Reads.single ((alloc2_low w3.drew _ _).trans (heap_alloc_new _ _))
      have BA : Hid (Below w2.heap.size w2 w3.drew) := HBA3.out.drew
      have BB : Hid (Below w2.heap.size w2 (w3.drew.alloc (.cells #[.int .i64 1, .string ⟨#[108, 111, 103, 45, 48, 48, 48, 48, 48, 48, 48, 49]⟩, .string ⟨#[]⟩, .slice none 0 0] 112))) := BA.out.alloc hsz23 _
      have BC : Hid (Below w2.heap.size w2 (w3.drew.alloc (.cells #[.int .i64 0, .slice none 0 0, .int .i64 0, .bool false] 32))) := BA.out.alloc hsz23 _
      have BD : Hid (Below w2.heap.size w2 ((w3.drew.alloc (.cells #[.int .i64 0, .slice none 0 0, .int .i64 0, .bool false] 32)).alloc (.cells #[.int .i64 1, .string ⟨#[108, 111, 103, 45, 48, 48, 48, 48, 48, 48, 48, 49]⟩, .string ⟨#[]⟩, .slice none 0 0] 112))) := BC.out.alloc (by simp; omega) _
      have BE : Hid (Below w2.heap.size w2 ((w3.drew.alloc (.cells #[.int .i64 1, .string ⟨#[108, 111, 103, 45, 48, 48, 48, 48, 48, 48, 48, 49]⟩, .string ⟨#[]⟩, .slice none 0 0] 112)).alloc (.cells #[.int .i64 0, .slice none 0 0, .int .i64 0, .bool false] 32))) := BB.out.alloc (by simp; omega) _
      have H1C : Hid (∀ u ∈ ([.int .i64 1, .string ⟨#[108, 111, 103, 45, 48, 48, 48, 48, 48, 48, 48, 49]⟩, .string ⟨#[]⟩, .slice none 0 0] : List Value), u.oneCell' = true) := by intro u hu; simp only [List.mem_cons, List.not_mem_nil, or_false] at hu; rcases hu with rfl | rfl | rfl | rfl <;> rfl
      have HMX : Hid (P0.length + 1 ≤ maxLen) := by unfold maxLen; rw [Hid]; omega
      have HBT : Hid ((P0.length + 1) * 64 ≤ 140737488355328) := by rw [Hid]; omega
      have HGO : Hid (∀ (w1' w5 : World) (v5 : Value), Row w5 112 4 v5 (P0.length + 1) (P0.flatMap opcells ++ [.int .i64 1, .string ⟨#[108, 111, 103, 45, 48, 48, 48, 48, 48, 48, 48, 49]⟩, .string ⟨#[]⟩, .slice none 0 0]) (fun k => (w2.heap.size ≤ k ∧ k < w3.heap.size) ∨ w1'.heap.size ≤ k) → w3.heap.size ≤ w1'.heap.size → Below w2.heap.size w2 w5 →
          ∃ a5 c5, v5 = .slice a5 (P0.length + 1) c5 ∧ Hid (∀ w', Below w5.heap.size w5 w' → Calls Tryz.prog 71 #[.agg #[.int .i64 room, .slice la R.length lc, .int .i64 plan, .bool down], .slice a5 (P0.length + 1) c5] w' (DoP w' T rr))) := by
        intro w1' w5 v5 hr hw hb
        have ho := HO3.out.snoc (Q := [bareO ⟨1, nameI 1, ⟨#[]⟩, []⟩]) (w1 := w1') hr (fun k hk => hk.1) (by omega) rfl (by rw [nameI_one]; rfl) (by intro r hr; rw [List.mem_singleton] at hr; subst hr; exact Reads.nil _ _) (by intro r hr; rw [List.mem_singleton] at hr; subst hr; exact ⟨⟨show 1 ≤ 1 by decide, show 1 ≤ 5 by decide⟩, by have := nameI_size 1; show (nameI 1).size ≤ 100000; omega, show (⟨#[]⟩ : ByteArray).size ≤ 100000 by decide⟩)
        obtain ⟨a5, c5, rfl⟩ := slice_form hr
        refine ⟨a5, c5, rfl, fun w' hb' => ?_⟩
        have hln : (P0 ++ [bareO ⟨1, nameI 1, ⟨#[]⟩, []⟩]).length = P0.length + 1 := by simp
        have hby : bytsO (P0 ++ [bareO ⟨1, nameI 1, ⟨#[]⟩, []⟩]) ≤ 100000 := by rw [bytsO_append, ← HP0.out, bytsO_clean]; simp [bytsO]
        have := HST.out w' a5 c5 (P0 ++ [bareO ⟨1, nameI 1, ⟨#[]⟩, []⟩]) w2.heap.size (HKB.out _ (hb.trans (hb'.mono hb.size))) (by rw [hln]; exact ho.later hb') (by rw [hln]; omega) hby
        rwa [hln, ← HRE.out] at this
      obtain ⟨⟨r1, r2, r3, r4⟩, r5⟩ := rr
      unfold DoP rdisk at HGO
      clear HO3 HOW HST HCL
      go_region_held3 (fun w' => w'.cell? ⟨w.heap.size, 0, none⟩ = some (.int .i64 room) ∧ w'.cell? ⟨w.heap.size, 1, none⟩ = some (.slice la R.length lc) ∧ w'.cell? ⟨w.heap.size, 2, none⟩ = some (.int .i64 plan) ∧ w'.cell? ⟨w.heap.size, 3, none⟩ = some (.bool down)) (first | exact HKD.out _ (by assumption) | exact HKD.out _ (Lib.hid (by repeat (first | exact Hid.out (by assumption) | (refine Below.setCell ?_ (by first | (dsimp only; assumption) | (dsimp only; omega)) _)))))
        (first
        | (first
           | (refine step_row elemOp rfl rfl (S := fun k => w2.heap.size ≤ k ∧ k < w3.heap.size) (v := .slice oa P0.length oc) (n := P0.length) (xs := P0.flatMap opcells) rfl OA.out (y := .slice (some ⟨w3.heap.size, 0, none⟩) 1 1) (m := 1) (news := [.int .i64 1, .string ⟨#[108, 111, 103, 45, 48, 48, 48, 48, 48, 48, 48, 49]⟩, .string ⟨#[]⟩, .slice none 0 0]) rfl RA.out H1C.out HMX.out HBT.out ?_; intro v5 w5 hr5 hc5
              have HC5 := Lib.hid hc5
              have HB5 : Hid (Below w2.heap.size w2 w5) := BB.out.trans (hc5.toBelow (B := w2.heap.size) (by simp; omega) (fun k hk h => by omega))
              obtain ⟨a5, c5, rfl, HS5⟩ := HGO.out _ w5 _ hr5 (by simp <;> omega) HB5.out)
           | (refine step_row elemOp rfl rfl (S := fun k => w2.heap.size ≤ k ∧ k < w3.heap.size) (v := .slice oa P0.length oc) (n := P0.length) (xs := P0.flatMap opcells) rfl OB.out (y := .slice (some ⟨w3.heap.size + 1, 0, none⟩) 1 1) (m := 1) (news := [.int .i64 1, .string ⟨#[108, 111, 103, 45, 48, 48, 48, 48, 48, 48, 48, 49]⟩, .string ⟨#[]⟩, .slice none 0 0]) rfl RB.out H1C.out HMX.out HBT.out ?_; intro v5 w5 hr5 hc5
              have HC5 := Lib.hid hc5
              have HB5 : Hid (Below w2.heap.size w2 w5) := BD.out.trans (hc5.toBelow (B := w2.heap.size) (by simp; omega) (fun k hk h => by omega))
              obtain ⟨a5, c5, rfl, HS5⟩ := HGO.out _ w5 _ hr5 (by simp <;> omega) HB5.out
              have HSZ5 : Hid (w3.heap.size < w5.heap.size) := by have h1 := HC5.out.size; simp at h1; rw [Hid]; omega
              have HZ5 : Hid (w5.heap[w3.heap.size]? = some (.cells #[.int .i64 0, .slice none 0 0, .int .i64 0, .bool false] 32 (0, 0))) := (hc5.block w3.heap.size (by simp <;> omega) (fun h => by omega)).trans ((alloc2_low w3.drew _ _).trans (heap_alloc_new _ _)))
           | (refine step_row elemOp rfl rfl (S := fun k => w2.heap.size ≤ k ∧ k < w3.heap.size) (v := .slice oa P0.length oc) (n := P0.length) (xs := P0.flatMap opcells) rfl OC.out (y := .slice (some ⟨w3.heap.size, 0, none⟩) 1 1) (m := 1) (news := [.int .i64 1, .string ⟨#[108, 111, 103, 45, 48, 48, 48, 48, 48, 48, 48, 49]⟩, .string ⟨#[]⟩, .slice none 0 0]) rfl RC.out H1C.out HMX.out HBT.out ?_; intro v5 w5 hr5 hc5
              have HC5 := Lib.hid hc5
              have HB5 : Hid (Below w2.heap.size w2 w5) := BE.out.trans (hc5.toBelow (B := w2.heap.size) (by simp; omega) (fun k hk h => by omega))
              obtain ⟨a5, c5, rfl, HS5⟩ := HGO.out _ w5 _ hr5 (by simp <;> omega) HB5.out
              have HSZ5 : Hid (w3.heap.size + 1 < w5.heap.size) := by have h1 := HC5.out.size; simp at h1; rw [Hid]; omega
              have HZ5 : Hid (w5.heap[w3.heap.size + 1]? = some (.cells #[.int .i64 0, .slice none 0 0, .int .i64 0, .bool false] 32 (0, 0))) := (hc5.block (w3.heap.size + 1) (by simp <;> omega) (fun h => by omega)).trans (alloc2_high w3.drew _ _ (heap_alloc_new _ _)));
           have hsz5 : w2.heap.size ≤ w5.heap.size := HB5.out.size
           have HB5a := Lib.hid (HB5.out.alloc HB5.out.size (.cells #[.int .i64 0, .slice none 0 0, .int .i64 0, .bool false] 32))
           clear hr5 hc5)
        | (go_at_call 71
           first
           | (refine (HS5.out w5 (Below.refl _ _)).mono ?_; rintro e w6 ⟨a6, c6, R6, rfl, hf6, hr6, hb6⟩
              have HB6 := Lib.hid (HB5.out.trans (hb6.mono HB5.out.size)))
           | (refine (HS5.out (w5.alloc (.cells #[.int .i64 0, .slice none 0 0, .int .i64 0, .bool false] 32)) ((Below.refl _ _).alloc (Nat.le_refl _) _)).mono ?_; rintro e w6 ⟨a6, c6, R6, rfl, hf6, hr6, hb6⟩
              have HB6 := Lib.hid (HB5a.out.trans (hb6.mono HB5a.out.size)));
           have HF6 := Lib.hid hf6
           have HR6 := Lib.hid hr6
           have HB6a := Lib.hid (HB6.out.alloc HB6.out.size (.cells #[.int .i64 0, .slice none 0 0, .int .i64 0, .bool false] 32))
           have HB6b := Lib.hid (HB6.out.alloc HB6.out.size (.cells #[.int .i64 r1, .slice a6 R6.length c6, .int .i64 r3, .bool r4] 32))
           first
           | (have Z6 : Hid (w6.heap[w5.heap.size]? = some (.cells #[.int .i64 0, .slice none 0 0, .int .i64 0, .bool false] 32 (0, 0))) := (hb6.block w5.heap.size (by simp)).trans (heap_alloc_new w5 _)
              obtain ⟨z0, z1, z2, z3⟩ := cells4 Z6.out
              have f0 := freeAt Z6.out 0
              have f1 := freeAt Z6.out 1
              have f2 := freeAt Z6.out 2
              have f3 := freeAt Z6.out 3)
           | (have Z6 := Lib.hid ((hb6.block _ (lt_of_heap HZ5.out)).trans HZ5.out)
              obtain ⟨z0, z1, z2, z3⟩ := cells4 Z6.out
              have f0 := freeAt Z6.out 0
              have f1 := freeAt Z6.out 1
              have f2 := freeAt Z6.out 2
              have f3 := freeAt Z6.out 3)
           | skip
           clear hf6 hr6 hb6))
      all_goals clear HGO OA OB OC RA RB RC BA BB BC BD BE H1C HMX HBT HS5
      all_goals first
      | (have HM := Lib.hid (mids_set (U := T) (r1 := r1) (r3 := r3) (r4 := r4) (b4 := w5.heap.size) Z6.out HB6.out HR6.out HTW.out hsz5 (by simp))
         generalize (((w6.setCell ⟨w5.heap.size, 0, none⟩ (.int .i64 r1)).setCell ⟨w5.heap.size, 1, none⟩ (.slice a6 R6.length c6)).setCell ⟨w5.heap.size, 2, none⟩ (.int .i64 r3)).setCell ⟨w5.heap.size, 3, none⟩ (.bool r4) = W7 at HM ⊢
         generalize hb4 : w5.heap.size = b4 at HM ⊢
         clear hb4)
      | (have HM := Lib.hid (mids_set (U := T) (r1 := r1) (r3 := r3) (r4 := r4) (b4 := w3.heap.size) Z6.out HB6.out HR6.out HTW.out hsz23 HSZ5.out)
         generalize (((w6.setCell ⟨w3.heap.size, 0, none⟩ (.int .i64 r1)).setCell ⟨w3.heap.size, 1, none⟩ (.slice a6 R6.length c6)).setCell ⟨w3.heap.size, 2, none⟩ (.int .i64 r3)).setCell ⟨w3.heap.size, 3, none⟩ (.bool r4) = W7 at HM ⊢
         generalize hb4 : w3.heap.size = b4 at HM ⊢
         clear hb4)
      | (have HM := Lib.hid (mids_set (U := T) (r1 := r1) (r3 := r3) (r4 := r4) (b4 := w3.heap.size + 1) Z6.out HB6.out HR6.out HTW.out (Nat.le_succ_of_le hsz23) HSZ5.out)
         generalize (((w6.setCell ⟨w3.heap.size + 1, 0, none⟩ (.int .i64 r1)).setCell ⟨w3.heap.size + 1, 1, none⟩ (.slice a6 R6.length c6)).setCell ⟨w3.heap.size + 1, 2, none⟩ (.int .i64 r3)).setCell ⟨w3.heap.size + 1, 3, none⟩ (.bool r4) = W7 at HM ⊢
         generalize hb4 : w3.heap.size + 1 = b4 at HM ⊢
         clear hb4)
      | (have HM := Lib.hid (mids_late (U := T) (r1 := r1) (r3 := r3) (r4 := r4) HB6.out HR6.out hsz5)
         generalize w6.alloc (.cells #[.int .i64 r1, .slice a6 R6.length c6, .int .i64 r3, .bool r4] 32) = W7 at HM ⊢
         generalize w6.heap.size = b4 at HM ⊢)
      all_goals
        have HZ7 := Lib.hid (HKZ.out _ HM.out.bel)
        have HB7 := Lib.hid (HKB.out _ HM.out.bel)
        obtain ⟨z0', z1', z2', z3', z4', z5', z6', z7'⟩ := cells8w HZ7.out
        obtain ⟨y0', y1', y2', y3'⟩ := cells4 HM.out.blk
        have q0 := freeAt HZ7.out 0
        have q1 := freeAt HZ7.out 1
        have q2 := freeAt HZ7.out 2
        have q3 := freeAt HZ7.out 3
        have q4 := freeAt HZ7.out 4
        have q5 := freeAt HZ7.out 5
        have q6 := freeAt HZ7.out 6
        have q7 := freeAt HZ7.out 7
        have HW2 : Hid (w.heap.size + 1 < w2.heap.size) := lt_of_heap HZ2.out
        go_wp2
        rw [← HRR.out]
        refine ropen_end (X := []) (room := r1) (plan := r3) (most' := most) (n := 1) (size := 0) (waiting := 0) (down := r4) (R' := R6) (TT := fun k => (T k ∨ w2.heap.size ≤ k) ∧ k ≠ b4) HZ7.out HB7.out HM.out.lst (fun k hk => by rcases hk.1 with h | h; exact .inl h; exact .inr (by have := HW2.out; omega)) (fun hk => by rcases hk.1 with h | h; (have := HTT.out _ h; omega); (have := HW2.out; omega)) (Row.nil _ _ _ _) (by simp) ?_ (by simp) ?_ HF6.out rfl rfl rfl
        · unfold rrecsOf; rw [if_neg (by rw [HC.out]; decide), if_pos HF0.out]; rfl
        · unfold rlogOf; rw [if_neg (by rw [HC.out]; decide), if_pos HF0.out]
          have e : R6.map RF.f = r2 := HF6.out
          rw [e]
    · obtain ⟨hs0, kk, hkk, hkl, hold, hlast, hfront, htorn, hl1, hl9⟩ := hsh
      have hL0 : ¬ L = [] := by rw [HLE.out]; exact hs0
      have hlp := List.length_pos_iff.2 hL0
      have hlz : ((L.length : Int) == 0) = false := by simp; exact hL0
      have hf0 : ¬ f.last = 0 := by omega
      obtain ⟨OP1, hOP1⟩ : ∃ l, l = cleanL D [cutNm, newNm] ++ (if f.torn = 0 then [] else cutOps f.last f.front) := ⟨_, rfl⟩
      have HRE : Hid (rr = stepsG doR D (OP1 ++ cleanL D (olderL L first) ++ [⟨3, nameI f.last, ⟨#[]⟩, []⟩])) := by
        rw [Hid, HOS.out]; unfold openOps; rw [if_neg hf0, HOL.out, hOP1, List.append_assoc, List.append_assoc, List.append_assoc, ← List.append_assoc]
      have HOP1 := Lib.hid hOP1
      have HFRO : Hid (∃ (a : Option Addr) (c : Nat) (l : List UInt8), (f.torn ≠ 0 → ((∃ b o, a = some ⟨b, o, none⟩) ∧ l.length ≤ c ∧ f.front.length ≤ l.length ∧ Reads w (.slice a f.front.length c) f.front.length 1 (byts f.front) ∧ (∀ w', Below w.heap.size w w' → Calls Tryz.prog 88 #[.agg #[.int .i64 room, .slice la R.length lc, .int .i64 plan, .bool down], .int .i64 f.last] w' fun e w'' => e = .returned (.slice a l.length c) ∧ Below w'.heap.size w' w''))) ∧ f.front.length ≤ 100000) := by
        have hm : f.last ∈ refL (R.map fun r => r.f.name) := by
          rw [hlast]
          have h1 := lastN_mem hs0
          have h2 : segsD D = refL (R.map fun r => r.f.name) := by rw [HD.out]; unfold segsD; rw [List.map_map]; rfl
          rwa [← h2]
        obtain ⟨j, hj, hpos, hfb⟩ := HBY.out _ hm
        have hcd : contD D f.last = R[j].f.b := by rw [contD_fileB HDN.out, HD.out]; exact hfb
        rw [← hlast] at hfront htorn
        rw [hcd] at hfront htorn
        have hok := (HR.out.byt R[j] (List.getElem_mem hj)).1.reads
        have hlb := HBL.out R[j] (List.getElem_mem hj)
        have hsp := splitB_le R[j].f.b
        have hfl : f.front.length = (splitB R[j].f.b).2 := by rw [hfront, List.length_take]; omega
        refine ⟨R[j].a, R[j].c, R[j].f.b, fun ht => ⟨?_, ?_, by omega, ?_, fun w' hb' => HBF.out f.last w' hb' j hj hpos⟩, by omega⟩
        · obtain ⟨b, o, c', hv, -⟩ := hok.at (by omega)
          exact ⟨b, o, by injection hv⟩
        · obtain ⟨b, o, c', hv, hle, -⟩ := hok.at (by omega)
          injection hv with h1 h2 h3
          omega
        · have := hok.take f.front.length (by omega)
          rw [← byts_take, hfl, ← hfront, ← hfl] at this
          exact this
      obtain ⟨ba, bc, bl, hfro, hfl⟩ := HFRO.out
      have HFR := Lib.hid hfro
      have HFN : Hid (f.front.length ≤ 100000) := hfl
      obtain ⟨y0, y1, y2, y3, y4, y5, y6⟩ := cells7 HY3.out
      have HLP := Lib.hid hlp
      have HF0 := Lib.hid hf0
      clear hs0 hkk hkl hold hlast hfront htorn hl1 hl9 hf0 hOP1 HFRO hfro hfl HSH hlp HOS HBY HBF HBL HDN HF
      go_upto_region 8 with fail
      clear hlz
      go_wp2_with fail
      refine (refName_any f.last _).mono ?_
      rintro e w4 ⟨rfl, rfl⟩
      obtain ⟨nm, hnm⟩ : ∃ nm, nm = nameI f.last := ⟨_, rfl⟩
      have HNM := Lib.hid hnm
      rw [← hnm] at HRE ⊢
      have hnms : nm.size ≤ 12 := by rw [hnm]; exact nameI_size _
      have HNMS := Lib.hid hnms
      clear hnm hnms y0 y1 y2 y3 y4 y6
      generalize decide (1 ≤ f.last ∧ f.last ≤ 99999999) = okn at *
      go_upto_if 52 with fail
      go_cut [8, 13, 52] from 53 to 68 (fun o bb tt wx => ∃ (a : Option Addr) (c : Nat) (P : List RO), o = .slice a P.length c ∧ Hid (OpsL w wx (.slice a P.length c) P w2.heap.size) ∧ Hid (Below w2.heap.size w2 wx) ∧ Hid (P.map RO.o = OP1) ∧ P.length ≤ 6 ∧ Hid (bytsO P ≤ 100000))
      case first =>
        by_cases ht : f.torn = 0
        · have ht0 : ¬ (0 : Int) < (f.torn : Int) := by omega
          have ht1 : decide ((0 : Int) < (f.torn : Int)) = false := by simpa using ht0
          have HOP2 : Hid (P0.map RO.o = OP1) := by rw [Hid, HOP1.out, if_pos ht, List.append_nil, ← HP0.out, bareO_o]
          have HBY2 : Hid (bytsO P0 ≤ 100000) := by rw [Hid, ← HP0.out, bytsO_clean]; omega
          clear ht
          go_wp2_with fail
          go_meet
          exact ⟨oa, oc, P0, rfl, HO3.out, HBA3.out, HOP2.out, by omega, HBY2⟩
        · have ht0 : (0 : Int) < (f.torn : Int) := by omega
          have ht1 : decide ((0 : Int) < (f.torn : Int)) = true := by simpa using ht0
          obtain ⟨⟨bb0, bo0, rfl⟩, hlc0, hfl0, hrd0, hcall0⟩ := HFR.out ht
          obtain ⟨Q1, hQ1⟩ : ∃ Q : List RO, Q = [⟨⟨1, cutNm, ⟨#[]⟩, []⟩, none, 0⟩, ⟨⟨2, cutNm, ⟨#[]⟩, f.front⟩, some ⟨bb0, bo0, none⟩, bc⟩, ⟨⟨3, cutNm, ⟨#[]⟩, []⟩, none, 0⟩, ⟨⟨4, cutNm, nm, []⟩, none, 0⟩] := ⟨_, rfl⟩
          have HQ1 := Lib.hid hQ1
          have HQL : Hid (Q1.length = 4) := by rw [Hid, hQ1]; rfl
          have HOP2 : Hid ((P0 ++ Q1).map RO.o = OP1) := by rw [Hid, HOP1.out, if_neg ht, List.map_append, ← HP0.out, bareO_o, hQ1, HNM.out]; rfl
          have HBY2 : Hid (bytsO (P0 ++ Q1) ≤ 100000) := by rw [Hid, bytsO_append, ← HP0.out, bytsO_clean, hQ1]; have := HFN.out; simp [bytsO]; omega
          have HCL0 := Lib.hid (hcall0 w3 HB3.out)
          have HRD0 := Lib.hid hrd0
          have hz0 : (0 : Int) ≤ (f.front.length : Int) := by omega
          have hz1 : (f.front.length : Int) ≤ (bl.length : Int) := by omega
          have hz2 : (f.front.length : Int) ≤ (bc : Int) := by omega
          obtain ⟨x0, x1, x2, x3⟩ := cells4 HX3.out
          obtain ⟨y0, y1, y2, y3, y4, y5', y6⟩ := cells7 HY3.out
          clear ht hcall0 hrd0 hQ1
          go_wp2_with fail
          refine HCL0.out.mono ?_
          rintro e w4 ⟨rfl, hb4⟩
          have hsz4 := hb4.size
          have HB4 := Lib.hid hb4
          have HY4 := Lib.hid ((hb4.block _ (lt_of_heap HY3.out)).trans HY3.out)
          have HO4 := Lib.hid (HO3.out.later hb4)
          clear hb4 x0 x1 x2 x3 y0 y1 y2 y3 y4 y5' y6 y5
          obtain ⟨y0, y1, y2, y3, y4, y5, y6⟩ := cells7 HY4.out
          have HMX : Hid (P0.length + 4 ≤ maxLen) := by unfold maxLen; rw [Hid]; omega
          have HBT : Hid ((P0.length + 4) * 64 ≤ 140737488355328) := by rw [Hid]; omega
          have H1C : Hid (∀ u ∈ ([.int .i64 1, .string ⟨#[99, 117, 116]⟩, .string ⟨#[]⟩, .slice none 0 0, .int .i64 2, .string ⟨#[99, 117, 116]⟩, .string ⟨#[]⟩, .slice (some ⟨bb0, bo0, none⟩) f.front.length bc, .int .i64 3, .string ⟨#[99, 117, 116]⟩, .string ⟨#[]⟩, .slice none 0 0, .int .i64 4, .string ⟨#[99, 117, 116]⟩, .string nm, .slice none 0 0] : List Value), u.oneCell' = true) := by intro u hu; simp only [List.mem_cons, List.not_mem_nil, or_false] at hu; rcases hu with rfl | rfl | rfl | rfl | rfl | rfl | rfl | rfl | rfl | rfl | rfl | rfl | rfl | rfl | rfl | rfl <;> rfl
          have HOW : Hid (Row (w4.alloc (.cells #[.int .i64 1, .string ⟨#[99, 117, 116]⟩, .string ⟨#[]⟩, .slice none 0 0, .int .i64 2, .string ⟨#[99, 117, 116]⟩, .string ⟨#[]⟩, .slice (some ⟨bb0, bo0, none⟩) f.front.length bc, .int .i64 3, .string ⟨#[99, 117, 116]⟩, .string ⟨#[]⟩, .slice none 0 0, .int .i64 4, .string ⟨#[99, 117, 116]⟩, .string nm, .slice none 0 0] 112)) 112 4 (.slice oa P0.length oc) P0.length (P0.flatMap opcells) (fun k => w2.heap.size ≤ k)) := HO4.out.row.frame (fun k _ hk => Below.heap_alloc w4 _ _ hk)
          have HRN : Hid (Reads (w4.alloc (.cells #[.int .i64 1, .string ⟨#[99, 117, 116]⟩, .string ⟨#[]⟩, .slice none 0 0, .int .i64 2, .string ⟨#[99, 117, 116]⟩, .string ⟨#[]⟩, .slice (some ⟨bb0, bo0, none⟩) f.front.length bc, .int .i64 3, .string ⟨#[99, 117, 116]⟩, .string ⟨#[]⟩, .slice none 0 0, .int .i64 4, .string ⟨#[99, 117, 116]⟩, .string nm, .slice none 0 0] 112)) (.slice (some ⟨w4.heap.size, 0, none⟩) 4 4) 4 4 [.int .i64 1, .string ⟨#[99, 117, 116]⟩, .string ⟨#[]⟩, .slice none 0 0, .int .i64 2, .string ⟨#[99, 117, 116]⟩, .string ⟨#[]⟩, .slice (some ⟨bb0, bo0, none⟩) f.front.length bc, .int .i64 3, .string ⟨#[99, 117, 116]⟩, .string ⟨#[]⟩, .slice none 0 0, .int .i64 4, .string ⟨#[99, 117, 116]⟩, .string nm, .slice none 0 0]) := Reads.block (heap_alloc_new w4 _) 4 4 rfl
          go_wp2_with (refine wpList_row elemOp rfl rfl (S := fun k => w2.heap.size ≤ k) (v := .slice oa P0.length oc) (n := P0.length) (xs := P0.flatMap opcells) rfl HOW.out (y := .slice (some ⟨w4.heap.size, 0, none⟩) 4 4) (m := 4) (news := [.int .i64 1, .string ⟨#[99, 117, 116]⟩, .string ⟨#[]⟩, .slice none 0 0, .int .i64 2, .string ⟨#[99, 117, 116]⟩, .string ⟨#[]⟩, .slice (some ⟨bb0, bo0, none⟩) f.front.length bc, .int .i64 3, .string ⟨#[99, 117, 116]⟩, .string ⟨#[]⟩, .slice none 0 0, .int .i64 4, .string ⟨#[99, 117, 116]⟩, .string nm, .slice none 0 0]) rfl HRN.out H1C.out HMX.out HBT.out ?_; intro v5 w5 hr5 hc5)
          have hb5 : Below w2.heap.size w2 w5 := ((HBA3.out.trans (HB4.out.mono hsz23)).alloc (by omega) _).trans (hc5.toBelow (B := w2.heap.size) (by simp; omega) (fun k hk h => by omega))
          have ho5 := HO4.out.snoc (Q := Q1) hr5 (fun k hk => hk) (by simp; omega) HQL.out.symm (by rw [HQ1.out]; rfl)
            (by intro r hr; rw [HQ1.out] at hr; simp only [List.mem_cons, List.not_mem_nil, or_false] at hr; rcases hr with rfl | rfl | rfl | rfl; exact Reads.nil _ _; exact HRD0.out; exact Reads.nil _ _; exact Reads.nil _ _)
            (by
              have hcs : cutNm.size ≤ 100000 := by decide
              have he : (⟨#[]⟩ : ByteArray).size ≤ 100000 := by decide
              have hn := HNMS.out
              intro r hr; rw [HQ1.out] at hr; simp only [List.mem_cons, List.not_mem_nil, or_false] at hr
              rcases hr with rfl | rfl | rfl | rfl
              · exact ⟨⟨show 1 ≤ 1 by decide, show 1 ≤ 5 by decide⟩, hcs, he⟩
              · exact ⟨⟨show 1 ≤ 2 by decide, show 2 ≤ 5 by decide⟩, hcs, he⟩
              · exact ⟨⟨show 1 ≤ 3 by decide, show 3 ≤ 5 by decide⟩, hcs, he⟩
              · exact ⟨⟨show 1 ≤ 4 by decide, show 4 ≤ 5 by decide⟩, hcs, by show nm.size ≤ 100000; omega⟩)
          obtain ⟨a5, c5, rfl⟩ := slice_form hr5
          have HO5 := Lib.hid ho5
          have HB5 := Lib.hid hb5
          clear hr5 hc5 ho5 hb5
          go_wp2_with fail
          go_meet
          exact ⟨a5, c5, P0 ++ Q1, by rw [List.length_append, HQL.out], by rw [List.length_append, HQL.out]; exact HO5, HB5, HOP2, by rw [List.length_append, HQL.out]; omega, HBY2⟩
      case rest =>
        obtain ⟨oa1, oc1, P1, rfl, HO1, HBC1, HPO1, hp6, HBY1⟩ := hcut
        have hszc := HBC1.out.size
        have HKS : Hid (∀ w', Hid (Below wc.heap.size wc w') → (w'.cell? ⟨w.heap.size, 0, none⟩ = some (.int .i64 room) ∧ w'.cell? ⟨w.heap.size, 1, none⟩ = some (.slice la R.length lc) ∧ w'.cell? ⟨w.heap.size, 2, none⟩ = some (.int .i64 plan) ∧ w'.cell? ⟨w.heap.size, 3, none⟩ = some (.bool down)) ∧ w'.cell? ⟨w1.heap.size, 0, none⟩ = some (.slice va L.length ca) ∧ w'.cell? ⟨w1.heap.size, 1, none⟩ = some (.int .i64 first)) := fun w' hb => by
          have h2 := HBC1.out.trans (hb.out.mono HBC1.out.size)
          have hy := (h2.block _ (lt_of_heap HY2.out)).trans HY2.out
          exact ⟨HKD.out w' (Lib.hid h2), cellAt hy 0 rfl, cellAt hy 1 rfl⟩
        have HKS2 : Hid (∀ w', Hid (Below w2.heap.size w2 w') → (w'.cell? ⟨w.heap.size, 0, none⟩ = some (.int .i64 room) ∧ w'.cell? ⟨w.heap.size, 1, none⟩ = some (.slice la R.length lc) ∧ w'.cell? ⟨w.heap.size, 2, none⟩ = some (.int .i64 plan) ∧ w'.cell? ⟨w.heap.size, 3, none⟩ = some (.bool down)) ∧ w'.cell? ⟨w1.heap.size, 0, none⟩ = some (.slice va L.length ca) ∧ w'.cell? ⟨w1.heap.size, 1, none⟩ = some (.int .i64 first)) := fun w' hb => by
          have hy := (hb.out.block _ (lt_of_heap HY2.out)).trans HY2.out
          exact ⟨HKD.out w' hb, cellAt hy 0 rfl, cellAt hy 1 rfl⟩
        have hll : L.length ≤ 1000 := by rw [HLE.out]; exact HFS.out
        have hol := olderL_len L first
        have HOLD : Hid (∀ w', Hid (Below wc.heap.size wc w') → Calls Tryz.prog 89 #[.slice va L.length ca, .int .i64 first] w' fun e w'' => ∃ v', e = .returned v' ∧ Row w'' 9 1 v' (olderL L first).length (strsV (olderL L first)) (fun k => w'.heap.size ≤ k) ∧ Below w'.heap.size w' w'') := fun w' hb => rolder_any _ L first w' (HLR.out.later (HBC1.out.trans (hb.out.mono HBC1.out.size))) hll
        have HB00 : Hid (Below wc.heap.size wc wc.drew) := (Below.refl _ _).drew
        obtain ⟨OLD, hOLD⟩ : ∃ l, l = olderL L first := ⟨_, rfl⟩
        have HNO : Hid (∀ n ∈ OLD, n.size ≤ 100000) := fun n hn => by
          rw [hOLD] at hn
          unfold olderL at hn
          obtain ⟨m, -, rfl⟩ := List.mem_map.1 hn
          have := nameI_size m; omega
        rw [← hOLD] at HOLD HRE hol
        have hcll : (cleanL D OLD).length ≤ 1000 := by have := cleanL_len D OLD; omega
        have HMX : Hid (P1.length + (cleanL D OLD).length ≤ maxLen) := by unfold maxLen; rw [Hid]; omega
        have HBT : Hid ((P1.length + (cleanL D OLD).length) * 64 ≤ 140737488355328) := by rw [Hid]; omega
        have HOL1 : Hid (OLD.length ≤ 1000) := by rw [Hid]; omega
        have HCB : Hid (bytsO ((cleanL D OLD).map bareO) = 0) := bytsO_clean _ _
        have HCC : Hid (((cleanL D OLD).map bareO).map RO.o = cleanL D OLD) := bareO_o _
        have HCG := Lib.hid (fun (w8 : World) (v8 : Value) (C : Nat) (hr : Row w8 112 4 v8 (cleanL D OLD).length (((cleanL D OLD).map bareO).flatMap opcells) (fun k => C ≤ k)) => opsl_clean (w0 := w) (B := C) hr (Nat.le_refl C) HNO.out)
        obtain ⟨C, hC⟩ : ∃ C, C = (cleanL D OLD).map bareO := ⟨_, rfl⟩
        have hcn : (cleanL D OLD).length = C.length := by rw [hC, List.length_map]
        have HCL2 := Lib.hid (HCL.out)
        have HCLO : Hid (∀ (v7 : Value) (w7 : World), Hid (Below wc.heap.size wc w7) → Reads w7 v7 OLD.length 1 (strsV OLD) → Calls Tryz.prog 87 #[.agg #[.int .i64 room, .slice la R.length lc, .int .i64 plan, .bool down], v7] w7 fun e w' => ∃ v', e = .returned v' ∧ Row w' 112 4 v' C.length (C.flatMap opcells) (fun k => w7.heap.size ≤ k) ∧ Below w7.heap.size w7 w') := fun v7 w7 hb hr => by
          have := HCL.out v7 OLD w7 (HKB.out _ (HBC1.out.trans (hb.out.mono HBC1.out.size))) hr HOL1.out
          rwa [← hC, hcn] at this
        rw [← hC] at HCB HCC HCG
        rw [hcn] at HCG HMX HBT hcll
        clear hC hcn hOLD HCL HCL2 hol
        go_upto_region 12 with fail
        go_region_held3 (fun w' => (w'.cell? ⟨w.heap.size, 0, none⟩ = some (.int .i64 room) ∧ w'.cell? ⟨w.heap.size, 1, none⟩ = some (.slice la R.length lc) ∧ w'.cell? ⟨w.heap.size, 2, none⟩ = some (.int .i64 plan) ∧ w'.cell? ⟨w.heap.size, 3, none⟩ = some (.bool down)) ∧ w'.cell? ⟨w1.heap.size, 0, none⟩ = some (.slice va L.length ca) ∧ w'.cell? ⟨w1.heap.size, 1, none⟩ = some (.int .i64 first)) (first | exact HKS.out _ (by assumption) | exact HKS2.out _ (by assumption))
          (first
          | (go_at_call 89; refine (HOLD.out _ (by assumption)).mono ?_; rintro e w7 ⟨v7, rfl, hr7, hb7⟩
             have HB7 := belh_step (w0 := wc) (by assumption) hb7
             have HR7 := Lib.hid hr7.reads
             clear hr7 hb7)
          | (go_at_call 87; refine (HCLO.out v7 w7 HB7 HR7.out).mono ?_; rintro e w8 ⟨v8, rfl, hr8, hb8⟩
             have HB8 := belh_step (w0 := wc) HB7 hb8
             have HR8 := Lib.hid hr8
             have HOW : Hid (Row w8 112 4 (.slice oa1 P1.length oc1) P1.length (P1.flatMap opcells) (fun k => w2.heap.size ≤ k)) := HO1.out.row.frame (fun k _ hk => HB8.out.block k hk)
             clear hr8 hb8)
          | (refine step_row elemOp rfl rfl (S := fun k => w2.heap.size ≤ k) (v := .slice oa1 P1.length oc1) (n := P1.length) (xs := P1.flatMap opcells) rfl HOW.out (y := v8) (m := C.length) (news := C.flatMap opcells) rfl HR8.out.reads (opcells_one C) HMX.out HBT.out ?_; intro v9 w9 hr9 hc9
             have HB9 : Hid (Below w2.heap.size w2 w9) := (HBC1.out.trans (HB8.out.mono HBC1.out.size)).trans (hc9.toBelow (B := w2.heap.size) (by have := HB8.out.size; omega) (fun k hk h => by omega))
             have HR9 := Lib.hid hr9
             clear hr9 hc9))
        have hg := HCG.out w8 v8 _ HR8.out
        have HO9 := Lib.hid (HO1.out.snoc (w1 := w8) (Q := C) HR9.out (fun k hk => hk) (by have := HB8.out.size; omega) rfl rfl hg.each hg.good)
        obtain ⟨oa9, oc9, rfl⟩ := slice_form HR9.out
        obtain ⟨P2, hP2⟩ : ∃ P2, P2 = P1 ++ C := ⟨_, rfl⟩
        have hpl : P1.length + C.length = P2.length := by rw [hP2, List.length_append]
        have hpl2 : P2.length ≤ 1006 := by omega
        have HPO2 : Hid (P2.map RO.o = OP1 ++ cleanL D OLD) := by rw [Hid, hP2, List.map_append, HPO1.out, HCC.out]
        have HBY2 : Hid (bytsO P2 ≤ 100000) := by rw [Hid, hP2, bytsO_append, HCB.out]; exact HBY1.out
        rw [← hP2] at HO9
        rw [hpl] at HO9 ⊢
        clear hg HCG HCLO HOLD HR7 HR8 HR9 HOW hP2 HKS HB7 HMX HBT hpl HO1 hcll HCB HCC HNO HOL1 HPO1 HBY1
        have HRE2 : Hid (rr = stepsG doR D ((P2 ++ [bareO ⟨3, nm, ⟨#[]⟩, []⟩]).map RO.o)) := by rw [Hid, HRE.out, List.map_append, HPO2.out]; rfl
        have hsz9 := HB9.out.size
        have HKP : Hid (∀ w', Below w2.heap.size w2 w' → (w'.cell? ⟨w.heap.size, 0, none⟩ = some (.int .i64 room) ∧ w'.cell? ⟨w.heap.size, 1, none⟩ = some (.slice la R.length lc) ∧ w'.cell? ⟨w.heap.size, 2, none⟩ = some (.int .i64 plan) ∧ w'.cell? ⟨w.heap.size, 3, none⟩ = some (.bool down))) := fun w' hb => HKD.out w' (Lib.hid hb)
        have HMX : Hid (P2.length + 1 ≤ maxLen) := by unfold maxLen; rw [Hid]; omega
        have HBT : Hid ((P2.length + 1) * 64 ≤ 140737488355328) := by rw [Hid]; omega
        have H1C : Hid (∀ u ∈ ([.int .i64 3, .string nm, .string ⟨#[]⟩, .slice none 0 0] : List Value), u.oneCell' = true) := by intro u hu; simp only [List.mem_cons, List.not_mem_nil, or_false] at hu; rcases hu with rfl | rfl | rfl | rfl <;> rfl
        have HOW : Hid (Row (w9.drew.alloc (.cells #[.int .i64 3, .string nm, .string ⟨#[]⟩, .slice none 0 0] 112)) 112 4 (.slice oa9 P2.length oc9) P2.length (P2.flatMap opcells) (fun k => w2.heap.size ≤ k)) := HO9.out.row.frame (fun k _ hk => Below.heap_alloc w9.drew _ _ hk)
        have HRN : Hid (Reads (w9.drew.alloc (.cells #[.int .i64 3, .string nm, .string ⟨#[]⟩, .slice none 0 0] 112)) (.slice (some ⟨w9.heap.size, 0, none⟩) 1 1) 1 4 [.int .i64 3, .string nm, .string ⟨#[]⟩, .slice none 0 0]) := Reads.single (heap_alloc_new w9.drew _)
        have HB9a : Hid (Below w2.heap.size w2 (w9.drew.alloc (.cells #[.int .i64 3, .string nm, .string ⟨#[]⟩, .slice none 0 0] 112))) := HB9.out.drew.alloc hsz9 _
        have HSTC : Hid (∀ (w10 : World) (v10 : Value), Row w10 112 4 v10 (P2.length + 1) (P2.flatMap opcells ++ [.int .i64 3, .string nm, .string ⟨#[]⟩, .slice none 0 0]) (fun k => w2.heap.size ≤ k ∨ (w9.drew.alloc (.cells #[.int .i64 3, .string nm, .string ⟨#[]⟩, .slice none 0 0] 112)).heap.size ≤ k) → Below w2.heap.size w2 w10 →
            ∃ a10 c10, v10 = .slice a10 (P2.length + 1) c10 ∧ Calls Tryz.prog 71 #[.agg #[.int .i64 room, .slice la R.length lc, .int .i64 plan, .bool down], .slice a10 (P2.length + 1) c10] w10 (DoP w10 T rr)) := by
          intro w10 v10 hr hb
          have ho := HO9.out.snoc (Q := [bareO ⟨3, nm, ⟨#[]⟩, []⟩]) (w1 := w9.drew.alloc (.cells #[.int .i64 3, .string nm, .string ⟨#[]⟩, .slice none 0 0] 112)) hr (fun k hk => hk) (by simp <;> omega) rfl rfl (by intro r hr; rw [List.mem_singleton] at hr; subst hr; exact Reads.nil _ _) (by intro r hr; rw [List.mem_singleton] at hr; subst hr; exact ⟨⟨show 1 ≤ 3 by decide, show 3 ≤ 5 by decide⟩, by have := HNMS.out; show nm.size ≤ 100000; omega, show (⟨#[]⟩ : ByteArray).size ≤ 100000 by decide⟩)
          obtain ⟨a10, c10, rfl⟩ := slice_form hr
          refine ⟨a10, c10, rfl, ?_⟩
          have hln : (P2 ++ [bareO ⟨3, nm, ⟨#[]⟩, []⟩]).length = P2.length + 1 := by simp
          have hby : bytsO (P2 ++ [bareO ⟨3, nm, ⟨#[]⟩, []⟩]) ≤ 100000 := by rw [bytsO_append]; have := HBY2.out; simp [bytsO]; simpa [bytsO] using this
          have := HST.out w10 a10 c10 (P2 ++ [bareO ⟨3, nm, ⟨#[]⟩, []⟩]) w2.heap.size (HKB.out _ hb) (by rw [hln]; exact ho) (by rw [hln]; omega) hby
          rwa [hln, ← HRE2.out] at this
        obtain ⟨⟨r1, r2, r3, r4⟩, r5⟩ := rr
        unfold DoP rdisk at HSTC
        obtain ⟨x0, x1, x2, x3⟩ := HKP.out w9 HB9.out
        obtain ⟨x0a, x1a, x2a, x3a⟩ := HKP.out _ HB9a.out
        obtain ⟨x0d, x1d, x2d, x3d⟩ := HKP.out (w9.alloc (.cells #[.int .i64 3, .string nm, .string ⟨#[]⟩, .slice none 0 0] 112)) (HB9.out.alloc hsz9 _)
        clear HST HKS2 HB8
        go_upto_region 13 with fail
        go_region_law
          (first
          | (refine step_row elemOp rfl rfl (S := fun k => w2.heap.size ≤ k) (v := .slice oa9 P2.length oc9) (n := P2.length) (xs := P2.flatMap opcells) rfl HOW.out (y := .slice (some ⟨w9.heap.size, 0, none⟩) 1 1) (m := 1) (news := [.int .i64 3, .string nm, .string ⟨#[]⟩, .slice none 0 0]) rfl HRN.out H1C.out HMX.out HBT.out ?_; intro v10 w10 hr10 hc10
             have hb10 : Below w2.heap.size w2 w10 := HB9a.out.trans (hc10.toBelow (B := w2.heap.size) (by simp; omega) (fun k hk h => by omega))
             obtain ⟨a10, c10, rfl, hs10⟩ := HSTC.out w10 _ hr10 hb10
             have HS10 := Lib.hid hs10
             have HB10 := Lib.hid hb10
             obtain ⟨x0b, x1b, x2b, x3b⟩ := HKP.out _ HB10.out
             clear hr10 hc10 hb10 hs10)
          | (go_simp; go_at_call 71; refine HS10.out.mono ?_; rintro e w11 ⟨a11, c11, R11, rfl, hf11, hr11, hb11⟩
             have HF11 := Lib.hid hf11
             have HR11 := Lib.hid hr11
             have hsz11 := hb11.size
             have HB11 := Lib.hid (HB10.out.trans (hb11.mono HB10.out.size))
             have HX11 := Lib.hid ((HB11.out.block _ (lt_of_heap HX2.out)).trans HX2.out)
             obtain ⟨x0c, x1c, x2c, x3c⟩ := cells4 HX11.out
             have g0 := freeAt HX11.out 0
             have g1 := freeAt HX11.out 1
             have g2 := freeAt HX11.out 2
             have g3 := freeAt HX11.out 3
             clear hf11 hr11 hb11
             try dsimp only))
        all_goals clear x0 x1 x2 x3 x0a x1a x2a x3a x0b x1b x2b x3b x0c x1c x2c x3c x0d x1d x2d x3d g0 g1 g2 g3 HSTC HS10 HOW HRN H1C HMX HBT HRE HRE2 HKP HO9 HPO2 HBY2
        all_goals
          have HX12 : Hid (((((w11.setCell ⟨w.heap.size, 0, none⟩ (.int .i64 r1)).setCell ⟨w.heap.size, 1, none⟩ (.slice a11 R11.length c11)).setCell ⟨w.heap.size, 2, none⟩ (.int .i64 r3)).setCell ⟨w.heap.size, 3, none⟩ (.bool r4)).heap[w.heap.size]? = some (.cells #[.int .i64 r1, .slice a11 R11.length c11, .int .i64 r3, .bool r4] 32 (0, 0))) := heap_store (heap_store (heap_store (heap_store HX11.out 0 _) 1 _) 2 _) 3 _
          have HKK : Hid (∀ k, k ≠ w.heap.size → ((((w11.setCell ⟨w.heap.size, 0, none⟩ (.int .i64 r1)).setCell ⟨w.heap.size, 1, none⟩ (.slice a11 R11.length c11)).setCell ⟨w.heap.size, 2, none⟩ (.int .i64 r3)).setCell ⟨w.heap.size, 3, none⟩ (.bool r4)).heap[k]? = w11.heap[k]?) := fun k hk => (Below.heap_setCell _ ⟨w.heap.size, 3, none⟩ _ _ hk).trans ((Below.heap_setCell _ ⟨w.heap.size, 2, none⟩ _ _ hk).trans ((Below.heap_setCell _ ⟨w.heap.size, 1, none⟩ _ _ hk).trans (Below.heap_setCell _ ⟨w.heap.size, 0, none⟩ _ _ hk)))
          have HB12 : Hid (Below w.heap.size w ((((w11.setCell ⟨w.heap.size, 0, none⟩ (.int .i64 r1)).setCell ⟨w.heap.size, 1, none⟩ (.slice a11 R11.length c11)).setCell ⟨w.heap.size, 2, none⟩ (.int .i64 r3)).setCell ⟨w.heap.size, 3, none⟩ (.bool r4))) := ((((HKB.out _ HB11.out).setCell (p := ⟨w.heap.size, 0, none⟩) (Nat.le_refl _) _).setCell (p := ⟨w.heap.size, 1, none⟩) (Nat.le_refl _) _).setCell (p := ⟨w.heap.size, 2, none⟩) (Nat.le_refl _) _).setCell (p := ⟨w.heap.size, 3, none⟩) (Nat.le_refl _) _
          have hw2 : w.heap.size + 1 < w2.heap.size := lt_of_heap HZ2.out
          have HZ12 := Lib.hid ((HKK.out (w.heap.size + 1) (by omega)).trans (HKZ.out _ HB11.out))
          have HY12 := Lib.hid ((HKK.out w1.heap.size (by have := HLT1.out; omega)).trans ((HB11.out.block _ (lt_of_heap HY2.out)).trans HY2.out))
          have hsz10 := HB10.out.size
          have HR12 := Lib.hid ((HR11.out.frame (w' := (((w11.setCell ⟨w.heap.size, 0, none⟩ (.int .i64 r1)).setCell ⟨w.heap.size, 1, none⟩ (.slice a11 R11.length c11)).setCell ⟨w.heap.size, 2, none⟩ (.int .i64 r3)).setCell ⟨w.heap.size, 3, none⟩ (.bool r4)) (fun k hk _ => HKK.out k (fun e => by rcases hk with h | h; (have := HTT.out k h; omega); omega))).mono (T' := fun k => T k ∨ w2.heap.size ≤ k) (fun k hk => by rcases hk with h | h; exact .inl h; exact .inr (by omega)))
          have HXR12 := Lib.hid ((HXR.out.frame (w' := w11) (fun k hk hlt => HB11.out.block k hlt)).frame (w' := (((w11.setCell ⟨w.heap.size, 0, none⟩ (.int .i64 r1)).setCell ⟨w.heap.size, 1, none⟩ (.slice a11 R11.length c11)).setCell ⟨w.heap.size, 2, none⟩ (.int .i64 r3)).setCell ⟨w.heap.size, 3, none⟩ (.bool r4)) (fun k hk hlt => HKK.out k (by have := hk.1; omega)))
          have HW2 : Hid (w.heap.size + 1 < w2.heap.size) := hw2
          clear HX11 HR11 HB11 HKK hsz10 hsz11 hw2 HB10 HB9 HB9a
          generalize (((w11.setCell ⟨w.heap.size, 0, none⟩ (.int .i64 r1)).setCell ⟨w.heap.size, 1, none⟩ (.slice a11 R11.length c11)).setCell ⟨w.heap.size, 2, none⟩ (.int .i64 r3)).setCell ⟨w.heap.size, 3, none⟩ (.bool r4) = w12 at *
          obtain ⟨x0, x1, x2, x3⟩ := cells4 HX12.out
          obtain ⟨z0, z1, z2, z3, z4, z5, z6, z7⟩ := cells8w HZ12.out
          obtain ⟨y0, y1, y2, y3, y4, y5', y6⟩ := cells7 HY12.out
          have q0 := freeAt HZ12.out 0
          have q1 := freeAt HZ12.out 1
          have q2 := freeAt HZ12.out 2
          have q3 := freeAt HZ12.out 3
          have q4 := freeAt HZ12.out 4
          have q5 := freeAt HZ12.out 5
          have q6 := freeAt HZ12.out 6
          have q7 := freeAt HZ12.out 7
          by_cases hr5 : r5 = 0
          · subst hr5
            go_upto_region 16 with fail
            go_region
            go_wp2
            rw [← HRR.out]
            refine ropen_end_drew (X := X) (room := r1) (plan := r3) (most' := most) (n := f.last) (size := f.front.length) (waiting := 0) (down := r4) (R' := R11) (TT := fun k => T k ∨ w2.heap.size ≤ k) HZ12.out HB12.out HR12.out (fun k hk => by rcases hk with h | h; exact .inl h; exact .inr (by have := HW2.out; omega)) (fun hk => by rcases hk with h | h; (have := HTT.out _ h; omega); (have := HW2.out; omega)) (HXR12.out.mono (fun k hk => hk.1)) HXX.out ?_ HXN.out ?_ HF11.out rfl rfl rfl rfl
            · rw [HXL.out]; unfold rrecsOf; rw [if_neg (by rw [HC.out]; decide), if_neg HF0.out, if_neg (fun h => h rfl)]
            · unfold rlogOf; rw [if_neg (by rw [HC.out]; decide), if_neg HF0.out, if_neg (fun h => h rfl)]
              have e : R11.map RF.f = r2 := HF11.out
              rw [e]
          · have hr6 : (r5 != 0) = true := by simpa using hr5
            have HN5 := Lib.hid hr5
            clear hr5
            go_wp2
            rw [← HRR.out]
            refine ropen_end (X := []) (room := r1) (plan := r3) (most' := 0) (n := 0) (size := 0) (waiting := 0) (down := r4) (R' := R11) (TT := fun k => T k ∨ w2.heap.size ≤ k) HZ12.out HB12.out HR12.out (fun k hk => by rcases hk with h | h; exact .inl h; exact .inr (by have := HW2.out; omega)) (fun hk => by rcases hk with h | h; (have := HTT.out _ h; omega); (have := HW2.out; omega)) (Row.nil _ _ _ _) (by simp) ?_ (by simp) ?_ HF11.out rfl rfl rfl
            · unfold rrecsOf; rw [if_neg (by rw [HC.out]; decide), if_neg HF0.out, if_pos HN5.out]; rfl
            · unfold rlogOf; rw [if_neg (by rw [HC.out]; decide), if_neg HF0.out, if_pos HN5.out]
              have e : R11.map RF.f = r2 := HF11.out
              rw [e]
  · have hcn : (f.code != 0) = true := by simpa using hc
    obtain ⟨z0, z1, z2, z3, z4, z5, z6, z7⟩ := cells8w HZ2.out
    have q0 := freeAt HZ2.out 0
    have q1 := freeAt HZ2.out 1
    have q2 := freeAt HZ2.out 2
    have q3 := freeAt HZ2.out 3
    have q4 := freeAt HZ2.out 4
    have q5 := freeAt HZ2.out 5
    have q6 := freeAt HZ2.out 6
    have q7 := freeAt HZ2.out 7
    go_upto_region 3 with fail
    go_region
    have HC := Lib.hid hc
    clear hcn hc
    go_wp2
    refine ropen_end_drew (w := w) (wz := w2) (T := T) (f := f) (most := most) (r := openS doR D) (a := la) (vr := none) (c := lc) (cr := 0) (R' := R) (room := room) (plan := plan) (most' := 0) (n := 0) (size := 0) (waiting := 0) (down := down) (X := []) (TT := fun k => T k ∧ k < w.heap.size) HZ2.out HB2.out (HR.out.tight.below HB2.out) (fun k hk => .inl hk.1) (fun hk => by have := hk.2; omega) (Row.nil _ _ _ _) (by simp) ?_ (by simp) ?_ ?_ rfl rfl rfl ?_
    all_goals (unfold openS openG; rw [← HF.out, if_pos HC.out])
    · unfold rrecsOf; rw [if_pos HC.out]; rfl
    · unfold rlogOf; rw [if_pos HC.out, HD.out]
    · rw [HD.out]
    · rfl
end Go.Proofs.YtgdmdbdljmlkkaaGreatDoor
