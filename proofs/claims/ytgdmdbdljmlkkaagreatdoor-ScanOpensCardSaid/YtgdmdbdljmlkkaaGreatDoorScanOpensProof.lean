/- The law ScanOpens returns true.
The closed facts of the row ScanOpens, each a lemma of its own; the given statement ScanOpens holds: for every input the law returns true, the tables tied to the program's text. -/
import Derived.Test.YtgdmdbdljmlkkaaGreatDoorScOpenB
import Derived.Test.YtgdmdbdljmlkkaaGreatDoorOpenFiles
import Derived.Test.YtgdmdbdljmlkkaaGreatDoorROpen
import Derived.Test.YtgdmdbdljmlkkaaGreatDoorScSame
import Derived.Test.YtgdmdbdljmlkkaaGreatDoorWideFacts
import Derived.JoinedOf
namespace Go.Proofs.YtgdmdbdljmlkkaaGreatDoor
set_option linter.unusedVariables false
set_option linter.unusedSimpArgs false
open Go.RowKit

set_option maxRecDepth 100000 in
set_option maxHeartbeats 4000000 in
theorem scanOpens_any (room most plan : Int) (a0 : Option Addr) (c0 : Nat) (P : List FI) (w : World) (h : FIs w (.slice a0 P.length c0) P) (hl : P.length ≤ 3518437208780) (ht : Tab w) (hp : 0 ≤ plan ∧ plan ≤ 255) :
    Calls Tryz.prog 4 #[.agg #[.int .i64 room, .int .i64 most], .slice a0 P.length c0, .int .u8 plan] w fun e w' => e = .returned (.bool true) ∧ Below w.heap.size w w' := by
  have HT := Lib.hid ht
  have hb0 : Below w.heap.size w (w.alloc (.cells #[.int .i64 room, .int .i64 most] 46)) := (Below.refl _ _).alloc (Nat.le_refl _) _
  have HF := Lib.hid (fun (w' : World) (hb : Below w.heap.size w w') => files_any room a0 c0 P w' (h.later hb) hl)
  have HBZ := Lib.hid hb0
  have HX0 : Hid ((w.alloc (.cells #[.int .i64 room, .int .i64 most] 46)).heap[w.heap.size]? = some (.cells #[.int .i64 room, .int .i64 most] 46 (0, 0))) := heap_alloc_new _ _
  obtain ⟨hp0, hp1⟩ := hp
  clear h ht hb0
  go_enter Tryz.func4, Tryz.ntmps4
  go_upto_region 1 with fail
  generalize w.alloc (.cells #[.int .i64 room, .int .i64 most] 46) = wz at *
  have k0 := cellAt HX0.out 0 rfl
  have k1 := cellAt HX0.out 1 rfl
  go_quiet (fail)
  have HBN : Hid (Below w.heap.size w (wz.drewN nq)) := ⟨HBZ.out.os, HBZ.out.tape, HBZ.out.output, HBZ.out.size, HBZ.out.block⟩
  generalize wz.drewN nq = wd at *
  clear HBZ HX0 k0 k1
  go_wp2_with fail
  refine (HF.out wd HBN.out).mono ?_
  rintro e w1 ⟨bx, D, S, rm, a, c, R, pl, dn, T, ok, rfl, hd, hr, hS, hTT, hrel, hb, hok⟩
  unfold rdisk
  have HBA : Hid (Below w.heap.size w (w1.alloc (.cells #[.int .i64 rm, .slice a R.length c, .int .i64 pl, .bool dn] 32))) := HBN.out.trans ((hb.alloc hb.size _).mono HBN.out.size)
  have hba1 : Below w1.heap.size w1 (w1.alloc (.cells #[.int .i64 rm, .slice a R.length c, .int .i64 pl, .bool dn] 32)) := (Below.refl _ _).alloc (Nat.le_refl _) _
  have HDA := Lib.hid (hd.frame (fun k hk hl => hba1.block k hl))
  have HRA := Lib.hid (hr.below hba1)
  have HXA : Hid ((w1.alloc (.cells #[.int .i64 rm, .slice a R.length c, .int .i64 pl, .bool dn] 32)).heap[w1.heap.size]? = some (.cells #[.int .i64 rm, .slice a R.length c, .int .i64 pl, .bool dn] 32 (0, 0))) := heap_alloc_new _ _
  have HREL := Lib.hid hrel
  have HSS : Hid (∀ k, S k → w.heap.size ≤ k ∧ k < w1.heap.size) := fun k hk => ⟨by have := (hS k hk).1; have := HBN.out.size; omega, (hS k hk).2⟩
  have HTT : Hid (∀ k, T k → w.heap.size ≤ k ∧ k < w1.heap.size ∧ ¬ S k) := fun k hk => ⟨by have := (hTT k hk).1; have := HBN.out.size; omega, (hTT k hk).2⟩
  have HSZ1 : Hid (w.heap.size ≤ w1.heap.size) := by have h1 := hb.size; have h2 := HBN.out.size; rw [Hid]; omega
  clear hr hTT hrel hb hd hS HF hba1
  cases ok with
  | false =>
    clear hok
    go_upto_region 3 with fail
    generalize w1.alloc (.cells #[.int .i64 rm, .slice a R.length c, .int .i64 pl, .bool dn] 32) = wa at *
    go_wp2_with fail
    refine (scalive_any wa (tab_below HT.out HBA.out)).mono ?_
    rintro e w2 ⟨rfl, hb2⟩
    have HB2 := Lib.hid (HBA.out.trans (hb2.mono HBA.out.size))
    clear hb2
    go_wp2
    go_ret
    exact ⟨rfl, HB2.out⟩
  | true =>
    obtain ⟨-, -, hbn⟩ := hok rfl
    clear hok
    go_upto_region 3 with fail
    have HLT : Hid (w1.heap.size < (w1.alloc (.cells #[.int .i64 rm, .slice a R.length c, .int .i64 pl, .bool dn] 32)).heap.size) := by simp [Hid]
    generalize w1.alloc (.cells #[.int .i64 rm, .slice a R.length c, .int .i64 pl, .bool dn] 32) = wa at *
    have HBN2 := Lib.hid hbn
    clear hbn
    have HAR := Lib.hid (arm_any (.pointer (some ⟨bx, 0, none⟩)) plan D S wa HDA.out)
    go_wp2_with fail
    refine HAR.out.mono ?_
    rintro e w2 ⟨rfl, hd2, hc2⟩
    have hmp : max plan 0 = plan := by omega
    rw [hmp] at hd2
    have HX2 := Lib.hid ((hc2.block w1.heap.size HLT.out (fun h => by have := (HSS.out _ h).2; omega)).trans HXA.out)
    have HR2 := Lib.hid (HRA.out.frame (w' := w2) (fun k hk hl => hc2.block k hl (HTT.out k hk).2.2))
    have HB2 : Hid (Below w.heap.size w w2) := HBA.out.trans (hc2.toBelow (B := w.heap.size) HBA.out.size (fun k hk h => by have := (HSS.out k h).1; omega))
    have HD2 := Lib.hid hd2
    have hl2 : w1.heap.size < w2.heap.size := lt_of_heap HX2.out
    have HL2 := Lib.hid hl2
    obtain ⟨x0, x1, x2, x3⟩ := cells4 HX2.out
    have g2 := freeAt HX2.out 2
    clear hd2 hc2 HAR HDA HRA HXA HBA HLT
    go_upto_region 7 with fail
    have HX3 : Hid ((w2.setCell ⟨w1.heap.size, 2, none⟩ (.int .i64 plan)).heap[w1.heap.size]? = some (.cells #[.int .i64 rm, .slice a R.length c, .int .i64 plan, .bool dn] 32 (0, 0))) := heap_store HX2.out 2 _
    have HD3 := Lib.hid (HD2.out.frame (w' := w2.setCell ⟨w1.heap.size, 2, none⟩ (.int .i64 plan)) (fun k hk _ => Below.heap_setCell _ _ _ _ (fun e => by have e2 : k = w1.heap.size := e; have := (HSS.out k hk).2; omega)))
    have HR3 := Lib.hid (HR2.out.frame (w' := w2.setCell ⟨w1.heap.size, 2, none⟩ (.int .i64 plan)) (fun k hk _ => Below.heap_setCell _ _ _ _ (fun e => by have e2 : k = w1.heap.size := e; have := (HTT.out k hk).2.1; omega)))
    have HB3 : Hid (Below w.heap.size w (w2.setCell ⟨w1.heap.size, 2, none⟩ (.int .i64 plan))) := HB2.out.setCell (p := ⟨w1.heap.size, 2, none⟩) (by show w.heap.size ≤ w1.heap.size; have h1 := HBN.out.size; exact HSZ1.out) _
    clear x0 x1 x2 x3 g2 HX2 HD2 HR2 HB2 HL2
    generalize w2.setCell ⟨w1.heap.size, 2, none⟩ (.int .i64 plan) = w3 at *
    have HREL3 : Hid (Rel { D with plan := plan } ⟨rm, R.map RF.f, plan, dn⟩) := rel_arm HREL.out plan
    have HBD : Hid (Bnd { D with plan := plan } 1500 30) := ⟨HBN2.out.sum, HBN2.out.len, HBN2.out.nm, HBN2.out.nd, ⟨hp0, by show plan ≤ _; omega⟩⟩
    have HBR : Hid (BR ⟨rm, R.map RF.f, plan, dn⟩ 1500 1000) := ⟨by have := HREL3.out.sum; have := HBD.out.sum; omega, by have := HREL3.out.len; have := HBD.out.len; omega, hp0, by show plan ≤ _; omega⟩
    obtain ⟨E, hE⟩ : ∃ E : DS, E = { D with plan := plan } := ⟨_, rfl⟩
    rw [← hE] at HD3 HREL3 HBD
    clear hE HREL HBN2 hmp
    have HOP := Lib.hid (scopen_any (.pointer (some ⟨bx, 0, none⟩)) E S most w3 HD3.out (fun k hk => by have h1 := (HSS.out k hk).2; have h2 := lt_of_heap HX3.out; omega) (fun w' hc => tab_below HT.out (HB3.out.trans (hc.toBelow (B := w.heap.size) HB3.out.size (fun k hk h => by have := (HSS.out k h).1; omega)))) HBD.out (by omega) (by omega))
    clear HD3
    go_wp2_with fail
    refine HOP.out.mono ?_
    intro e w4 hop
    obtain ⟨SS, lp, va, ca, X, rfl, hd4, hss, hc4, hsl4, hxl4, hopn⟩ := openB_of hop
    have HX4 := Lib.hid ((hc4.block w1.heap.size (lt_of_heap HX3.out) (fun h => by have := (HSS.out _ h).2; omega)).trans HX3.out)
    have HR4 := Lib.hid (HR3.out.frame (w' := w4) (fun k hk hl => hc4.block k hl (HTT.out k hk).2.2))
    have HB4 : Hid (Below w.heap.size w w4) := HB3.out.trans (hc4.toBelow (B := w.heap.size) HB3.out.size (fun k hk h => by have := (HSS.out k h).1; omega))
    have HD4 := Lib.hid hd4
    have HSL4 := Lib.hid hsl4
    have HXL4 := Lib.hid hxl4
    have HOPN := Lib.hid hopn
    have hTl : ∀ k, T k → k < w4.heap.size := fun k hk => by have h1 := (HTT.out k hk).2.1; have h2 := lt_of_heap HX4.out; omega
    have hRl : R.length ≤ 1000 := by have := HBR.out.len; simp only [List.length_map] at this; have := HREL3.out.len; have h2 := HBD.out.len; simp only [List.length_map] at this; omega
    have hRb : ∀ r ∈ R, r.f.b.length ≤ 100000 := fun r hr => by
      have h1 := len_le_sum (List.mem_map_of_mem (f := RF.f) hr)
      have h3 := HBR.out.sum
      simp only at h3
      omega
    have hro := rscopen_any rm plan most dn (.slice a R.length c) R T w4 HR4.out hTl hRl hRb HBR.out (by omega)
    rw [← rel_find HREL3.out] at hro
    have HRO := Lib.hid hro
    have HOE := Lib.hid (rel_openS HREL3.out)
    have HSM := Lib.hid (bnd_open HBD.out)
    obtain ⟨x0, x1, x2, x3⟩ := cells4 HX4.out
    generalize openS doP E = rp at *
    generalize openS doR ⟨rm, R.map RF.f, plan, dn⟩ = rr at *
    obtain ⟨P1, cd⟩ := rp
    obtain ⟨F1, cd2⟩ := rr
    obtain rfl : cd = cd2 := HOE.out.1
    generalize findS E = f at *
    simp only at HD4 HXL4 HOPN HSM
    clear hop hd4 hss hc4 hsl4 hxl4 hopn hTl hRl hRb hro HOP HR3 HX3 HB3 HREL3 HBD HBR
    unfold rdisk at HRO
    go_wp2_with fail
    refine HRO.out.mono ?_
    rintro e w5 ⟨a5, c5, R5, v5, vc5, X5, rfl, hf5, hr5, hsl5, hxl5, hxn5, hb5⟩
    have hN := rlogOf_D F1 f most cd
    have HOP5 := Lib.hid (fun (w'' : World) (v : Value) (hb : Below w4.heap.size w4 w'') => HOPN.out w'' v F1 hb)
    have hf5' : R5.map RF.f = F1.files := hf5
    have hre5 : Rel P1 ⟨(rlogOf F1 f most cd).D.room, R5.map RF.f, (rlogOf F1 f most cd).D.plan, (rlogOf F1 f most cd).D.down⟩ := by rw [hN, hf5']; exact HOE.out.2
    have HRE5 := Lib.hid hre5
    simp only at hxl5
    generalize rlogOf F1 f most cd = M at *
    unfold rlog at HOP5 ⊢
    have hb6 : Below w4.heap.size w4 (w5.alloc (.cells #[.int .i64 M.D.room, .slice a5 R5.length c5, .int .i64 M.D.plan, .bool M.D.down, .int .i64 M.most, .int .i64 M.n, .int .i64 M.size, .int .i64 M.waiting] 34)) := hb5.alloc hb5.size _
    have hb65 : Below w5.heap.size w5 (w5.alloc (.cells #[.int .i64 M.D.room, .slice a5 R5.length c5, .int .i64 M.D.plan, .bool M.D.down, .int .i64 M.most, .int .i64 M.n, .int .i64 M.size, .int .i64 M.waiting] 34)) := (Below.refl _ _).alloc (Nat.le_refl _) _
    have HY6 : Hid ((w5.alloc (.cells #[.int .i64 M.D.room, .slice a5 R5.length c5, .int .i64 M.D.plan, .bool M.D.down, .int .i64 M.most, .int .i64 M.n, .int .i64 M.size, .int .i64 M.waiting] 34)).heap[w5.heap.size]? = some (.cells #[.int .i64 M.D.room, .slice a5 R5.length c5, .int .i64 M.D.plan, .bool M.D.down, .int .i64 M.most, .int .i64 M.n, .int .i64 M.size, .int .i64 M.waiting] 34 (0, 0))) := heap_alloc_new _ _
    have HB6 := Lib.hid (HB4.out.trans (hb6.mono HB4.out.size))
    have HA6 := Lib.hid hb6
    have HD6 := Lib.hid (HD4.out.frame (fun k _ hk => hb6.block k hk))
    have HS6 := Lib.hid (HSL4.out.later hb6)
    have HR6 := Lib.hid (hr5.below hb65)
    have HQ6 := Lib.hid (hsl5.later hb65)
    have HLE : Hid (X.map SL.l = X5.map SL.l) := by rw [Hid, HXL4.out, hxl5]
    have HLN : Hid (X.length ≤ 1000000000) := by
      have h1 := congrArg List.length HLE.out
      rw [List.length_map, List.length_map] at h1
      rw [Hid]; omega
    have HRL : Hid (R5.length ≤ 5000) := by
      have h1 := HRE5.out.len
      have h2 := HSM.out.len
      simp only [List.length_map] at h1
      rw [Hid]; omega
    clear hb5 hb6 hb65 hr5 hsl5 hxl5 hf5 hf5' hre5 hN HRO HOPN HR4 HX4 HD4 HSL4 HXL4 x0 x1 x2 x3
    go_upto_region 9 with fail
    generalize w5.alloc (.cells #[.int .i64 M.D.room, .slice a5 R5.length c5, .int .i64 M.D.plan, .bool M.D.down, .int .i64 M.most, .int .i64 M.n, .int .i64 M.size, .int .i64 M.waiting] 34) = w6 at *
    have HK : Hid (∀ w', Hid (Below w6.heap.size w6 w') → w'.cell? ⟨w5.heap.size, 0, none⟩ = some (.int .i64 M.D.room) ∧ w'.cell? ⟨w5.heap.size, 1, none⟩ = some (.slice a5 R5.length c5) ∧ w'.cell? ⟨w5.heap.size, 2, none⟩ = some (.int .i64 M.D.plan) ∧ w'.cell? ⟨w5.heap.size, 3, none⟩ = some (.bool M.D.down) ∧ w'.cell? ⟨w5.heap.size, 4, none⟩ = some (.int .i64 M.most) ∧ w'.cell? ⟨w5.heap.size, 5, none⟩ = some (.int .i64 M.n) ∧ w'.cell? ⟨w5.heap.size, 6, none⟩ = some (.int .i64 M.size) ∧ w'.cell? ⟨w5.heap.size, 7, none⟩ = some (.int .i64 M.waiting)) := fun w' hb => cells8w ((hb.out.block _ (lt_of_heap HY6.out)).trans HY6.out)
    have HAL : Hid (∀ w', Hid (Below w6.heap.size w6 w') → Calls Tryz.prog 25 #[] w' fun e w'' => e = .returned (.bool true) ∧ Below w'.heap.size w' w'') := fun w' hb => scalive_any w' (tab_below HT.out (HB6.out.trans (hb.out.mono HB6.out.size)))
    have HOA : Hid (∀ w', Hid (Below w6.heap.size w6 w') → Calls Tryz.prog 29 #[.pointer lp, .int .i64 cd, .agg #[.int .i64 M.D.room, .slice a5 R5.length c5, .int .i64 M.D.plan, .bool M.D.down, .int .i64 M.most, .int .i64 M.n, .int .i64 M.size, .int .i64 M.waiting], .int .i64 cd] w' fun e w'' => e = .returned (.bool true) ∧ Below w'.heap.size w' w'') := fun w' hb => HOP5.out w' _ (HA6.out.trans (hb.out.mono HA6.out.size))
    have HSA : Hid (∀ w', Hid (Below w6.heap.size w6 w') → Calls Tryz.prog 30 #[.pointer (some ⟨bx, 0, none⟩), .agg #[.int .i64 M.D.room, .slice a5 R5.length c5, .int .i64 M.D.plan, .bool M.D.down]] w' fun e w'' => e = .returned (.bool true) ∧ Below w'.heap.size w' w'') := fun w' hb =>
      scsame_any _ P1 SS M.D.room M.D.plan M.D.down _ R5 _ w' (HD6.out.frame (fun k _ hk => hb.out.block k hk)) (HR6.out.below hb.out) HRE5.out (by have := HSM.out.sum; omega) HRL.out (fun g hg => by have := HSM.out.nm g hg; unfold maxLen; omega)
    have HRS : Hid (∀ w', Hid (Below w6.heap.size w6 w') → Calls Tryz.prog 21 #[.slice va X.length ca, .slice v5 X5.length vc5] w' fun e w'' => e = .returned (.bool true) ∧ Below w'.heap.size w' w'') := fun w' hb =>
      rsameL_any _ _ X X5 w' (HS6.out.later hb.out) (HQ6.out.later hb.out) HLE.out HLN.out
    clear HD6 HS6 HR6 HQ6 HLE HLN HRL HRE5 HSM HOE HY6 HOP5
    go_wp2_with fail
    refine (HAL.out w6 (Lib.hid (Below.refl _ _))).mono ?_
    rintro e wb ⟨rfl, hba⟩
    have HBa := Lib.hid hba
    obtain ⟨k0, k1, k2, k3, k4, k5, k6, k7⟩ := HK.out wb HBa
    clear hba
    go_wp2_with fail
    refine (HOA.out wb HBa).mono ?_
    rintro e wo ⟨rfl, hbc⟩
    have HBc := belh_step (w0 := w6) HBa hbc
    clear hbc k0 k1 k2 k3 k4 k5 k6 k7
    go_wp2_with fail
    refine (HRS.out wo HBc).mono ?_
    rintro e wd ⟨rfl, hbd⟩
    have HBd := belh_step (w0 := w6) HBc hbd
    obtain ⟨k0, k1, k2, k3, k4, k5, k6, k7⟩ := HK.out wd HBd
    clear hbd
    go_wp2_with fail
    refine (HSA.out wd HBd).mono ?_
    rintro e we ⟨rfl, hbe⟩
    have HBe := belh_step (w0 := w6) HBd hbe
    clear hbe k0 k1 k2 k3 k4 k5 k6 k7
    go_wp2
    go_ret
    exact ⟨rfl, HB6.out.trans (HBe.out.mono HB6.out.size)⟩
end Go.Proofs.YtgdmdbdljmlkkaaGreatDoor
namespace Go.Proofs.YtgdmdbdljmlkkaaGreatDoor
open Go.ChangeShapes Go.WideShapes
set_option maxRecDepth 100000

theorem andTwoScanOpens {a b : Bool} (ha : a = true) (hb : b = true) : (a && b) = true := by rw [ha, hb]; rfl

theorem namedScanOpens : Tryz.prog.funcNamed Rows.scanOpensRow.func = some 4 := by kernel_rfl

set_option maxHeartbeats 0 in
theorem joinedScanOpens : joinedFacts Tryz.prog 4 Tryz.f4 Rows.scanOpensSpec Rows.scanOpensRow = true := by
  unfold joinedFacts
  rw [wfLaid, wfMaps, wfStops, wfKnobs, wfHeard, wfEnter, wfLifts, wfMake, wfKeys]
  repeat' (with_reducible apply andTwoScanOpens)
  all_goals (as_aux_lemma => kernel_rfl)

theorem instScanOpens : Tryz.f4.isInstance Tryz.prog Rows.scanOpensRow.origin Rows.scanOpensRow.targs :=
  of_decide_eq_true (by kernel_rfl)

theorem readableScanOpens : ∀ t ∈ Tryz.f4.params.toList, Tryz.prog.readableRec t = true ∧ t < Tryz.prog.types.size := by
  rw [Tryz.params4]
  intro t ht
  have hall : ([46, 30, 5].all fun u => Tryz.prog.readableRec u && decide (u < Tryz.prog.types.size)) = true := by kernel_rfl
  have h := List.all_eq_true.1 hall t (by simpa using ht)
  simpa using h

theorem standScanOpens (j : Nat) (t : TypeId) (ht : Tryz.f4.params[j]? = some t) : Tryz.prog.wantsStandIn t = false := by
  rw [Tryz.params4] at ht
  have hm : t ∈ [46, 30, 5] := by simpa using Array.mem_of_getElem? ht
  have hall : ([46, 30, 5].all fun u => !Tryz.prog.wantsStandIn u) = true := by kernel_rfl
  simpa using List.all_eq_true.1 hall t hm

theorem goesScanOpens : false = Rows.scanOpensRow.goesBy Tryz.prog := by kernel_rfl

theorem byTextScanOpens : Rows.scanOpensRow.wfByText (OpenSpec.ofChange Rows.scanOpensSpec) = true := by kernel_rfl

end Go.Proofs.YtgdmdbdljmlkkaaGreatDoor
namespace Go.Proofs.YtgdmdbdljmlkkaaGreatDoor
set_option linter.unusedVariables false
set_option linter.unusedSimpArgs false
open Go.ChangeShapes Go.WideShapes Go.ChangeAt Go.RowKit

set_option maxRecDepth 100000 in
theorem liftedScanOpens (os : Os) (started : os.Started) (H : Type) (enc : TypeId × Value → H) :
    ReturnsInHanded {} Tryz.checked os 4 .any (fun w args => (Rows.scanOpensSpec.pre enc Tryz.prog Tryz.f4 [] false w args ∧ laidMetH Tryz.prog laidD w) ∧ sizedMet enc Tryz.prog Tryz.f4 (OpenSpec.ofChange Rows.scanOpensSpec) false w args)
      (Rows.scanOpensSpec.post enc Tryz.prog Tryz.f4 false true false false) := by
  refine returnsInHanded_of_change_and (C := Tryz.checked) (X := fun w _ => laidMetH Tryz.prog laidD w) (fun _ _ _ hh h => h.of_heap hh) own started (by kernel_rfl) Tryz.func4
    (ChangeSpec.witness_shaped (enc := enc) (C := Tryz.checked) (os := os) (X := fun w _ => laidMetH Tryz.prog laidD w) false (World.laidAll Tryz.prog os laidD) #[.agg #[.int .i64 0, .int .i64 0], .slice none 0 0, .int .u8 0] 8 (World.laidAll_os _ _ _)
      (World.shaped_of_ZipB (by kernel_rfl) (by kernel_rfl)) (by kernel_rfl) (by kernel_rfl) (by kernel_rfl) (laid_met os _)) ?_
  intro W base args ds gs before hval0 hW _ hwt hL _
  have hval : ∀ (j : Nat) t v, Tryz.f4.params[j]? = some t → args[j]? = some v → Value.okWide Tryz.prog W .any base t v := hval0
  have hW' := hW
  obtain ⟨p, q, hA0, hV, -, hfz, hnd⟩ := hW'
  have hA : DataW.TrodAll enc Tryz.prog W 0 (fun _ => true) true Tryz.f4.params.toList args.toList ds p := hA0
  rw [Tryz.params4] at hA hval
  obtain ⟨v0, v1, v2, d0, d1, d2, p0, p1, p2, rfl, rfl, rfl, h0, h1, h2⟩ := trodAll_three hA
  obtain ⟨rfl, rfl⟩ := trodVars_none hV
  have hw1 : ∀ n ∈ d1.weights Tryz.prog 30, n ≤ 140737488351232 := fun n hn => by
    have h := List.all_eq_true.1 hwt n (by
      rw [Tryz.params4]
      show n ∈ DataW.weightsEach Tryz.prog (46 :: (30 :: _)) (_ :: (d1 :: _))
      rw [DataW.weightsEach, DataW.weightsEach]; exact List.mem_append_right _ (List.mem_append_left _ hn))
    exact of_decide_eq_true h
  obtain ⟨r0, m0, rfl, -, -⟩ := open_two_int (hval 0 46 v0 rfl rfl) h0
  obtain ⟨P, ba, bc, rfl, hP, hPl⟩ := open_files (hval 1 30 v1 rfl rfl) h1 hw1
  obtain ⟨pl, rfl, rfl, rfl, w2⟩ := open_int Tryz.underlying5 (hval 2 5 v2 rfl rfl) h2
  have hb0 := bounds_u8 w2
  clear hA0 hval0
  refine (scanOpens_any r0 m0 pl ba bc P W hP hPl (tab_of_laid hL) hb0).mono fun e W' ⟨he, bel⟩ => ?_
  subst he
  exact ⟨_, rfl, law_post rfl rfl rfl readableScanOpens rfl hW bel⟩

theorem rowScanOpens : Rows.ScanOpensSaid :=
  OpenClaim.holds_of_wide 4 Tryz.f4 rfl rfl rfl rfl rfl rfl rfl ⟨rfl, rfl, rfl, rfl, rfl⟩ rfl rfl rfl rfl rfl namedScanOpens Tryz.func4 joinedScanOpens instScanOpens
    (by unfold Func.isWrapper; rw [if_neg (by decide +kernel)]; exact ⟨rfl, rfl⟩)
    (fun os started H enc _ => liftedScanOpens os started H enc)

theorem scanOpens_holds : Rows.ScanOpensCardSaid :=
  Claim7.holds_tied_plain_at .later [] [.data, .data, .data, .data, .pinned] true _ false
    rowScanOpens (fun _ h => by cases h) byTextScanOpens (fun _ h => by cases h) scanOpens_row_tie rfl ⟨rfl, rfl⟩ wfMain rfl
    (fun f fn hf hfn => by
      obtain rfl : f = 4 := Option.some.inj (namedScanOpens.symm.trans hf) |>.symm
      obtain rfl : fn = Tryz.f4 := (Option.some.inj (Tryz.func4.symm.trans hfn)).symm
      exact ⟨wfLooks.symm, standScanOpens⟩)
    goesScanOpens
#print axioms scanOpens_holds
end Go.Proofs.YtgdmdbdljmlkkaaGreatDoor
