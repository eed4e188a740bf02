/- TrimF, TrimG, TrimH -/
import Derived.Test.YtgdmdbdljmlkkaaGreatDoorTz32
import Derived.Test.YtgdmdbdljmlkkaaGreatDoorTz34
import Derived.Deep.DrawnRows
set_option maxRecDepth 100000
set_option linter.unusedVariables false
set_option linter.unusedSimpArgs false
namespace Go.Proofs.YtgdmdbdljmlkkaaGreatDoor
open Go.RowKit
set_option maxHeartbeats 1000000 in
theorem rfjoin_any (a : Option Addr) (c : Nat) (P : List SL) (w : World) (h : SLs w (.slice a P.length c) P) (hP : P.length ≤ 100) (he : ∀ x ∈ P, x.l.length ≤ 2000) :
   Calls Tryz.prog 112 #[.slice a P.length c] w (BytesP w (some (framesB (P.map SL.l)))) := by
 have H := Lib.hid h
 have HE := Lib.hid he
 clear h he
 unfold BytesP
 go_enter Tryz.func112, Tryz.ntmps112
 go_wp2_with fail
 go_loopw [4, 5] (fun out i w' => ∃ (k : Nat) (fb : List UInt8) (oa : Option Addr) (oc : Nat), k ≤ P.length ∧ i = .int .i64 k ∧ out = .slice oa fb.length oc ∧ Hid (Row w' 5 1 (.slice oa fb.length oc) fb.length (byts fb) (fun j => w.heap.size ≤ j)) ∧ Hid (fb = framesB ((P.take k).map SL.l)) ∧ Hid (fb.length ≤ 2008 * k) ∧ Hid (Below w.heap.size w w')) (fun _ i _ => P.length - (RowKit.intOf i).toNat)
 case atStart => exact ⟨0, [], none, 0, by omega, rfl, rfl, Row.nil _ _ _ _, by simp [Hid, framesB], by simp [Hid], Below.refl _ _⟩
 case round =>
   obtain ⟨k, fb, oa, oc, hk, rfl, rfl, HR, HJ, HLN, HB⟩ := hrel
   by_cases hlt : k < P.length
   · obtain ⟨b, o, ea, ec, rfl, hle, hbl, hev, hc, hr⟩ := (H.out.later HB.out).head hlt
     have hxl := HE.out P[k] (List.getElem_mem hlt)
     have HMK := Lib.hid (rmake_any ea ec P[k].l wr hr (by omega))
     rw [if_neg (by omega)] at HMK
     have HJ2 : Hid (fb ++ frameB P[k].l = framesB ((P.take (k + 1)).map SL.l)) := by
       rw [Hid, List.take_succ_eq_append_getElem hlt, List.map_append, framesB_append, ← HJ.out]; simp [framesB]
     have hfl : (frameB P[k].l).length = P[k].l.length + 8 := frameB_length _
     have HFL : Hid ((frameB P[k].l).length ≤ 2008) := by rw [Hid]; omega
     generalize P[k].l = pl at *
     clear hr hev hfl hxl
     unfold BytesP at HMK
     have hlno := HLN.out
     have hfno := HFL.out
     go_wp2_with fail
     refine HMK.out.mono ?_
     rintro e w2 ⟨⟨fa, fc, rfl, hrow2⟩, hb2⟩
     have HB2 := Lib.hid (HB.out.trans (hb2.mono HB.out.size))
     have HR2 := Lib.hid (HR.out.frame (w' := w2) (fun j hj hl => hb2.block j hl))
     have HN2 := Lib.hid hrow2
     have hs1 := HB.out.size
     have hs2 := hb2.size
     clear hb2 hrow2 HMK HR hc
     generalize hfr : frameB pl = fr at *
     go_wp2_with (
       refine wpList_row elemU8 rfl rfl (S := fun j => w.heap.size ≤ j) (n := fb.length) (xs := byts fb) rfl HR2.out (y := .slice fa fr.length fc) (m := fr.length) (news := byts fr) rfl HN2.out.reads (byts_one _) (by unfold maxLen; omega) (by omega) ?_
       intro v5 w5 hr5 hc5)
     obtain ⟨oa5, oc5, rfl⟩ := slice_form hr5
     have HLP : Hid ((fb ++ fr).length = fb.length + fr.length) := List.length_append
     have HR5 : Hid (Row w5 5 1 (.slice oa5 (fb ++ fr).length oc5) (fb ++ fr).length (byts (fb ++ fr)) (fun j => w.heap.size ≤ j)) := by
       rw [Hid, HLP.out, byts_append]
       exact hr5.mono (fun j hj => by first | exact hj | omega)
     have HB5 : Hid (Below w.heap.size w w5) := HB2.out.trans (hc5.toBelow HB2.out.size (fun k hk e => by have e2 : w.heap.size ≤ k := e; omega))
     have HLN5 : Hid ((fb ++ fr).length ≤ 2008 * (k + 1)) := by rw [Hid, HLP.out]; omega
     rw [← HLP.out]
     clear hr5 hc5 HR2 HN2 HB2 HJ HLN HFL hlno hfno
     generalize fb ++ fr = fb5 at *
     go_wp2_with fail
     go_roundw
     case rel => exact ⟨k + 1, fb5, oa5, oc5, by omega, by go_num, rfl, HR5, HJ2, HLN5, HB5⟩
     case measure => simp [RowKit.intOf]; omega
   · obtain rfl : k = P.length := by omega
     rw [List.take_length] at HJ
     go_wp2_with fail
     go_ret2
     have hj := HJ.out
     rw [← hj]
     exact ⟨⟨oa, oc, rfl, HR.out⟩, HB.out⟩
theorem rmbytes_any (a : Option Addr) (c : Nat) (P : List SL) (w : World) (h : SLs w (.slice a P.length c) P) (hl : P.length ≤ 90) (he : ∀ x ∈ P, x.l.length ≤ 2000) :
   Calls Tryz.prog 54 #[.slice a P.length c] w (BytesP w (some (framesB ([] :: P.map SL.l)))) := by
 have H := Lib.hid h
 have HE := Lib.hid he
 have H1 : Hid (∀ u ∈ P.map SL.v, u.oneCell' = true) := fun u hu => by
   obtain ⟨x, hx, rfl⟩ := List.mem_map.1 hu
   obtain ⟨-, a, c, hv, -⟩ := h.each x hx
   rw [hv]; rfl
 have hal : Below w.heap.size w (w.alloc (.cells #[.slice none 0 0] 72)) := (Below.refl _ _).alloc (Nat.le_refl _) _
 have HAL := Lib.hid hal
 have HR1 : Hid (Row (w.alloc (.cells #[.slice none 0 0] 72)) 72 1 (.slice (some ⟨w.heap.size, 0, none⟩) 1 1) 1 [.slice none 0 0] (fun k => k = w.heap.size)) :=
   ⟨rfl, .inr ⟨w.heap.size, 0, 1, #[.slice none 0 0], rfl, rfl, heap_alloc_new w _, Nat.le_refl _, by unfold maxLen; omega, by simp, rfl⟩⟩
 have HRP : Hid (Reads (w.alloc (.cells #[.slice none 0 0] 72)) (.slice a P.length c) P.length 1 (P.map SL.v)) := h.rd.later hal
 obtain ⟨b, hbd⟩ : ∃ b, b = framesB ([] :: P.map SL.l) := ⟨_, rfl⟩
 have HBD := Lib.hid hbd
 rw [← hbd]
 clear h hal hbd he
 unfold BytesP
 go_enter Tryz.func54, Tryz.ntmps54
 go_wp2_with (refine wpList_row elemRec rfl rfl (S := fun k => k = w.heap.size) (v := .slice (some ⟨w.heap.size, 0, none⟩) 1 1) (n := 1) (xs := [.slice none 0 0]) rfl HR1.out (y := .slice a P.length c) (m := P.length) (news := P.map SL.v) rfl HRP.out H1.out (by unfold maxLen; omega) (by omega) ?_; intro v5 w5 hr5 hc5)
 obtain ⟨a5, c5, rfl⟩ := slice_form hr5
 have HB5 : Hid (Below w.heap.size w w5) := HAL.out.trans (hc5.toBelow (B := w.heap.size) (by simp) (fun k hk e => by omega))
 have hln : 1 + P.length = P.length + 1 := by omega
 have HR5 := Lib.hid hr5.reads
 rw [hln] at HR5
 rw [hln]
 have hsl : SLs w5 (.slice a5 (P.length + 1) c5) (⟨.slice none 0 0, []⟩ :: P) := ⟨HR5.out, fun x hx => by
   rcases List.mem_cons.1 hx with rfl | hx
   · exact Reads.nil _ _
   · exact (H.out.each x hx).later HB5.out⟩
 have hjn := rfjoin_any a5 c5 (⟨.slice none 0 0, []⟩ :: P) w5 hsl (by simp; omega) (fun x hx => by
   rcases List.mem_cons.1 hx with rfl | hx
   · simp
   · exact HE.out x hx)
 rw [List.length_cons, List.map_cons, show framesB (([] : List UInt8) :: P.map SL.l) = b from HBD.out.symm] at hjn
 have HJN := Lib.hid hjn
 clear hr5 hc5 hln hsl hjn HR5
 unfold BytesP at HJN
 go_wp2_with fail
 refine HJN.out.mono ?_
 rintro e w3 ⟨⟨fa, fc, rfl, hrow3⟩, hb3⟩
 have hs := HB5.out.size
 have HX : Hid ((∃ a' c', Ending.returned (.tuple #[.slice fa b.length fc, .bool true]) = .returned (.tuple #[.slice a' b.length c', .bool true]) ∧ Row w3 5 1 (.slice a' b.length c') b.length (byts b) (fun k => w.heap.size ≤ k)) ∧ Below w.heap.size w w3) := ⟨⟨fa, fc, rfl, hrow3.mono (fun j hj => by omega)⟩, HB5.out.trans (hb3.mono hs)⟩
 clear hrow3 hb3 hs
 go_wp2
 go_ret2
 exact HX.out
end Go.Proofs.YtgdmdbdljmlkkaaGreatDoor
namespace Go.Proofs.YtgdmdbdljmlkkaaGreatDoor
open Go.RowKit
attribute [local go_sem ↓] Go.wp_at_zero Go.wp_at_succ
set_option maxHeartbeats 8000000 in
theorem rcompact_any (room plan most n size wt : Int) (mst : Int) (down : Bool) (v : Value) (R : List RF) (T : Nat → Prop) (pa : Option Addr) (pc : Nat) (P : List SL) (w : World) (h : RLi w v R T) (hT : ∀ k, T k → k < w.heap.size) (hl : R.length ≤ 1000) {s : Nat} (hbr : BR ⟨room, R.map RF.f, plan, down⟩ s 1000) (hs : s ≤ 200000)
   (hn0 : 0 ≤ n ∧ n ≤ 99999) (hP : SLs w (.slice pa P.length pc) P) (hPl : P.length ≤ 90) (hPe : ∀ x ∈ P, x.l.length ≤ 2000) :
   Calls Tryz.prog 47 #[rlog v ⟨n, size, wt, most, ⟨room, R.map RF.f, plan, down⟩⟩, .int .i64 mst, .slice pa P.length pc] w
     (MPst w T (compR ⟨n, size, wt, most, ⟨room, R.map RF.f, plan, down⟩⟩ mst (P.all fullB) (framesB ([] :: P.map SL.l)))) := by
 obtain ⟨la, lc, rfl⟩ := slice_form h.row
 have HR := Lib.hid h
 have HTT := Lib.hid hT
 have HP := Lib.hid hP
 have HPE := Lib.hid hPe
 obtain ⟨hn00, hn01⟩ := hn0
 obtain ⟨rr, hrr⟩ : ∃ r, r = compR ⟨n, size, wt, most, ⟨room, R.map RF.f, plan, down⟩⟩ mst (P.all fullB) (framesB ([] :: P.map SL.l)) := ⟨_, rfl⟩
 have HRR := Lib.hid hrr
 rw [← hrr]
 have hpr : n + 1 ≤ 99999999 := by omega
 have HCL := Lib.hid (fun (va : Value) (ss : List ByteArray) (w' : World) (hb' : Below w.heap.size w w') (hr : Reads w' va ss.length 1 (strsV ss)) (hss : ss.length ≤ 1000) => rclean_any room plan down (.slice la R.length lc) R T va ss w' (h.below hb') (by omega) hr hss)
 have HST := Lib.hid (fun (w' : World) (a : Option Addr) (c : Nat) (Q : List RO) (B : Nat) (w0 : World) (hb0 : Below w.heap.size w w0) (hb' : Below w0.heap.size w0 w') (ho : OpsL w0 w' (.slice a Q.length c) Q B) (hp : Q.length ≤ 2000) (hby : bytsO Q ≤ 300000) => (rsteps_any room plan down (.slice la R.length lc) R T a c Q w' (h.below (hb0.trans (hb'.mono hb0.size))) (ho.ros hb') hp hbr (by omega) (by omega)).mono (fun e w2 he => dop_of he))
 have HNA := Lib.hid (fun (w' : World) (hb' : Below w.heap.size w w') => rnames_any room plan down (.slice la R.length lc) R T w' (h.below hb') (by omega))
 unfold rdisk at HCL HST HNA
 unfold rlog
 clear h hT hP hPe hrr
 go_enter Tryz.func47, Tryz.ntmps47
 have HB1 : Hid (Below w.heap.size w ((w.alloc (.cells #[.int .i64 room, .slice la R.length lc, .int .i64 plan, .bool down, .int .i64 most, .int .i64 n, .int .i64 size, .int .i64 wt] 34)).alloc (.cells #[.int .i64 0, .slice none 0 0, .int .i64 0, .bool false, .int .i64 0, .int .i64 0, .int .i64 0, .int .i64 0] 34))) := ((Below.refl _ _).alloc (Nat.le_refl _) _).alloc (by simp) _
 have HX1 : Hid (((w.alloc (.cells #[.int .i64 room, .slice la R.length lc, .int .i64 plan, .bool down, .int .i64 most, .int .i64 n, .int .i64 size, .int .i64 wt] 34)).alloc (.cells #[.int .i64 0, .slice none 0 0, .int .i64 0, .bool false, .int .i64 0, .int .i64 0, .int .i64 0, .int .i64 0] 34)).heap[w.heap.size]? = some (.cells #[.int .i64 room, .slice la R.length lc, .int .i64 plan, .bool down, .int .i64 most, .int .i64 n, .int .i64 size, .int .i64 wt] 34 (0, 0))) := (alloc2_low w _ _).trans (heap_alloc_new w _)
 have HZ1 : Hid (((w.alloc (.cells #[.int .i64 room, .slice la R.length lc, .int .i64 plan, .bool down, .int .i64 most, .int .i64 n, .int .i64 size, .int .i64 wt] 34)).alloc (.cells #[.int .i64 0, .slice none 0 0, .int .i64 0, .bool false, .int .i64 0, .int .i64 0, .int .i64 0, .int .i64 0] 34)).heap[w.heap.size + 1]? = some (.cells #[.int .i64 0, .slice none 0 0, .int .i64 0, .bool false, .int .i64 0, .int .i64 0, .int .i64 0, .int .i64 0] 34 (0, 0))) := alloc2_high w _ _ (heap_alloc_new _ _)
 have HSZ1 : Hid (((w.alloc (.cells #[.int .i64 room, .slice la R.length lc, .int .i64 plan, .bool down, .int .i64 most, .int .i64 n, .int .i64 size, .int .i64 wt] 34)).alloc (.cells #[.int .i64 0, .slice none 0 0, .int .i64 0, .bool false, .int .i64 0, .int .i64 0, .int .i64 0, .int .i64 0] 34)).heap.size = w.heap.size + 2) := by simp [Hid]
 go_upto_region 1 with fail
 generalize (w.alloc (.cells #[.int .i64 room, .slice la R.length lc, .int .i64 plan, .bool down, .int .i64 most, .int .i64 n, .int .i64 size, .int .i64 wt] 34)).alloc (.cells #[.int .i64 0, .slice none 0 0, .int .i64 0, .bool false, .int .i64 0, .int .i64 0, .int .i64 0, .int .i64 0] 34) = wa at *
 go_wp2_with fail
 have hal : P.all fullB = true ∨ P.all fullB = false := by cases P.all fullB <;> simp
 go_loop [8] (fun i => ∃ k : Nat, k ≤ P.length ∧ i = .int .i64 k ∧ Hid (∀ j (hj : j < P.length), j < k → fullB P[j] = true)) (fun i => P.length - (RowKit.intOf i).toNat)
 case atStart => exact ⟨0, by omega, rfl, fun _ _ h => absurd h (Nat.not_lt_zero _)⟩
 case round =>
   obtain ⟨k, hk, rfl, HLOW⟩ := hrel
   by_cases hlt : k < P.length
   · obtain ⟨b, o, ea, ec, rfl, hle, hbl, hev, hc, hr⟩ := (HP.out.later HB1.out).head hlt
     have HOKF : Hid (P[k].l = [] → P.all fullB = false) := fun h => by
       rw [List.all_eq_false]
       exact ⟨P[k], List.getElem_mem hlt, by unfold fullB; rw [h]; decide⟩
     have HNXT : Hid (P[k].l ≠ [] → ∀ j (hj : j < P.length), j < k + 1 → fullB P[j] = true) := fun h j hj hjm => by
       rcases Nat.lt_or_ge j k with h3 | h3
       · exact HLOW.out j hj h3
       · have : j = k := by omega
         subst this; unfold fullB; exact decide_eq_true h
     clear hr hev
     generalize P[k] = y at *
     have HTA : Hid (RLi wa (.slice la R.length lc) R (fun k => T k ∧ k < w.heap.size)) := HR.out.tight.below HB1.out
     have HNO : Hid (¬ (T (w.heap.size + 1) ∧ w.heap.size + 1 < w.heap.size)) := by rintro h; omega
     obtain ⟨x0, x1, x2, x3, x4, x5, x6, x7⟩ := cells8w HX1.out
     obtain ⟨z0, z1, z2, z3, z4, z5, z6, z7⟩ := cells8w HZ1.out
     have q0 := freeAt HZ1.out 0
     have q1 := freeAt HZ1.out 1
     have q2 := freeAt HZ1.out 2
     have q3 := freeAt HZ1.out 3
     have q4 := freeAt HZ1.out 4
     have q5 := freeAt HZ1.out 5
     have q6 := freeAt HZ1.out 6
     have q7 := freeAt HZ1.out 7
     by_cases h0 : y.l.length = 0
     · have h00 : ((y.l.length : Int) == 0) = true := by simp [h0]
       have hyn : y.l = [] := List.length_eq_zero_iff.1 h0
       have HE : Hid (rr = (⟨n, size, wt, most, ⟨room, R.map RF.f, plan, down⟩⟩, 2)) := by rw [Hid, HRR.out, HOKF.out hyn]; rfl
       clear hyn HOKF HNXT h0
       go_wp2
       try simp only [Exit.inBlock, Exit.then]
       exact rlog_end Tryz.results47 (b2 := w.heap.size + 1) (room := room) (plan := plan) (down := down) (n := n) (size := size) (wt := wt) (most := most) 2 HZ1.out (by omega) HB1.out HTA.out (fun k hk => .inl hk.1) HNO.out HE.out rfl rfl
     · have h00 : ((y.l.length : Int) == 0) = false := beq_eq_false_iff_ne.2 (by omega)
       have HN2 := Lib.hid (HNXT.out (fun e => h0 (by rw [e]; rfl)))
       clear HOKF HNXT h0 HLOW
       go_wp2_with fail
       go_round
       case rel => exact ⟨k + 1, by omega, by go_num, HN2⟩
       case measure => simp [RowKit.intOf]; omega
   · obtain rfl : k = P.length := by omega
     have HFL : Hid (P.all fullB = true) := by
       rw [Hid, List.all_eq_true]
       intro x hx
       obtain ⟨j, hj, rfl⟩ := List.mem_iff_getElem.1 hx
       exact HLOW.out j hj hj
     have HMB := Lib.hid (rmbytes_any pa pc P wa (HP.out.later HB1.out) hPl HPE.out)
     have HBLN : Hid ((framesB ([] :: P.map SL.l)).length ≤ 200000) := by
       have h1 : (framesB ([] :: P.map SL.l)).length = 8 + (framesB (P.map SL.l)).length := by rw [framesB_cons, List.length_append, frameB_length]; rfl
       have h2 := frames_bound P (fun x hx => HPE.out x hx)
       rw [Hid]; omega
     have HRX : Hid (rr = compR ⟨n, size, wt, most, ⟨room, R.map RF.f, plan, down⟩⟩ mst true (framesB ([] :: P.map SL.l))) := by rw [Hid, HRR.out, HFL.out]
     generalize framesB ([] :: P.map SL.l) = b at *
     clear HLOW HFL HRR HP HPE hal
     unfold BytesP at HMB
     obtain ⟨x0, x1, x2, x3, x4, x5, x6, x7⟩ := cells8w HX1.out
     go_wp2_with fail
     refine HMB.out.mono ?_
     rintro e w1 ⟨⟨fa, fc, rfl, hrow1⟩, hb1⟩
     have hsa := HSZ1.out
     have hs1 := hb1.size
     have HB2 := Lib.hid (HB1.out.trans (hb1.mono HB1.out.size))
     have HX2 := Lib.hid ((hb1.block _ (lt_of_heap HX1.out)).trans HX1.out)
     have HZ2 := Lib.hid ((hb1.block _ (lt_of_heap HZ1.out)).trans HZ1.out)
     have HF2 : Hid (Row w1 5 1 (.slice fa b.length fc) b.length (byts b) (fun k => wa.heap.size ≤ k)) := hrow1
     clear x0 x1 x2 x3 x4 x5 x6 x7 hb1 hrow1 HMB HB1 HX1 HZ1
     obtain ⟨x0, x1, x2, x3, x4, x5, x6, x7⟩ := cells8w HX2.out
     go_upto_region 11 with fail
     go_wp2_with fail
     refine (refName_any (n + 1) _).mono ?_
     rintro e w2 ⟨rfl, rfl⟩
     obtain ⟨nm, hnm⟩ : ∃ nm, nm = nameI (n + 1) := ⟨_, rfl⟩
     have HNM := Lib.hid hnm
     have hnms : nm.size ≤ 12 := by rw [hnm]; exact nameI_size _
     have HNMS := Lib.hid hnms
     rw [← hnm]
     clear hnm hnms hk hlt
     generalize decide (1 ≤ n + 1 ∧ n + 1 ≤ 99999999) = okn
     go_upto_region 12 with fail
     go_wp2_with fail
     refine (HCL.out _ [newNm] _ (HB2.out.alloc HB2.out.size _) (Reads.single (heap_alloc_new w1 _)) (by decide)).mono ?_
     rintro e w3 ⟨v3, rfl, hr3, hb3⟩
     have ho3 := opsl_clean (w0 := w1) (B := w1.heap.size) hr3 (by simp) (by intro n hn; simp only [List.mem_cons, List.not_mem_nil, or_false] at hn; rcases hn with rfl; decide)
     have hcl : (cleanL (⟨room, R.map RF.f, plan, down⟩ : DS) [newNm]).length ≤ 1 := cleanL_len _ _
     obtain ⟨P0, hP0⟩ : ∃ P0, P0 = (cleanL (⟨room, R.map RF.f, plan, down⟩ : DS) [newNm]).map bareO := ⟨_, rfl⟩
     have hln : (cleanL (⟨room, R.map RF.f, plan, down⟩ : DS) [newNm]).length = P0.length := by rw [hP0, List.length_map]
     rw [← hP0] at ho3
     rw [hln] at hcl hr3
     obtain ⟨oa, oc, rfl⟩ := slice_form hr3
     have HO3 := Lib.hid ho3
     have HP0 : Hid ((cleanL (⟨room, R.map RF.f, plan, down⟩ : DS) [newNm]).map bareO = P0) := hP0.symm
     have HBA3 := Lib.hid (((Below.refl w1.heap.size w1).alloc (Nat.le_refl _) (.cells #[.string ⟨#[110, 101, 119]⟩] 9)).trans (hb3.mono (by simp)))
     have HB3 := Lib.hid (HB2.out.trans (HBA3.out.mono HB2.out.size))
     clear hr3 hb3 ho3 hP0 hln x0 x1 x2 x3 x4 x5 x6 x7
     have HX3 := Lib.hid ((HBA3.out.block _ (lt_of_heap HX2.out)).trans HX2.out)
     have HZ3 := Lib.hid ((HBA3.out.block _ (lt_of_heap HZ2.out)).trans HZ2.out)
     have hsz13 := HBA3.out.size
     obtain ⟨Q1, hQ1⟩ : ∃ Q : List RO, Q = [⟨⟨1, newNm, ⟨#[]⟩, []⟩, none, 0⟩, ⟨⟨2, newNm, ⟨#[]⟩, b⟩, fa, fc⟩, ⟨⟨3, newNm, ⟨#[]⟩, []⟩, none, 0⟩, ⟨⟨4, newNm, nm, []⟩, none, 0⟩] := ⟨_, rfl⟩
     have HQ1 := Lib.hid hQ1
     have HQL : Hid (Q1.length = 4) := by rw [Hid, hQ1]; rfl
     have HOP2 : Hid ((P0 ++ Q1).map RO.o = cleanL (⟨room, R.map RF.f, plan, down⟩ : DS) [newNm] ++ [⟨1, newNm, ⟨#[]⟩, []⟩, ⟨2, newNm, ⟨#[]⟩, b⟩, ⟨3, newNm, ⟨#[]⟩, []⟩, ⟨4, newNm, nameI (n + 1), []⟩]) := by rw [Hid, List.map_append, ← HP0.out, bareO_o, hQ1, HNM.out]; rfl
     have HBY2 : Hid (bytsO (P0 ++ Q1) ≤ 200000) := by rw [Hid, bytsO_append, ← HP0.out, bytsO_clean, hQ1]; have := HBLN.out; simp [bytsO]; omega
     have HMX : Hid (P0.length + 4 ≤ maxLen) := by unfold maxLen; rw [Hid]; omega
     have HBT : Hid ((P0.length + 4) * 64 ≤ 140737488355328) := by rw [Hid]; omega
     have H1C : Hid (∀ u ∈ ([.int .i64 1, .string ⟨#[110, 101, 119]⟩, .string ⟨#[]⟩, .slice none 0 0, .int .i64 2, .string ⟨#[110, 101, 119]⟩, .string ⟨#[]⟩, .slice fa b.length fc, .int .i64 3, .string ⟨#[110, 101, 119]⟩, .string ⟨#[]⟩, .slice none 0 0, .int .i64 4, .string ⟨#[110, 101, 119]⟩, .string nm, .slice none 0 0] : List Value), u.oneCell' = true) := by intro u hu; simp only [List.mem_cons, List.not_mem_nil, or_false] at hu; rcases hu with rfl | rfl | rfl | rfl | rfl | rfl | rfl | rfl | rfl | rfl | rfl | rfl | rfl | rfl | rfl | rfl <;> rfl
     have HOW : Hid (Row (w3.alloc (.cells #[.int .i64 1, .string ⟨#[110, 101, 119]⟩, .string ⟨#[]⟩, .slice none 0 0, .int .i64 2, .string ⟨#[110, 101, 119]⟩, .string ⟨#[]⟩, .slice fa b.length fc, .int .i64 3, .string ⟨#[110, 101, 119]⟩, .string ⟨#[]⟩, .slice none 0 0, .int .i64 4, .string ⟨#[110, 101, 119]⟩, .string nm, .slice none 0 0] 112)) 112 4 (.slice oa P0.length oc) P0.length (P0.flatMap opcells) (fun k => w1.heap.size ≤ k)) := HO3.out.row.frame (fun k _ hk => Below.heap_alloc w3 _ _ hk)
     have HRN : Hid (Reads (w3.alloc (.cells #[.int .i64 1, .string ⟨#[110, 101, 119]⟩, .string ⟨#[]⟩, .slice none 0 0, .int .i64 2, .string ⟨#[110, 101, 119]⟩, .string ⟨#[]⟩, .slice fa b.length fc, .int .i64 3, .string ⟨#[110, 101, 119]⟩, .string ⟨#[]⟩, .slice none 0 0, .int .i64 4, .string ⟨#[110, 101, 119]⟩, .string nm, .slice none 0 0] 112)) (.slice (some ⟨w3.heap.size, 0, none⟩) 4 4) 4 4 [.int .i64 1, .string ⟨#[110, 101, 119]⟩, .string ⟨#[]⟩, .slice none 0 0, .int .i64 2, .string ⟨#[110, 101, 119]⟩, .string ⟨#[]⟩, .slice fa b.length fc, .int .i64 3, .string ⟨#[110, 101, 119]⟩, .string ⟨#[]⟩, .slice none 0 0, .int .i64 4, .string ⟨#[110, 101, 119]⟩, .string nm, .slice none 0 0]) := Reads.block (heap_alloc_new w3 _) 4 4 rfl
     go_upto_region 14 with (refine wpList_row elemOp rfl rfl (S := fun k => w1.heap.size ≤ k) (v := .slice oa P0.length oc) (n := P0.length) (xs := P0.flatMap opcells) rfl HOW.out (y := .slice (some ⟨w3.heap.size, 0, none⟩) 4 4) (m := 4) (news := [.int .i64 1, .string ⟨#[110, 101, 119]⟩, .string ⟨#[]⟩, .slice none 0 0, .int .i64 2, .string ⟨#[110, 101, 119]⟩, .string ⟨#[]⟩, .slice fa b.length fc, .int .i64 3, .string ⟨#[110, 101, 119]⟩, .string ⟨#[]⟩, .slice none 0 0, .int .i64 4, .string ⟨#[110, 101, 119]⟩, .string nm, .slice none 0 0]) rfl HRN.out H1C.out HMX.out HBT.out ?_; intro v5 w5 hr5 hc5)
     have hb5 : Below w1.heap.size w1 w5 := (HBA3.out.alloc (by omega) _).trans (hc5.toBelow (B := w1.heap.size) (by simp; omega) (fun k hk h => by omega))
     have ho5 := HO3.out.snoc (Q := Q1) hr5 (fun k hk => hk) (by simp; omega) HQL.out.symm (by rw [HQ1.out]; rfl)
       (by intro r hr; rw [HQ1.out] at hr; simp only [List.mem_cons, List.not_mem_nil, or_false] at hr; rcases hr with rfl | rfl | rfl | rfl; exact Reads.nil _ _; exact HF2.out.reads; exact Reads.nil _ _; exact Reads.nil _ _)
       (by
         have hcs : newNm.size ≤ 100000 := by decide
         have he : (⟨#[]⟩ : ByteArray).size ≤ 100000 := by decide
         have hn := HNMS.out
         intro r hr; rw [HQ1.out] at hr; simp only [List.mem_cons, List.not_mem_nil, or_false] at hr
         rcases hr with rfl | rfl | rfl | rfl
         · exact ⟨⟨show 1 ≤ 1 by decide, show 1 ≤ 5 by decide⟩, hcs, he⟩
         · exact ⟨⟨show 1 ≤ 2 by decide, show 2 ≤ 5 by decide⟩, hcs, he⟩
         · exact ⟨⟨show 1 ≤ 3 by decide, show 3 ≤ 5 by decide⟩, hcs, he⟩
         · exact ⟨⟨show 1 ≤ 4 by decide, show 4 ≤ 5 by decide⟩, hcs, by show nm.size ≤ 100000; omega⟩)
     obtain ⟨a5, c5, rfl⟩ := slice_form hr5
     have hpl5 : P0.length + 4 = (P0 ++ Q1).length := by rw [List.length_append, HQL.out]
     rw [hpl5] at ho5 ⊢
     have HO5 := Lib.hid ho5
     have HB5 := Lib.hid hb5
     have HP5 : Hid ((P0 ++ Q1).length ≤ 5) := by rw [Hid, ← hpl5]; omega
     clear hr5 hc5 ho5 hb5 hpl5 HOW HRN H1C HMX HBT HQ1 hQ1 HQL HO3 HP0 HX3 HZ3 hcl
     generalize P0 ++ Q1 = P1 at *
     have HX5 := Lib.hid ((HB5.out.block _ (lt_of_heap HX2.out)).trans HX2.out)
     have HBW5 := Lib.hid (HB2.out.trans (HB5.out.mono HB2.out.size))
     obtain ⟨x0, x1, x2, x3, x4, x5, x6, x7⟩ := cells8w HX5.out
     go_wp2_with fail
     refine (HNA.out _ HBW5.out).mono ?_
     rintro e w6 ⟨v6, rfl, hr6, hb6⟩
     have hls := refList_any v6 (R.map fun r => r.f.name) w6 (by rw [← namesR_V, List.length_map]; exact hr6.reads) (by rw [List.length_map]; omega)
     have HLS := Lib.hid hls
     have hs5 := HB5.out.size
     have HB6 := Lib.hid (HB5.out.trans (hb6.mono hs5))
     have HB56 := Lib.hid hb6
     clear hls hr6 hb6
     go_wp2_with fail
     refine HLS.out.mono ?_
     rintro e w7 ⟨v7, rfl, hr7, hb7⟩
     have HB7 := Lib.hid (HB6.out.trans (hb7.mono HB6.out.size))
     have HB57 := Lib.hid (HB56.out.trans (hb7.mono HB56.out.size))
     have HRL := Lib.hid (reads_of_owns hr7)
     clear hr7 hb7 HLS HB6 HB56 HNA
     have HO7 := Lib.hid (HO5.out.later HB57.out)
     have HX7 := Lib.hid ((HB7.out.block _ (lt_of_heap HX2.out)).trans HX2.out)
     have HBW7 := Lib.hid (HB2.out.trans (HB7.out.mono HB2.out.size))
     have hs7 := HB7.out.size
     have HKS : Hid (∀ w', Hid (Below w1.heap.size w1 w') → w'.cell? ⟨w.heap.size, 0, none⟩ = some (.int .i64 room) ∧ w'.cell? ⟨w.heap.size, 1, none⟩ = some (.slice la R.length lc) ∧ w'.cell? ⟨w.heap.size, 2, none⟩ = some (.int .i64 plan) ∧ w'.cell? ⟨w.heap.size, 3, none⟩ = some (.bool down) ∧ w'.cell? ⟨w.heap.size, 5, none⟩ = some (.int .i64 n)) := fun w' hb => by
       obtain ⟨a0, a1, a2, a3, a4, a5, a6, a7⟩ := cells8w ((hb.out.block _ (lt_of_heap HX2.out)).trans HX2.out)
       exact ⟨a0, a1, a2, a3, a5⟩
     have hrl : (refL (R.map fun r => r.f.name)).length ≤ 1000 := by
       have := refL_length (R.map fun r => r.f.name)
       rw [List.length_map] at this; omega
     have hol := olderL_len (refL (R.map fun r => r.f.name)) (n + 1)
     have HOLD : Hid (∀ w', Hid (Below w7.heap.size w7 w') → Calls Tryz.prog 89 #[v7, .int .i64 (n + 1)] w' fun e w'' => ∃ v', e = .returned v' ∧ Row w'' 9 1 v' (olderL (refL (R.map fun r => r.f.name)) (n + 1)).length (strsV (olderL (refL (R.map fun r => r.f.name)) (n + 1))) (fun k => w'.heap.size ≤ k) ∧ Below w'.heap.size w' w'') := fun w' hb => rolder_any _ (refL (R.map fun r => r.f.name)) (n + 1) w' (HRL.out.later hb.out) hrl
     have HSEG : Hid (segsD (⟨room, R.map RF.f, plan, down⟩ : DS) = refL (R.map fun r => r.f.name)) := by unfold segsD; rw [Hid, List.map_map]; rfl
     have HB00 : Hid (Below w7.heap.size w7 w7.drew) := (Below.refl _ _).drew
     have HB01 : Hid (Below w1.heap.size w1 w7.drew) := HB7.out.drew
     obtain ⟨OLD, hOLD⟩ : ∃ l, l = olderL (refL (R.map fun r => r.f.name)) (n + 1) := ⟨_, rfl⟩
     have HNO : Hid (∀ n ∈ OLD, n.size ≤ 100000) := fun n hn => by
       rw [hOLD] at hn
       unfold olderL at hn
       obtain ⟨m, -, rfl⟩ := List.mem_map.1 hn
       have := nameI_size m; omega
     rw [← hOLD] at HOLD hol
     obtain ⟨D, hD⟩ : ∃ D : DS, D = ⟨room, R.map RF.f, plan, down⟩ := ⟨_, rfl⟩
     have HD := Lib.hid hD
     have HRE : Hid (compRL D n b = (P1.map RO.o) ++ cleanL D OLD) := by rw [Hid, HOP2.out, hOLD, ← HSEG.out, hD]; rfl
     rw [← hD] at HCL HST HRX
     have hcll : (cleanL D OLD).length ≤ 1000 := by have := cleanL_len D OLD; omega
     have HMX : Hid (P1.length + (cleanL D OLD).length ≤ maxLen) := by have := HP5.out; unfold maxLen; rw [Hid]; omega
     have HBT : Hid ((P1.length + (cleanL D OLD).length) * 64 ≤ 140737488355328) := by have := HP5.out; rw [Hid]; omega
     have HOL1 : Hid (OLD.length ≤ 1000) := by rw [Hid]; omega
     have HCB : Hid (bytsO ((cleanL D OLD).map bareO) = 0) := bytsO_clean _ _
     have HCC : Hid (((cleanL D OLD).map bareO).map RO.o = cleanL D OLD) := bareO_o _
     have HCG := Lib.hid (fun (w8 : World) (v8 : Value) (C : Nat) (hr : Row w8 112 4 v8 (cleanL D OLD).length (((cleanL D OLD).map bareO).flatMap opcells) (fun k => C ≤ k)) => opsl_clean (w0 := w1) (B := C) hr (Nat.le_refl C) HNO.out)
     obtain ⟨C, hC⟩ : ∃ C, C = (cleanL D OLD).map bareO := ⟨_, rfl⟩
     have hcn : (cleanL D OLD).length = C.length := by rw [hC, List.length_map]
     have HCLO : Hid (∀ (v8 : Value) (w8 : World), Hid (Below w7.heap.size w7 w8) → Reads w8 v8 OLD.length 1 (strsV OLD) → Calls Tryz.prog 87 #[.agg #[.int .i64 room, .slice la R.length lc, .int .i64 plan, .bool down], v8] w8 fun e w' => ∃ v', e = .returned v' ∧ Row w' 112 4 v' C.length (C.flatMap opcells) (fun k => w8.heap.size ≤ k) ∧ Below w8.heap.size w8 w') := fun v8 w8 hb hr => by
       have := HCL.out v8 OLD w8 (HBW7.out.trans (hb.out.mono HBW7.out.size)) hr HOL1.out
       rwa [← hC, hcn] at this
     rw [← hC] at HCB HCC HCG
     rw [hcn] at HCG HMX HBT hcll
     clear hC hcn hOLD HCL hol hrl hD HSEG HOP2 HRL HX7 HO5 HX5 HBW5 x0 x1 x2 x3 x4 x5 x6 x7
     go_upto_region 15 with fail
     have hwr : IntKind.i64.wrap (n + 1) = n + 1 := IntWalk.i64_in _ (by omega)
     go_region_held3 (fun w' => w'.cell? ⟨w.heap.size, 0, none⟩ = some (.int .i64 room) ∧ w'.cell? ⟨w.heap.size, 1, none⟩ = some (.slice la R.length lc) ∧ w'.cell? ⟨w.heap.size, 2, none⟩ = some (.int .i64 plan) ∧ w'.cell? ⟨w.heap.size, 3, none⟩ = some (.bool down) ∧ w'.cell? ⟨w.heap.size, 5, none⟩ = some (.int .i64 n)) (exact HKS.out _ (by assumption))
       (first
       | (go_at_call 89; refine (HOLD.out _ (by assumption)).mono ?_; rintro e w8 ⟨v8, rfl, hr8, hb8⟩
          have HB8 := belh_step (w0 := w7) (by assumption) hb8
          have HB81 := Lib.hid (HB7.out.trans (HB8.out.mono HB7.out.size))
          have HR8 := Lib.hid hr8.reads
          clear hr8 hb8)
       | (go_at_call 87; refine (HCLO.out v8 w8 HB8 HR8.out).mono ?_; rintro e w9 ⟨v9, rfl, hr9, hb9⟩
          have HB9 := belh_step (w0 := w7) HB8 hb9
          have HB91 := Lib.hid (HB7.out.trans (HB9.out.mono HB7.out.size))
          have HR9 := Lib.hid hr9
          have HOW : Hid (Row w9 112 4 (.slice a5 P1.length c5) P1.length (P1.flatMap opcells) (fun k => w1.heap.size ≤ k)) := HO7.out.row.frame (fun k _ hk => HB9.out.block k hk)
          clear hr9 hb9)
       | (refine step_row elemOp rfl rfl (S := fun k => w1.heap.size ≤ k) (v := .slice a5 P1.length c5) (n := P1.length) (xs := P1.flatMap opcells) rfl HOW.out (y := v9) (m := C.length) (news := C.flatMap opcells) rfl HR9.out.reads (opcells_one C) HMX.out HBT.out ?_; intro v10 w10 hr10 hc10
          have HB10 : Hid (Below w1.heap.size w1 w10) := (HB7.out.trans (HB9.out.mono HB7.out.size)).trans (hc10.toBelow (B := w1.heap.size) (by have := HB9.out.size; omega) (fun k hk h => by omega))
          have HR10 := Lib.hid hr10
          clear hr10 hc10))
     have hg := HCG.out w9 v9 _ HR9.out
     have HO10 := Lib.hid (HO7.out.snoc (w1 := w9) (Q := C) HR10.out (fun k hk => hk) (by have := HB9.out.size; omega) rfl rfl hg.each hg.good)
     obtain ⟨oa10, oc10, rfl⟩ := slice_form HR10.out
     obtain ⟨P2, hP2⟩ : ∃ P2, P2 = P1 ++ C := ⟨_, rfl⟩
     have hpl : P1.length + C.length = P2.length := by rw [hP2, List.length_append]
     have hpl2 : P2.length ≤ 2000 := by have := HP5.out; omega
     have HRE2 : Hid (compRL D n b = P2.map RO.o) := by rw [Hid, hP2, List.map_append, HRE.out, HCC.out]
     have HBY3 : Hid (bytsO P2 ≤ 200000) := by rw [Hid, hP2, bytsO_append, HCB.out]; exact HBY2.out
     rw [← hP2] at HO10
     rw [hpl] at HO10 ⊢
     have hs10 := HB10.out.size
     have HB10d : Hid (Below w1.heap.size w1 w10) := HB10.out
     have hst := HST.out w10 oa10 oc10 P2 w1.heap.size w1 HB2.out HB10d.out HO10.out (by omega) (by have := HBY3.out; omega)
     rw [← HRE2.out] at hst
     obtain ⟨rq, hrq⟩ : ∃ r, r = stepsG doR D (compRL D n b) := ⟨_, rfl⟩
     rw [← hrq] at hst
     have HST2 := Lib.hid hst
     have HRQ := Lib.hid hrq
     have HXD := Lib.hid ((HB10d.out.block _ (lt_of_heap HX2.out)).trans HX2.out)
     have HZD := Lib.hid ((HB10d.out.block _ (lt_of_heap HZ2.out)).trans HZ2.out)
     clear hst hrq hg HCG HCLO HOLD HR8 HR9 HR10 HOW hP2 HKS HB8 HMX HBT hpl HO7 HO10 HRE HRE2 HBY2 HBY3 HCB HCC HST HB9 HOL1 HNO hcll HP5 HB10 HB7 HB57 HBW7 HB00 HB01 HB81 HB91 hwr
     obtain ⟨⟨r1, r2, r3, r4⟩, r5⟩ := rq
     unfold DoP rdisk at HST2
     obtain ⟨x0, x1, x2, x3, x4, x5, x6, x7⟩ := cells8w HXD.out
     go_upto_region 16 with fail
     go_wp2_with fail
     refine HST2.out.mono ?_
     rintro e w11 ⟨a11, c11, R11, rfl, hf11, hr11, hb11⟩
     have HF11 := Lib.hid hf11
     have hs11 := hb11.size
     have HB11 : Hid (Below w1.heap.size w1 w11) := HB10d.out.trans (hb11.mono hs10)
     have HX11 := Lib.hid ((hb11.block _ (lt_of_heap HXD.out)).trans HXD.out)
     have HZ11 := Lib.hid ((hb11.block _ (lt_of_heap HZD.out)).trans HZD.out)
     have hal : Below w11.heap.size w11 (w11.alloc (.cells #[.int .i64 r1, .slice a11 R11.length c11, .int .i64 r3, .bool r4] 32)) := (Below.refl _ _).alloc (Nat.le_refl _) _
     have HX12 := Lib.hid ((hal.block _ (lt_of_heap HX11.out)).trans HX11.out)
     have HZ12 := Lib.hid ((hal.block _ (lt_of_heap HZ11.out)).trans HZ11.out)
     have HY12 : Hid ((w11.alloc (.cells #[.int .i64 r1, .slice a11 R11.length c11, .int .i64 r3, .bool r4] 32)).heap[w11.heap.size]? = some (.cells #[.int .i64 r1, .slice a11 R11.length c11, .int .i64 r3, .bool r4] 32 (0, 0))) := heap_alloc_new _ _
     have HR12 := Lib.hid (hr11.below hal)
     have HBW12 := Lib.hid (HB2.out.trans ((HB11.out.trans (hal.mono (by omega))).mono HB2.out.size))
     have hzl : w.heap.size + 1 < w1.heap.size := lt_of_heap HZ2.out
     have HNOZ : Hid (∀ k, (T k ∨ w10.heap.size ≤ k) → k ≠ w.heap.size ∧ k ≠ w.heap.size + 1 ∧ (T k ∨ w.heap.size ≤ k)) := fun k hk => by
       rcases hk with h | h
       · have := HTT.out k h; exact ⟨by omega, by omega, .inl h⟩
       · exact ⟨by omega, by omega, .inr (by omega)⟩
     have HGO : Hid (rr = if r5 = 0 then (⟨n + 1, (b.length : Int), 0, mst, ⟨r1, R11.map RF.f, r3, r4⟩⟩, 0) else (⟨n, size, wt, most, ⟨r1, R11.map RF.f, r3, r4⟩⟩, r5)) := by
       rw [Hid, HRX.out]
       unfold compR
       rw [if_neg (by decide)]
       dsimp only
       rw [← HRQ.out, HF11.out]
     clear hf11 hr11 hb11 HST2 x0 x1 x2 x3 x4 x5 x6 x7 HXD HZD HX11 HZ11 hal HB10d HB11 HRQ HRX HX2 HZ2 HF2 HF11 HTT
     go_upto_region 17 with fail
     generalize (w11.alloc (.cells #[.int .i64 r1, .slice a11 R11.length c11, .int .i64 r3, .bool r4] 32)) = w12 at *
     obtain ⟨d0, d1, d2, d3⟩ := cells4 HY12.out
     obtain ⟨x0, x1, x2, x3, x4, x5, x6, x7⟩ := cells8w HX12.out
     have p0 := freeAt HX12.out 0
     have p1 := freeAt HX12.out 1
     have p2 := freeAt HX12.out 2
     have p3 := freeAt HX12.out 3
     obtain ⟨z0, z1, z2, z3, z4, z5, z6, z7⟩ := cells8w HZ12.out
     have q0 := freeAt HZ12.out 0
     have q1 := freeAt HZ12.out 1
     have q2 := freeAt HZ12.out 2
     have q3 := freeAt HZ12.out 3
     have q4 := freeAt HZ12.out 4
     have q5 := freeAt HZ12.out 5
     have q6 := freeAt HZ12.out 6
     have q7 := freeAt HZ12.out 7
     by_cases hr5 : r5 = 0
     · subst hr5
       have HFIN := Lib.hid HGO.out
       rw [if_pos rfl] at HFIN
       clear HGO
       go_wp2
       exact rlog_end Tryz.results47 (b2 := w.heap.size + 1) (room := r1) (plan := r3) (down := r4) 0 HZ12.out (by omega) HBW12.out HR12.out (fun k hk => (HNOZ.out k hk).2.2) (fun hk => (HNOZ.out _ hk).2.1 rfl) HFIN.out rfl rfl
     · have HFIN := Lib.hid HGO.out
       rw [if_neg hr5] at HFIN
       have hr6 : (r5 != 0) = true := by simpa using hr5
       clear HGO hr5
       have HX13 : Hid (((((w12.setCell ⟨w.heap.size, 0, none⟩ (.int .i64 r1)).setCell ⟨w.heap.size, 1, none⟩ (.slice a11 R11.length c11)).setCell ⟨w.heap.size, 2, none⟩ (.int .i64 r3)).setCell ⟨w.heap.size, 3, none⟩ (.bool r4)).heap[w.heap.size]? = some (.cells #[.int .i64 r1, .slice a11 R11.length c11, .int .i64 r3, .bool r4, .int .i64 most, .int .i64 n, .int .i64 size, .int .i64 wt] 34 (0, 0))) := heap_store (heap_store (heap_store (heap_store HX12.out 0 _) 1 _) 2 _) 3 _
       have HKK : Hid (∀ k, k ≠ w.heap.size → ((((w12.setCell ⟨w.heap.size, 0, none⟩ (.int .i64 r1)).setCell ⟨w.heap.size, 1, none⟩ (.slice a11 R11.length c11)).setCell ⟨w.heap.size, 2, none⟩ (.int .i64 r3)).setCell ⟨w.heap.size, 3, none⟩ (.bool r4)).heap[k]? = w12.heap[k]?) := fun k hk => (Below.heap_setCell _ ⟨w.heap.size, 3, none⟩ _ _ hk).trans ((Below.heap_setCell _ ⟨w.heap.size, 2, none⟩ _ _ hk).trans ((Below.heap_setCell _ ⟨w.heap.size, 1, none⟩ _ _ hk).trans (Below.heap_setCell _ ⟨w.heap.size, 0, none⟩ _ _ hk)))
       have HB13 : Hid (Below w.heap.size w ((((w12.setCell ⟨w.heap.size, 0, none⟩ (.int .i64 r1)).setCell ⟨w.heap.size, 1, none⟩ (.slice a11 R11.length c11)).setCell ⟨w.heap.size, 2, none⟩ (.int .i64 r3)).setCell ⟨w.heap.size, 3, none⟩ (.bool r4))) := (((HBW12.out.setCell (p := ⟨w.heap.size, 0, none⟩) (Nat.le_refl _) _).setCell (p := ⟨w.heap.size, 1, none⟩) (Nat.le_refl _) _).setCell (p := ⟨w.heap.size, 2, none⟩) (Nat.le_refl _) _).setCell (p := ⟨w.heap.size, 3, none⟩) (Nat.le_refl _) _
       have HZ13 := Lib.hid ((HKK.out (w.heap.size + 1) (by omega)).trans HZ12.out)
       have HR13 := Lib.hid (HR12.out.frame (w' := (((w12.setCell ⟨w.heap.size, 0, none⟩ (.int .i64 r1)).setCell ⟨w.heap.size, 1, none⟩ (.slice a11 R11.length c11)).setCell ⟨w.heap.size, 2, none⟩ (.int .i64 r3)).setCell ⟨w.heap.size, 3, none⟩ (.bool r4)) (fun k hk _ => HKK.out k (HNOZ.out k hk).1))
       clear HKK
       go_upto_region 19 with fail
       generalize (((w12.setCell ⟨w.heap.size, 0, none⟩ (.int .i64 r1)).setCell ⟨w.heap.size, 1, none⟩ (.slice a11 R11.length c11)).setCell ⟨w.heap.size, 2, none⟩ (.int .i64 r3)).setCell ⟨w.heap.size, 3, none⟩ (.bool r4) = w13 at *
       clear d0 d1 d2 d3 x0 x1 x2 x3 x4 x5 x6 x7 p0 p1 p2 p3 q0 q1 q2 q3 q4 q5 q6 q7 z0 z1 z2 z3 z4 z5 z6 z7
       obtain ⟨x0, x1, x2, x3, x4, x5, x6, x7⟩ := cells8w HX13.out
       obtain ⟨z0, z1, z2, z3, z4, z5, z6, z7⟩ := cells8w HZ13.out
       have q0 := freeAt HZ13.out 0
       have q1 := freeAt HZ13.out 1
       have q2 := freeAt HZ13.out 2
       have q3 := freeAt HZ13.out 3
       have q4 := freeAt HZ13.out 4
       have q5 := freeAt HZ13.out 5
       have q6 := freeAt HZ13.out 6
       have q7 := freeAt HZ13.out 7
       go_wp2
       exact rlog_end Tryz.results47 (b2 := w.heap.size + 1) (room := r1) (plan := r3) (down := r4) r5 HZ13.out (by omega) HB13.out HR13.out (fun k hk => (HNOZ.out k hk).2.2) (fun hk => (HNOZ.out _ hk).2.1 rfl) HFIN.out rfl rfl
end Go.Proofs.YtgdmdbdljmlkkaaGreatDoor
