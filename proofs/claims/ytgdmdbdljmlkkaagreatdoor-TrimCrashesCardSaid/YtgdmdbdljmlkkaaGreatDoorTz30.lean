/- TrimB, TrimC, TrimD -/
import Derived.Test.YtgdmdbdljmlkkaaGreatDoorTz28
import Derived.Test.YtgdmdbdljmlkkaaGreatDoorTz29
set_option maxRecDepth 100000
set_option linter.unusedVariables false
set_option linter.unusedSimpArgs false
namespace Go.Proofs.YtgdmdbdljmlkkaaGreatDoor
open Go.RowKit
theorem olderL_cons (a : Int) (L : List Int) (n : Int) : olderL (a :: L) n = if a < n then nameI a :: olderL L n else olderL L n := by
 unfold olderL
 rw [List.filter_cons]
 by_cases h : a < n
 · rw [decide_eq_true h, if_pos rfl, if_pos h, List.map_cons]
 · rw [decide_eq_false h, if_neg (by decide), if_neg h]
theorem olderL_none {L : List Int} {n : Int} (h : ∀ a ∈ L, ¬ a < n) : olderL L n = [] := by
 unfold olderL
 rw [List.filter_eq_nil_iff.2 (fun a ha => by simpa using h a ha)]; rfl
section
variable {w : World} {pw : Nat} {x : Value} {ba : Option Addr} {b : List UInt8} {bc : Nat} {next : Int} {T : Nat → Prop} {D : DS}
variable (h : WorkAt w pw x ba b bc next T) (hd : DRep w x D T)
include h hd
set_option maxHeartbeats 1000000 in
theorem wrename_any (hp : 0 ≤ D.plan ∧ D.plan ≤ 9223372036854775807) : Calls Tryz.prog 108 #[.pointer (some ⟨pw, 0, none⟩)] w (DPost w x T (renameD D newNm (nameI next))) := by
 have hx := cellAt h.blk 0 rfl
 have HX := Lib.hid h.blk
 have HOFF := Lib.hid h.off
 have HNM : Hid (∀ w', Hid (Below w.heap.size w w') → Calls Tryz.prog 148 #[.pointer (some ⟨pw, 0, none⟩)] w' fun e w'' => e = .returned (.string (nameI next)) ∧ Below w'.heap.size w' w'') := fun w' hb =>
   wname_any (x := x) (T := T) ⟨(hb.out.block _ (lt_of_heap h.blk)).trans h.blk, h.off, h.rd.later hb.out, fun ad ha => ⟨(h.ro ad ha).1, Nat.lt_of_lt_of_le (h.ro ad ha).2 hb.out.size⟩, fun w'' hc => h.tab w'' ((Chg.ofBelow hb.out).trans hc (fun n hn => .inl hn)), fun k hk => Nat.lt_of_lt_of_le (h.tt k hk) hb.out.size⟩
 have HRE : Hid (∀ w', Hid (Below w.heap.size w w') → Calls Tryz.prog 81 #[x, .string newNm, .string (nameI next)] w' (DPost w' x T (renameD D newNm (nameI next)))) := fun w' hb => rename_any x newNm (nameI next) D T w' (hd.frame (fun k _ hk => hb.out.block k hk)) hp
 obtain ⟨bx, bm, col, pv, rfl, -⟩ := hd
 have HK : Hid (∀ w', Hid (Below w.heap.size w w') → w'.cell? ⟨pw, 0, none⟩ = some (.pointer (some ⟨bx, 0, none⟩))) := fun w' hb => cellAt ((hb.out.block _ (lt_of_heap HX.out)).trans HX.out) 0 rfl
 unfold newNm at *
 generalize renameD D ⟨#[110, 101, 119]⟩ (nameI next) = r at *
 generalize nameI next = nm at *
 have HB00 : Hid (Below w.heap.size w w.drew) := (Below.refl _ _).drew
 clear h hp hx
 go_enter Tryz.func108, Tryz.ntmps108
 go_upto_region 1 with fail
 go_region_held3 (fun w' => w'.cell? ⟨pw, 0, none⟩ = some (.pointer (some ⟨bx, 0, none⟩))) (first | exact HK.out _ (by assumption) | exact HKL.out)
   (first
   | (go_at_call 148; refine (HNM.out _ (by assumption)).mono ?_; rintro e wb ⟨rfl, hba⟩
      have HBa := belh_step (w0 := w) (by assumption) hba
      clear hba)
   | (go_at_call 81; refine (HRE.out _ (by assumption)).mono ?_; rintro e wc ⟨rfl, h1, h2⟩
      have H1 := Lib.hid h1
      have H2 := Lib.hid h2
      have hnT : ¬ T pw := HOFF.out
      have HKL : Hid (wc.cell? ⟨pw, 0, none⟩ = some (.pointer (some ⟨bx, 0, none⟩))) := cellAt ((h2.block _ (lt_of_heap ((HBa.out.block _ (lt_of_heap HX.out)).trans HX.out)) hnT).trans ((HBa.out.block _ (lt_of_heap HX.out)).trans HX.out)) 0 rfl
      clear h1 h2))
 all_goals
   have hsz := HBa.out.size
   go_wp2
   go_ret
   exact ⟨rfl, H1.out.mono (fun k hk => by rcases hk with hk | hk; exact .inl hk; exact .inr (by omega)), (Chg.ofBelow HBa.out).trans H2.out (fun n hn => .inl hn)⟩
set_option maxHeartbeats 2000000 in
theorem wremove_any {s n : Nat} (hb : Bnd D s n) (hn : n ≤ 900) : Calls Tryz.prog 109 #[.pointer (some ⟨pw, 0, none⟩)] w (DPost w x T (stepsG doP D ((olderL (segsD D) next).map rmO))) := by
 have hx := cellAt h.blk 0 rfl
 have HW := Lib.hid h
 have HL := Lib.hid (list_any x D T w hd (by have := hb.len; omega) (fun f hf => by have := hb.nm f hf; unfold maxLen; omega))
 have HD := Lib.hid hd
 have HBN := Lib.hid hb
 obtain ⟨bx, bm, col, pv, rfl, -⟩ := hd
 obtain ⟨RR, hRR⟩ : ∃ r, r = stepsG doP D ((olderL (segsD D) next).map rmO) := ⟨_, rfl⟩
 have HRR := Lib.hid hRR
 rw [← hRR]
 clear h hb hRR
 go_enter Tryz.func109, Tryz.ntmps109
 go_wp2_with fail
 refine HL.out.mono ?_
 rintro e w2 ⟨v2, ss, rfl, hrow, hb2, hpw, hmem⟩
 have hsl := mkS_len hpw hmem
 have h2 : (mkS ss).length = ss.length := by unfold mkS; rw [List.length_map]
 have hsg : refL (mkS ss) = segsD D := by unfold segsD; exact refL_same (fun y => mkS_mem hmem y)
 have hsl2 := seglist2_any v2 (mkS ss) w2 (by rw [mkS_V, h2]; exact hrow.reads) (by have := HBN.out.len; simp only [List.length_map] at hsl; omega)
 rw [hsg] at hsl2
 have HSL := Lib.hid hsl2
 have HB2 := Lib.hid hb2
 have hx2 := cellAt ((hb2.block _ (lt_of_heap HW.out.blk)).trans HW.out.blk) 0 rfl
 have hlen : (segsD D).length ≤ 900 := by
   have h3 := refL_length (D.files.map DF.name)
   rw [List.length_map] at h3
   have := HBN.out.len
   unfold segsD; omega
 have HINC : Hid (Inc (segsD D)) := inc_segs D
 clear hrow hpw hmem hsl h2 hsg hsl2 hx HL hb2
 generalize segsD D = L at *
 go_wp2_with fail
 refine HSL.out.mono ?_
 rintro e w3 ⟨v3, rfl, hr3, hnew, hb3⟩
 obtain ⟨la, lc, rfl⟩ : ∃ a c, v3 = .slice a L.length c := by obtain ⟨-, a, c, hv, -⟩ := hr3; exact ⟨a, c, hv⟩
 have HR3 := Lib.hid hr3
 have hs2 := HB2.out.size
 have HNW : Hid (∀ ad, la = some ad → w.heap.size ≤ ad.block ∧ ¬ T ad.block) := fun ad ha => by
   subst ha
   have h1 := hnew ad L.length lc rfl
   exact ⟨by omega, fun ht => by have := HW.out.tt _ ht; omega⟩
 have HB3 := Lib.hid (HB2.out.trans (hb3.mono HB2.out.size))
 have HRR0 : Hid (RR = stepsG doP D ((olderL (L.drop 0) next).map rmO)) := HRR.out
 clear hr3 hnew hb3 HSL hx2 HB2 hs2 HRR
 go_wp2_with fail
 go_loopw [15] (fun i w' => ∃ (k : Nat) (D1 : DS) (S1 : Nat → Prop), k ≤ L.length ∧ i = .int .i64 k ∧ Hid (RR = stepsG doP D1 ((olderL (L.drop k) next).map rmO)) ∧ Hid (DRep w' (.pointer (some ⟨bx, 0, none⟩)) D1 S1) ∧ Hid (∀ k, S1 k → T k ∨ w3.heap.size ≤ k) ∧ Hid (Chg T w3 w') ∧ Hid (Bnd D1 s n)) (fun i _ => L.length - (RowKit.intOf i).toNat)
 case atStart => exact ⟨0, D, T, by omega, rfl, HRR0, HD.out.frame (fun k _ hk => HB3.out.block k hk), fun k hk => .inl hk, Chg.refl _ _, HBN⟩
 case round =>
   obtain ⟨k, D1, S1, hk, rfl, HR, HD1, HS1, HC1, HB1⟩ := hrel
   have HCW := Lib.hid ((Chg.ofBelow HB3.out : Chg T w w3).trans HC1.out (fun n hn => .inl hn))
   have hblk := HCW.out.heap HW.out.blk HW.out.off
   have hx0 := cellAt hblk 0 rfl
   have hx2 := cellAt hblk 2 rfl
   have hlt3 := HB3.out.size
   have hlt4 := HC1.out.size
   by_cases hlt : k < L.length
   · have hrk : Reads wr (.slice la L.length lc) L.length 1 (ints L) := Reads.chg HR3.out HC1.out (fun ad had _ => (HNW.out ad had).2)
     obtain ⟨b1, o, c', hv, hle, hb, hc⟩ := hrk.at (by omega)
     obtain ⟨rfl, rfl⟩ : la = some ⟨b1, o, none⟩ ∧ lc = c' := by cases hv; exact ⟨rfl, rfl⟩
     have hck : wr.cell? ⟨b1, o + k, none⟩ = some (.int .i64 L[k]) := hc k _ (by simp [ints, hlt])
     have HDR : Hid (L.drop k = L[k] :: L.drop (k + 1)) := List.drop_eq_getElem_cons hlt
     have HGT : Hid (¬ L[k] < next → ∀ a ∈ L.drop k, ¬ a < next) := fun hn a ha => by
       obtain ⟨j, hj, rfl⟩ := List.mem_iff_getElem.1 ha
       rw [List.length_drop] at hj
       rw [List.getElem_drop]
       rcases Nat.eq_zero_or_pos j with h0 | h0
       · subst h0; simpa using hn
       · have := List.pairwise_iff_getElem.1 HINC.out k (k + j) (by omega) (by omega) (by omega)
         omega
     generalize L[k] = nn at *
     clear hv hc hrk hblk
     by_cases hnn : nn < next
     · have HRM := Lib.hid (fun (w' : World) (hb' : Below wr.heap.size wr w') => remove_any (.pointer (some ⟨bx, 0, none⟩)) (nameI nn) D1 S1 w' (HD1.out.frame (fun k _ hk => hb'.block k hk)) HB1.out.plan)
       have HRS : Hid (RR = seqG (removeD D1 (nameI nn)) fun D => stepsG doP D ((olderL (L.drop (k + 1)) next).map rmO)) := by
         rw [Hid, HR.out, HDR.out, olderL_cons, if_pos hnn]; rfl
       have HBR := Lib.hid (bnd_remove HB1.out (nameI nn))
       have HTA := Lib.hid (HW.out.tab wr HCW.out)
       have hge : ¬ next ≤ nn := by omega
       generalize removeD D1 (nameI nn) = r at *
       clear hnn HGT HDR HR
       go_wp2_with fail
       refine (segName_any nn wr HTA.out).mono ?_
       rintro e w4 ⟨rfl, hb4⟩
       have HB4 := Lib.hid hb4
       have hblk4 := ((hb4.block _ (lt_of_heap (HCW.out.heap HW.out.blk HW.out.off))).trans (HCW.out.heap HW.out.blk HW.out.off))
       have hx0' := cellAt hblk4 0 rfl
       have HRM4 := Lib.hid (HRM.out w4 hb4)
       generalize nameI nn = nm at *
       generalize decide (1 ≤ nn ∧ nn ≤ 99999999) = okn at *
       have hs4 := hb4.size
       clear hb4 hblk4 hx0 hx2 hck HRM hb
       go_wp2_with fail
       refine HRM4.out.mono ?_
       rintro e w5 ⟨rfl, hd5, hc5⟩
       have HD5 := Lib.hid hd5.tight
       have HC5 : Hid (Chg T w3 w5) := HC1.out.trans ((Chg.ofBelow HB4.out : Chg S1 wr w4).trans hc5 (fun n hn => .inl hn)) (fun j hj => by rcases HS1.out j hj with h | h; exact .inl h; exact .inr h)
       have HS5 : Hid (∀ j, ((S1 j ∨ w4.heap.size ≤ j) ∧ j < w5.heap.size) → T j ∨ w3.heap.size ≤ j) := fun j hj => by
         rcases hj.1 with h | h
         · exact HS1.out j h
         · exact .inr (by omega)
       clear hd5 hc5 HRM4 hx0' HB4
       obtain ⟨D5, cd⟩ := r
       simp only at HD5 HBR
       by_cases hcd : cd = 0
       · subst hcd
         have HR5 : Hid (RR = stepsG doP D5 ((olderL (L.drop (k + 1)) next).map rmO)) := by rw [Hid, HRS.out]; unfold seqG; rw [if_neg (fun h => h rfl)]
         go_wp2_with fail
         go_roundw
         case rel => exact ⟨k + 1, D5, _, by omega, by go_num, HR5, HD5, HS5, HC5, HBR⟩
         case measure => simp [RowKit.intOf]; omega
       · have hcn : (cd != 0) = true := by simpa using hcd
         have HR5 : Hid (RR = (D5, cd)) := by rw [Hid, HRS.out]; unfold seqG; rw [if_pos hcd]
         have hs5 := HC5.out.size
         clear hcd
         go_wp2_with fail
         go_ret
         rw [HR5.out]
         exact ⟨rfl, HD5.out.mono (fun j hj => by rcases HS5.out j hj with h | h; exact .inl h; exact .inr (by omega)), (Chg.ofBelow HB3.out : Chg T w w3).trans HC5.out (fun n hn => .inl hn)⟩
     · have hge : next ≤ nn := by omega
       have HRS : Hid (RR = (D1, 0)) := by rw [Hid, HR.out, olderL_none (HGT.out hnn)]; rfl
       clear hnn HGT HDR HR
       go_wp2_with fail
       go_ret
       rw [HRS.out]
       exact ⟨rfl, HD1.out.mono (fun k hk => by rcases HS1.out k hk with h | h; exact .inl h; exact .inr (by omega)), HCW.out⟩
   · obtain rfl : k = L.length := by omega
     have HRS : Hid (RR = (D1, 0)) := by rw [Hid, HR.out, List.drop_length]; rfl
     clear HR hlt
     go_wp2
     go_ret
     rw [HRS.out]
     exact ⟨rfl, HD1.out.mono (fun k hk => by rcases HS1.out k hk with h | h; exact .inl h; exact .inr (by omega)), HCW.out⟩
end
theorem framesB_cons (r : List UInt8) (l : List (List UInt8)) : framesB (r :: l) = frameB r ++ framesB l := by simp [framesB]
set_option maxHeartbeats 1000000 in
theorem fjoin_any (a : Option Addr) (c : Nat) (P : List SL) (w : World) (h : SLs w (.slice a P.length c) P) (hP : P.length ≤ 100) (he : ∀ x ∈ P, x.l.length ≤ 2000) :
   Calls Tryz.prog 102 #[.slice a P.length c] w (BytesP w (some (framesB (P.map SL.l)))) := by
 have H := Lib.hid h
 have HE := Lib.hid he
 clear h he
 unfold BytesP
 go_enter Tryz.func102, Tryz.ntmps102
 go_wp2_with fail
 go_loopw [4, 11] (fun out i w' => ∃ (k : Nat) (ps : List (Option Addr × List UInt8 × Nat)) (V : Nat → Prop) (oa : Option Addr) (oc : Nat), k ≤ P.length ∧ i = .int .i64 k ∧ out = .slice oa ps.length oc ∧ ps.length ≤ k ∧ Hid (Row w' 72 1 (.slice oa ps.length oc) ps.length (ps.map partV) V) ∧ Hid (∀ j, V j → w.heap.size ≤ j ∧ j < w'.heap.size) ∧
   Hid (∀ p ∈ ps, Row w' 5 1 (partV p) p.2.1.length (byts p.2.1) (fun j => w.heap.size ≤ j ∧ ¬ V j)) ∧ Hid (joined ps = framesB ((P.take k).map SL.l)) ∧ Hid (lens ps ≤ 2008 * k) ∧ Hid (Below w.heap.size w w')) (fun _ i _ => P.length - (RowKit.intOf i).toNat)
 case atStart => exact ⟨0, [], fun _ => False, none, 0, by omega, rfl, rfl, by simp, Row.nil _ _ _ _, fun _ h => h.elim, by simp [Hid], by simp [Hid, joined, framesB], by simp [Hid, lens], Below.refl _ _⟩
 case round =>
   obtain ⟨k, ps, V, oa, oc, hk, rfl, rfl, hpl, HR, HV, HPS, HJ, HLN, HB⟩ := hrel
   by_cases hlt : k < P.length
   · obtain ⟨b, o, ea, ec, rfl, hle, hbl, hev, hc, hr⟩ := (H.out.later HB.out).head hlt
     have hxl := HE.out P[k] (List.getElem_mem hlt)
     have HMK := Lib.hid (make_any ea ec P[k].l wr hr (by omega))
     rw [if_neg (by omega)] at HMK
     have HJ2 : Hid (framesB ((P.take (k + 1)).map SL.l) = framesB ((P.take k).map SL.l) ++ frameB P[k].l) := by
       rw [Hid, List.take_succ_eq_append_getElem hlt, List.map_append, framesB_append]; simp [framesB]
     have hfl : (frameB P[k].l).length = P[k].l.length + 8 := frameB_length _
     have HFL : Hid ((frameB P[k].l).length ≤ 2008) := by rw [Hid]; omega
     generalize P[k].l = pl at *
     clear hr hev hfl hxl
     unfold BytesP at HMK
     go_wp2_with fail
     refine HMK.out.mono ?_
     rintro e w2 ⟨⟨fa, fc, rfl, hrow2⟩, hb2⟩
     have HB2 := Lib.hid (HB.out.trans (hb2.mono HB.out.size))
     have HR2 := Lib.hid (HR.out.frame (w' := w2) (fun j hj hl => hb2.block j hl))
     have HPS2 : Hid (∀ p ∈ ps, Row w2 5 1 (partV p) p.2.1.length (byts p.2.1) (fun j => w.heap.size ≤ j ∧ ¬ V j)) := fun p hp => (HPS.out p hp).frame (fun j hj hl => hb2.block j hl)
     have HN2 := Lib.hid hrow2
     have hs2 := hb2.size
     have hs1 := HB.out.size
     have HV2 : Hid (∀ j, V j → w.heap.size ≤ j ∧ j < wr.heap.size) := HV.out
     clear hb2 hrow2 HMK HR HPS HV hc
     generalize hfb : frameB pl = fb at *
     go_wp2_with (refine wpList_row elemRec rfl rfl (S := V) (n := ps.length) (xs := ps.map partV) rfl (HR2.out.frame (fun j _ hj => Below.heap_alloc _ _ _ hj)) (y := .slice (some ⟨w2.heap.size, 0, none⟩) 1 1) (m := 1) (news := [.slice fa fb.length fc]) rfl (reads_one w2 _ _) (one_of rfl) (by unfold maxLen; omega) (by omega) ?_; intro v5 w5 hr5 hc5)
     obtain ⟨oa5, oc5, rfl⟩ := slice_form hr5
     have hal : Below w2.heap.size w2 (w2.alloc (.cells #[.slice fa fb.length fc] 72)) := (Below.refl _ _).alloc (Nat.le_refl _) _
     have hs5 := hc5.size
     rw [World.size_alloc] at hs5
     have HLP : Hid ((ps ++ [((fa, fb, fc) : Option Addr × List UInt8 × Nat)]).length = ps.length + 1) := by simp [Hid]
     have HR5 : Hid (Row w5 72 1 (.slice oa5 (ps ++ [((fa, fb, fc) : Option Addr × List UInt8 × Nat)]).length oc5) (ps ++ [((fa, fb, fc) : Option Addr × List UInt8 × Nat)]).length ((ps ++ [((fa, fb, fc) : Option Addr × List UInt8 × Nat)]).map partV) (fun j => (V j ∨ w2.heap.size < j) ∧ j < w5.heap.size)) := by
       rw [Hid, HLP.out, List.map_append]
       refine hr5.tight.mono (fun j hj => ⟨?_, hj.2⟩)
       rcases hj.1 with h | h
       · exact .inl h
       · rw [World.size_alloc] at h; exact .inr (by omega)
     have HV5 : Hid (∀ j, ((V j ∨ w2.heap.size < j) ∧ j < w5.heap.size) → w.heap.size ≤ j ∧ j < w5.heap.size) := fun j hj => ⟨by rcases hj.1 with h | h; exact (HV2.out j h).1; omega, hj.2⟩
     have HPS5 : Hid (∀ p ∈ ps ++ [((fa, fb, fc) : Option Addr × List UInt8 × Nat)], Row w5 5 1 (partV p) p.2.1.length (byts p.2.1) (fun j => w.heap.size ≤ j ∧ ¬ ((V j ∨ w2.heap.size < j) ∧ j < w5.heap.size))) := fun p hp => by
       have key : Row w2 5 1 (partV p) p.2.1.length (byts p.2.1) (fun j => w.heap.size ≤ j ∧ ¬ V j) := by
         rcases List.mem_append.1 hp with hp | hp
         · exact HPS2.out p hp
         · rw [List.mem_singleton] at hp
           subst hp
           exact HN2.out.mono (fun j hj => ⟨by omega, fun e => by have := (HV2.out j e).2; omega⟩)
       refine (key.tight.frame (w' := w5) (fun j hj hl => (hc5.block j (by rw [World.size_alloc]; omega) hj.1.2).trans (Below.heap_alloc _ _ _ hl))).mono (fun j hj => ⟨hj.1.1, fun e => ?_⟩)
       rcases e.1 with h | h
       · exact hj.1.2 h
       · have := hj.2; omega
     have HJ5 : Hid (joined (ps ++ [((fa, fb, fc) : Option Addr × List UInt8 × Nat)]) = framesB ((P.take (k + 1)).map SL.l)) := by
       rw [Hid, HJ2.out, ← HJ.out]; simp [joined]
     have HLN5 : Hid (lens (ps ++ [((fa, fb, fc) : Option Addr × List UInt8 × Nat)]) ≤ 2008 * (k + 1)) := by
       have h1 := HLN.out
       have h2 := HFL.out
       have h3 : lens (ps ++ [((fa, fb, fc) : Option Addr × List UInt8 × Nat)]) = lens ps + fb.length := by simp [lens]
       rw [Hid, h3]; omega
     have HB5 : Hid (Below w.heap.size w w5) := (HB2.out.trans (hal.mono HB2.out.size)).trans (hc5.toBelow (B := w.heap.size) (by rw [World.size_alloc]; omega) (fun j hj e => by have := (HV2.out j e).1; omega))
     rw [← HLP.out]
     clear hr5 hc5 hal HR2 HPS2 HN2 HV2 HB2 HJ HJ2 HLN HFL hs5
     generalize hps5 : ps ++ [((fa, fb, fc) : Option Addr × List UInt8 × Nat)] = ps5 at *
     have hpl5 : ps5.length ≤ k + 1 := by have := HLP.out; omega
     go_wp2_with fail
     go_roundw
     case rel => exact ⟨k + 1, ps5, _, oa5, oc5, by omega, by go_num, rfl, hpl5, HR5, HV5, HPS5, HJ5, HLN5, HB5⟩
     case measure => simp [RowKit.intOf]; omega
   · obtain rfl : k = P.length := by omega
     rw [List.take_length] at HJ
     have hcc := concat_any oa oc ps wr HR.out.reads (by omega) (fun p hp => (HPS.out p hp).reads) (by have := HLN.out; omega)
     have HCC := Lib.hid hcc
     rw [HJ.out] at HCC
     clear hcc HR HPS HV HLN
     go_wp2_with fail
     refine HCC.out.mono ?_
     rintro e w2 ⟨fa, fc, rfl, hrow2, hb2⟩
     have HR2 := Lib.hid hrow2
     have HB2 := Lib.hid (HB.out.trans (hb2.mono HB.out.size))
     have hs := HB.out.size
     clear hrow2 hb2
     go_wp2
     go_ret2
     exact ⟨⟨fa, fc, rfl, HR2.out.mono (fun j hj => by omega)⟩, HB2.out⟩
def fullB (x : SL) : Bool := decide (x.l ≠ [])
theorem comp1_any (a : Option Addr) (c : Nat) (l : List UInt8) (w : World) :
   Calls Tryz.prog 101 #[.slice a l.length c] w fun e w' => e = .returned (.bool (decide (l = []))) ∧ w = w' := by
 cases l with
 | nil =>
   go_enter Tryz.func101, Tryz.ntmps101
   go_wp2
   go_ret
   exact ⟨rfl, rfl⟩
 | cons x l =>
   have hb0 : (((x :: l).length : Int) == 0) = false := by simp; omega
   have hd : decide ((x :: l) = []) = false := decide_eq_false (by simp)
   rw [hd]
   generalize (x :: l).length = n at *
   go_enter Tryz.func101, Tryz.ntmps101
   go_wp2
   go_ret
   exact ⟨rfl, rfl⟩
theorem lindex_any (a : Option Addr) (c : Nat) (P : List SL) (w : World) (h : SLs w (.slice a P.length c) P) (hl : P.length ≤ 100000) :
   Calls Tryz.prog 146 #[.slice a P.length c, .func (.func 101) #[] #[]] w fun e w' => (∃ k : Int, e = .returned (.int .i64 k) ∧ (decide (0 ≤ k) = !P.all fullB)) ∧ w = w' := by
 have H := Lib.hid h
 clear h
 go_enter Tryz.func146, Tryz.ntmps146
 go_wp2_with fail
 go_loop [8] (fun i => ∃ m : Nat, m ≤ P.length ∧ i = .int .i64 m ∧ Hid (∀ j (hj : j < P.length), j < m → fullB P[j] = true)) (fun i => P.length - (RowKit.intOf i).toNat)
 case atStart => exact ⟨0, by omega, rfl, fun j _ h => by omega⟩
 case round =>
   obtain ⟨m, hm, rfl, HLOW⟩ := hrel
   by_cases hlt : m < P.length
   · obtain ⟨b, o, ea, ec, rfl, hle, hbl, hev, hc, hr⟩ := H.out.head hlt
     have HK := Lib.hid (comp1_any ea ec P[m].l w)
     have HFB : Hid (fullB P[m] = !decide (P[m].l = [])) := by unfold fullB; rw [Hid]; simp
     have HMEM : Hid (P[m] ∈ P) := List.getElem_mem hlt
     have HAT : Hid (fullB P[m] = true → ∀ j (hj : j < P.length), j < m + 1 → fullB P[j] = true) := fun hf j hj hjm => by
       rcases Nat.lt_or_ge j m with h3 | h3
       · exact HLOW.out j hj h3
       · have : j = m := by omega
         subst this; exact hf
     clear hr hev
     generalize P[m] = y at *
     go_wp2_with fail
     refine HK.out.mono ?_
     rintro e w1 ⟨rfl, rfl⟩
     by_cases hok : y.l = []
     · rw [decide_eq_true hok]
       have HNF : Hid (P.all fullB = false) := by
         rw [Hid, List.all_eq_false]
         exact ⟨y, HMEM.out, by rw [HFB.out, decide_eq_true hok]; decide⟩
       clear hc HK hok
       go_wp2
       go_ret
       exact ⟨⟨m, rfl, by rw [HNF.out]; simp⟩, rfl⟩
     · rw [decide_eq_false hok]
       have HYF : Hid (fullB y = true) := by rw [Hid, HFB.out, decide_eq_false hok]; rfl
       clear hc HK hok
       go_wp2
       go_round
       case rel => exact ⟨m + 1, by omega, by go_num, HAT.out HYF.out⟩
       case measure => simp [RowKit.intOf]; omega
   · obtain rfl : m = P.length := by omega
     have HNF : Hid (P.all fullB = true) := by
       rw [Hid, List.all_eq_true]
       intro x hx
       obtain ⟨j, hj, rfl⟩ := List.mem_iff_getElem.1 hx
       exact HLOW.out j hj hj
     go_wp2
     go_ret
     exact ⟨⟨-1, rfl, by rw [HNF.out]; rfl⟩, rfl⟩
theorem lcontains_any (a : Option Addr) (c : Nat) (P : List SL) (w : World) (h : SLs w (.slice a P.length c) P) (hl : P.length ≤ 100000) :
   Calls Tryz.prog 100 #[.slice a P.length c, .func (.func 101) #[] #[]] w fun e w' => e = .returned (.bool (!P.all fullB)) ∧ w = w' := by
 have HI := Lib.hid (lindex_any a c P w h hl)
 clear h
 go_enter Tryz.func100, Tryz.ntmps100
 go_wp2_with fail
 refine HI.out.mono ?_
 rintro e w1 ⟨⟨k, rfl, hk⟩, rfl⟩
 have HK := Lib.hid hk
 clear hk
 go_wp2
 go_ret
 exact ⟨congrArg (fun b => Ending.returned (.bool b)) HK.out, rfl⟩
theorem tmarked_any (a : Option Addr) (c : Nat) (P : List SL) (w : World) (h : SLs w (.slice a P.length c) P) (hl : P.length ≤ 100000) :
   Calls Tryz.prog 103 #[.slice a P.length c] w fun e w' => ∃ a' c', e = .returned (.slice a' (P.length + 1) c') ∧ SLs w' (.slice a' (P.length + 1) c') (⟨.slice none 0 0, []⟩ :: P) ∧ Below w.heap.size w w' := by
 have H := Lib.hid h
 have H1 : Hid (∀ u ∈ P.map SL.v, u.oneCell' = true) := fun u hu => by
   obtain ⟨x, hx, rfl⟩ := List.mem_map.1 hu
   obtain ⟨-, a, c, hv, -⟩ := h.each x hx
   rw [hv]; rfl
 have hal : Below w.heap.size w (w.alloc (.cells #[.slice none 0 0] 72)) := (Below.refl _ _).alloc (Nat.le_refl _) _
 have HAL := Lib.hid hal
 have HR1 : Hid (Row (w.alloc (.cells #[.slice none 0 0] 72)) 72 1 (.slice (some ⟨w.heap.size, 0, none⟩) 1 1) 1 [.slice none 0 0] (fun k => k = w.heap.size)) :=
   ⟨rfl, .inr ⟨w.heap.size, 0, 1, #[.slice none 0 0], rfl, rfl, heap_alloc_new w _, Nat.le_refl _, by unfold maxLen; omega, by simp, rfl⟩⟩
 have HRP : Hid (Reads (w.alloc (.cells #[.slice none 0 0] 72)) (.slice a P.length c) P.length 1 (P.map SL.v)) := h.rd.later hal
 clear h hal
 go_enter Tryz.func103, Tryz.ntmps103
 go_wp2_with (refine wpList_row elemRec rfl rfl (S := fun k => k = w.heap.size) (v := .slice (some ⟨w.heap.size, 0, none⟩) 1 1) (n := 1) (xs := [.slice none 0 0]) rfl HR1.out (y := .slice a P.length c) (m := P.length) (news := P.map SL.v) rfl HRP.out H1.out (by unfold maxLen; omega) (by omega) ?_; intro v5 w5 hr5 hc5)
 obtain ⟨a5, c5, rfl⟩ := slice_form hr5
 have HB5 : Hid (Below w.heap.size w w5) := HAL.out.trans (hc5.toBelow (B := w.heap.size) (by simp) (fun k hk e => by omega))
 have hln : 1 + P.length = P.length + 1 := by omega
 have HR5 := Lib.hid hr5.reads
 rw [hln] at HR5 ⊢
 clear hr5 hc5 hln
 go_ret
 refine ⟨a5, c5, rfl, ⟨HR5.out, fun x hx => ?_⟩, HB5.out⟩
 rcases List.mem_cons.1 hx with rfl | hx
 · exact Reads.nil _ _
 · exact (H.out.each x hx).later HB5.out
end Go.Proofs.YtgdmdbdljmlkkaaGreatDoor
