/- TrimJ, TrimL, TrimR, TrimCompacts -/
import Derived.Test.YtgdmdbdljmlkkaaGreatDoorTz39
import Derived.Test.YtgdmdbdljmlkkaaGreatDoorTz40
set_option maxRecDepth 100000
set_option linter.unusedVariables false
set_option linter.unusedSimpArgs false
namespace Go.Proofs.YtgdmdbdljmlkkaaGreatDoor
open Go.RowKit
theorem compP_ok {w w' : World} {x : Value} {S : Nat → Prop} {most : Int} {L : LS} {P : List (List UInt8)} {r : DS × Int} {e : Ending} (h : CompP w x S most L P true r e w') (h0 : r.2 = 0) :
   ∃ (bl : Nat) (SS : Nat → Prop), e = .returned (.tuple #[.pointer (some ⟨bl, 0, none⟩), .int .i64 0]) ∧ LAt w' bl x ⟨L.n + 1, ((framesB ([] :: P)).length : Int), 0, most, r.1⟩ SS ∧ DRep w' x r.1 (fun k => SS k ∧ k ≠ bl) ∧ (∀ k, SS k → (S k ∨ w.heap.size ≤ k) ∧ k < w'.heap.size) ∧ Chg S w w' := by
 obtain ⟨SS, h1, h2, h3, h4⟩ := h
 rcases h4 with ⟨h5, -⟩ | ⟨-, h5, -⟩ | ⟨-, -, bl, he, hb, hl, hn⟩
 · cases h5
 · exact absurd h0 h5
 · have h1 : DRep w' x r.1 SS := h1
   have hd : DRep w' x r.1 (fun k => (SS k ∨ k = bl) ∧ k ≠ bl) := h1.mono (fun k hk => ⟨.inl hk, fun e => hn (e ▸ hk)⟩)
   refine ⟨bl, fun k => SS k ∨ k = bl, he, ⟨hb, hd, .inr rfl⟩, hd, fun k hk => ?_, h3⟩
   rcases hk with hk | rfl
   · exact h2 k hk
   · exact ⟨.inr hl, lt_of_heap hb⟩
theorem compP_bad {w w' : World} {x : Value} {S : Nat → Prop} {most : Int} {L : LS} {P : List (List UInt8)} {ok : Bool} {r : DS × Int} {e : Ending} (h : CompP w x S most L P ok r e w') (h0 : ok = false ∨ r.2 ≠ 0) :
   ∃ (SS : Nat → Prop), e = .returned (.tuple #[.pointer none, .int .i64 (if ok then r.2 else 2)]) ∧ DRep w' x (if ok then r.1 else L.D) SS ∧ (∀ k, SS k → (S k ∨ w.heap.size ≤ k) ∧ k < w'.heap.size) ∧ Chg S w w' := by
 obtain ⟨SS, h1, h2, h3, h4⟩ := h
 rcases h4 with ⟨rfl, he⟩ | ⟨rfl, h5, he⟩ | ⟨rfl, h5, -⟩
 · exact ⟨SS, he, h1, h2, h3⟩
 · exact ⟨SS, he, h1, h2, h3⟩
 · rcases h0 with h | h
   · cases h
   · exact absurd h5 h
theorem rcompactL_any {L M : LS} (hR : RelL L M) {s n k : Nat} (hb : BndL L s n k) (hs : s ≤ 100000) (hn : n ≤ 900) (hk : k ≤ 90000) (mst : Int) (v : Value) (R : List RF) (T : Nat → Prop) (pa : Option Addr) (pc : Nat) (P : List SL) (w : World) (h : RLi w v R T) (hT : ∀ k, T k → k < w.heap.size) (hf : R.map RF.f = M.D.files)
   (hP : SLs w (.slice pa P.length pc) P) (hPl : P.length ≤ 60) (hPs : sumL P ≤ 1500) :
   Calls Tryz.prog 47 #[rlog v M, .int .i64 mst, .slice pa P.length pc] w (MPst w T (compR M mst (P.all fullB) (framesB ([] :: P.map SL.l)))) := by
 have hRn : R.length ≤ n := by
   have h1 := congrArg List.length hf
   rw [List.length_map] at h1
   rw [h1, ← hR.rel.len]; exact hb.d.len
 have hn0 := hb.n0
 rw [hR.n] at hn0
 obtain ⟨n1, size, wt, most, ⟨room, fs, plan, down⟩⟩ := M
 simp only at hf hn0
 subst hf
 have hbr : BR (⟨room, R.map RF.f, plan, down⟩ : DS) s 1000 := ⟨by rw [← hR.rel.sum]; exact hb.d.sum, by rw [← hR.rel.len]; have := hb.d.len; omega, by rw [← hR.rel.plan]; exact hb.d.plan⟩
 exact rcompact_any room plan most n1 size wt mst down v R T pa pc P w h hT (by omega) hbr (by omega) (by omega) hP (by omega) (fun x hx => by
   obtain ⟨j, hj, rfl⟩ := List.mem_iff_getElem.1 hx
   have := sumL_at hj; omega)
theorem lens_of {P : List SL} (h : sumL P ≤ 1500) : ∀ x ∈ P, x.l.length ≤ 2000 := fun x hx => by
 obtain ⟨j, hj, rfl⟩ := List.mem_iff_getElem.1 hx
 have := sumL_at hj; omega
theorem full_of {P : List SL} (h : sumL P ≤ 1500) (ha : P.all fullB = true) : ∀ r ∈ P.map SL.l, r ≠ [] ∧ r.length ≤ 1048576 := fun r hr => by
 obtain ⟨x, hx, rfl⟩ := List.mem_map.1 hr
 have h1 := lens_of h x hx
 have h2 := List.all_eq_true.1 ha x hx
 exact ⟨of_decide_eq_true h2, by omega⟩
theorem frames_few {P : List SL} (h : sumL P ≤ 1500) (hl : P.length ≤ 60) : (framesB ([] :: P.map SL.l)).length ≤ 1988 + 8 := by
 have h1 : (framesB ([] :: P.map SL.l)).length = 8 + (framesB (P.map SL.l)).length := by rw [framesB_cons, List.length_append, frameB_length]; rfl
 have h2 : ∀ Q : List SL, (framesB (Q.map SL.l)).length = sumL Q + 8 * Q.length := fun Q => by
   induction Q with
   | nil => rfl
   | cons x Q ih =>
     rw [List.map_cons, framesB_cons, List.length_append, frameB_length, ih]
     simp only [sumL, List.map_cons, List.sum_cons, List.length_cons]
     omega
 rw [h1, h2]; omega
theorem comp_both {L M : LS} (h : RelL L M) (hd : M.D.down = false) (hn : 0 ≤ M.n ∧ M.n ≤ 99999) (ok : Bool) (b : List UInt8) (most : Int) :
   (if ok then (compK doP b (L.n + 1) 0 L.D).2 else 2) = (compR M most ok b).2 ∧ Rel (if ok then (compK doP b (L.n + 1) 0 L.D).1 else L.D) (compR M most ok b).1.D ∧
     (ok = true → (compK doP b (L.n + 1) 0 L.D).2 = 0 → (compR M most ok b).1.n = L.n + 1 ∧ (compR M most ok b).1.size = b.length ∧ (compR M most ok b).1.waiting = 0 ∧ (compR M most ok b).1.most = most) := by
 obtain ⟨h1, h2⟩ := comp_rel h hd hn b
 unfold compR
 cases ok with
 | false => exact ⟨rfl, h.rel, fun h => by cases h⟩
 | true =>
   simp only [reduceIte, Bool.true_eq_false]
   rw [h1]
   by_cases h0 : (stepsG doR M.D (compRL M.D M.n b)).2 = 0
   · rw [if_pos h0]
     exact ⟨h0, h2, fun _ _ => ⟨by rw [h.n], rfl, rfl, rfl⟩⟩
   · rw [if_neg h0]
     exact ⟨rfl, h2, fun _ h => absurd h h0⟩
theorem DuelL.refAt {w0 w w2 : World} {bl bx B : Nat} {L M : LS} {a : Option Addr} {c : Nat} {R : List RF} {S T : Nat → Prop} {s q : Nat} (h : DuelL w0 w bl bx B L M a c R S T s q) (hc : Chg S w w2) :
   RLi w2 (.slice a R.length c) R T ∧ w2.heap[B]? = some (.cells (rcell M a R.length c) 34 (0, 0)) ∧ Below w0.heap.size w0 w2 ∧ (∀ k, T k → k < w2.heap.size) :=
 ⟨h.d.lst.frame (fun k hk hl => hc.block k hl (h.d.sT k hk).2.2), hc.heap h.blk h.bS, h.d.bel.trans (hc.toBelow h.d.bel.size (fun k hk e => by have := (h.d.sS k e).1; omega)), fun k hk => Nat.lt_of_lt_of_le (h.d.sT k hk).2.1 hc.size⟩
theorem DuelR.kept {w0 w : World} {bl bx : Nat} {L M : LS} {a : Option Addr} {c : Nat} {R : List RF} {S T : Nat → Prop} {s q : Nat} (h : DuelR w0 w bl bx L M a c R S T s q) :
   DuelL w0 (w.alloc (.cells (rcell M a R.length c) 34)) bl bx w.heap.size L M a c R S T s q :=
 ⟨h.later ((Below.refl _ _).alloc (Nat.le_refl _) _), heap_alloc_new _ _, fun e => by have := (h.sS _ e).2; omega, fun e => by have := (h.sT _ e).2.1; omega, h.bel.size⟩
theorem alive_sls (w : World) (T1 T2 T3 : TypeId) (v1 v2 : Value) (hv1 : v1 = .slice (some ⟨w.heap.size, 0, none⟩) 1 1) (hv2 : v2 = .slice (some ⟨w.heap.size + 1, 0, none⟩) 1 1) :
   SLs (((w.alloc (.cells #[.int .u8 1] T1)).alloc (.cells #[.int .u8 2] T2)).alloc (.cells #[v1, v2] T3)) (.slice (some ⟨w.heap.size + 1 + 1, 0, none⟩) 2 2) [⟨v1, [1]⟩, ⟨v2, [2]⟩] := by
 subst hv1 hv2
 refine ⟨?_, fun x hx => ?_⟩
 · have := reads_twoS ((w.alloc (.cells #[.int .u8 1] T1)).alloc (.cells #[.int .u8 2] T2)) (.slice (some ⟨w.heap.size, 0, none⟩) 1 1) (.slice (some ⟨w.heap.size + 1, 0, none⟩) 1 1) T3
   simpa using this
 · simp only [List.mem_cons, List.not_mem_nil, or_false] at hx
   have hb2 : Below ((w.alloc (.cells #[.int .u8 1] T1)).alloc (.cells #[.int .u8 2] T2)).heap.size ((w.alloc (.cells #[.int .u8 1] T1)).alloc (.cells #[.int .u8 2] T2)) (((w.alloc (.cells #[.int .u8 1] T1)).alloc (.cells #[.int .u8 2] T2)).alloc (.cells #[.slice (some ⟨w.heap.size, 0, none⟩) 1 1, .slice (some ⟨w.heap.size + 1, 0, none⟩) 1 1] T3)) := (Below.refl _ _).alloc (Nat.le_refl _) _
   have hb1 : Below (w.alloc (.cells #[.int .u8 1] T1)).heap.size (w.alloc (.cells #[.int .u8 1] T1)) ((w.alloc (.cells #[.int .u8 1] T1)).alloc (.cells #[.int .u8 2] T2)) := (Below.refl _ _).alloc (Nat.le_refl _) _
   rcases hx with rfl | rfl
   · have h := Reads.single (heap_alloc_new w (.cells #[.int .u8 1] T1))
     exact (h.later hb1).later hb2
   · have h := Reads.single (heap_alloc_new (w.alloc (.cells #[.int .u8 1] T1)) (.cells #[.int .u8 2] T2))
     rw [World.size_alloc] at h
     exact h.later hb2
set_option maxHeartbeats 4000000 in
theorem talive_any (w : World) (ht : Tab w) : Calls Tryz.prog 44 #[] w fun e w' => e = .returned (.bool true) ∧ Below w.heap.size w w' := by
 have HT := Lib.hid ht
 clear ht
 have HSL : Hid (SLs (((w.alloc (.cells #[.int .u8 1] 5)).alloc (.cells #[.int .u8 2] 5)).alloc (.cells #[.slice (some ⟨w.heap.size, 0, none⟩) 1 1, .slice (some ⟨w.heap.size + 1, 0, none⟩) 1 1] 72)) (.slice (some ⟨w.heap.size + 1 + 1, 0, none⟩) 2 2) [⟨.slice (some ⟨w.heap.size, 0, none⟩) 1 1, [1]⟩, ⟨.slice (some ⟨w.heap.size + 1, 0, none⟩) 1 1, [2]⟩]) := alive_sls w 5 5 72 _ _ rfl rfl
 have HBA : Hid (Below w.heap.size w (((w.alloc (.cells #[.int .u8 1] 5)).alloc (.cells #[.int .u8 2] 5)).alloc (.cells #[.slice (some ⟨w.heap.size, 0, none⟩) 1 1, .slice (some ⟨w.heap.size + 1, 0, none⟩) 1 1] 72))) := (((Below.refl _ _).alloc (Nat.le_refl _) _).alloc (by simp) _).alloc (by simp <;> omega) _
 obtain ⟨P0, hP0⟩ : ∃ P0 : List SL, P0 = [⟨.slice (some ⟨w.heap.size, 0, none⟩) 1 1, [1]⟩, ⟨.slice (some ⟨w.heap.size + 1, 0, none⟩) 1 1, [2]⟩] := ⟨_, rfl⟩
 have hP1 : P0.length = 2 := by rw [hP0]; rfl
 have hP2 : sumL P0 = 2 := by rw [hP0]; rfl
 rw [← hP0] at HSL
 have HP1 := Lib.hid hP1
 have HP2 := Lib.hid hP2
 clear hP0 hP1 hP2
 go_enter Tryz.func44, Tryz.ntmps44
 go_wp2_with fail
 generalize (((w.alloc (.cells #[.int .u8 1] 5)).alloc (.cells #[.int .u8 2] 5)).alloc (.cells #[.slice (some ⟨w.heap.size, 0, none⟩) 1 1, .slice (some ⟨w.heap.size + 1, 0, none⟩) 1 1] 72)) = wa at *
 have hst := tstart_any 1000 50 (by omega) (by omega) (some ⟨w.heap.size + 1 + 1, 0, none⟩) 2 P0 wa (tab_below HT.out HBA.out) (by rw [HP1.out]; exact HSL.out) (by rw [HP1.out]; decide) (by rw [HP2.out]; decide)
 rw [HP1.out] at hst
 refine hst.mono ?_
 rintro e w1 ⟨bx, bl, L, M, va, vc, R, S, T, rfl, hd, hM, hmo⟩
 have h2 := HP1.out
 have h3 := HP2.out
 have hps := puts_seg (most := 50) (room := 1000) P0 (by omega) (by omega) (by omega) P0.length (Nat.le_refl _)
 rw [List.take_length] at hps
 obtain ⟨s, hs, hg, hi0, hpre, hfl, hos, -⟩ := run_facts (most := 50) (room := 1000) (P := P0) (by omega) (by omega) false
 rw [hps] at hM
 have hM2 : M = segL 1000 50 s := by rw [hM, hs]; rfl
 have hfr : (framesB ([] :: ([] : List (List UInt8)))).length = 8 := by rw [framesB_one, frameB_length]; rfl
 obtain ⟨hr0, hrel, -⟩ := comp_seg hd.rel hM2 (by omega) hos [] (by rw [hfr]; omega)
 have hb0 := hd.bnd.n0
 have hba := hd.bel.size
 have HDK := Lib.hid hd.kept
 have hcp0 := compact_any bx bl L S 50 none 0 [] (w1.alloc (.cells (rcell M va R.length vc) 34)) HDK.out.d.log (fun k hk => (HDK.out.d.sS k hk).2) (fun w' hc => tab_below HT.out (HBA.out.trans ((HDK.out.d.bel.trans (hc.toBelow HDK.out.d.bel.size (fun k hk e => by have := (HDK.out.d.sS k e).1; omega))).mono HBA.out.size))) HDK.out.d.bnd.d (by omega) (by omega) (by omega) ⟨Reads.nil _ _, by simp⟩ (by simp) (by simp)
 have hcp : Calls Tryz.prog 46 #[.pointer (some ⟨bx, 0, none⟩), .pointer (some ⟨bl, 0, none⟩), .int .i64 50, .slice none 0 0] (w1.alloc (.cells (rcell M va R.length vc) 34)) (CompP (w1.alloc (.cells (rcell M va R.length vc) 34)) (.pointer (some ⟨bx, 0, none⟩)) S 50 L [] true (compK doP (framesB [[]]) (L.n + 1) 0 L.D)) := hcp0
 have HCP := Lib.hid hcp
 have HR0 := Lib.hid hr0
 have HREL := Lib.hid hrel
 have HBC := Lib.hid (comp_bnd (b := framesB [[]]) (n := L.n + 1) hd.bnd.d)
 have HFR := Lib.hid hfr
 clear hcp0 hcp hr0 hrel hfr hd hM hM2 hs hg hi0 hpre hfl hos hps hst h2 h3 HSL hmo
 go_wp2_with fail
 refine HCP.out.mono ?_
 intro e w2 hcp
 obtain ⟨bl2, SS, rfl, hl2, hd2, hss, hc2⟩ := compP_ok hcp HR0.out
 have hb2 : Below wa.heap.size wa w2 := HDK.out.d.bel.trans (hc2.toBelow HDK.out.d.bel.size (fun k hk e => by have := (HDK.out.d.sS k e).1; omega))
 have HB2 : Hid (Below w.heap.size w w2) := HBA.out.trans (hb2.mono HBA.out.size)
 have hsz := lsize_any _ bl2 _ SS w2 hl2
 obtain ⟨r, hr⟩ : ∃ r, r = (compK doP (framesB [[]]) (L.n + 1) 0 L.D).1 := ⟨_, rfl⟩
 rw [← hr] at hd2 hsz
 have hrel := HREL.out
 have hbc := HBC.out
 rw [← hr] at hrel hbc
 have hfs := segK_files (s.i0 + s.pre.length + 1) []
 have hsum : sumD r.files = 8 := by
   rw [hrel.sum]
   show sumD (segK (s.i0 + s.pre.length + 1) []).files = 8
   rw [hfs]; show (framesB [[]]).length + 0 = 8; rw [HFR.out]
 have HSZ : Hid (Calls Tryz.prog 36 #[.pointer (some ⟨bl2, 0, none⟩)] w2 fun e w' => e = .returned (.int .i64 8) ∧ w' = w2) := by
   have e8 : ((framesB ([] :: ([] : List (List UInt8)))).length : Int) = 8 := by rw [HFR.out]; rfl
   rw [e8] at hsz
   exact hsz
 have HLI := Lib.hid (list_any _ r _ w2 hd2 (by have := hbc.len; have := HP1.out; omega) (fun f hf => by have := hbc.nm f hf; unfold maxLen; omega))
 have HLN : Hid (∀ ss : List (List UInt8), ss.Pairwise (· < ·) → (∀ s : List UInt8, s ∈ ss ↔ ⟨s.toArray⟩ ∈ r.files.map DF.name) → ss.length = 1) := fun ss h1 h2 => by
   rw [rel_names hrel h1 h2, List.length_map]
   show (segK (s.i0 + s.pre.length + 1) []).files.length = 1
   rw [hfs]; rfl
 have HUS := Lib.hid (fun (w' : World) (hb : Below w2.heap.size w2 w') => used_any _ r _ w' (hd2.frame (fun k _ hk => hb.block k hk)) (by rw [hsum]; decide))
 rw [hsum] at HUS
 clear hcp hl2 hd2 hss hc2 hb2 hsz hr hrel hbc hfs hsum HCP HREL HBC HFR HR0 HDK hb0 hba
 go_wp2_with fail
 refine HSZ.out.mono ?_
 rintro e w3 ⟨rfl, hw3⟩
 obtain rfl := hw3.symm
 clear hw3 HSZ
 go_wp2_with fail
 refine HLI.out.mono ?_
 rintro e w4 ⟨v4, ss, rfl, hrow, hb4, hpw, hmem⟩
 have hln := HLN.out ss hpw hmem
 have HU4 := Lib.hid (HUS.out w4 hb4)
 have HB4 := Lib.hid (HB2.out.trans (hb4.mono HB2.out.size))
 obtain ⟨a4, c4, rfl⟩ := slice_form hrow
 rw [hln]
 clear hrow hb4 hpw hmem hln HLN HLI HUS
 go_wp2_with fail
 refine HU4.out.mono ?_
 rintro e w5 ⟨rfl, hb5⟩
 have HB5 := Lib.hid (HB4.out.trans (hb5.mono HB4.out.size))
 clear hb5 HU4
 go_wp2
 go_ret
 exact ⟨rfl, HB5.out⟩
theorem rlog_field3 (x0 x1 x2 x3 x4 x5 x6 : Value) (w : World) : (Instr.field 61 (.agg #[x0, x1, x2, x3, x4, x5, x6]) 3).run Tryz.prog w = .ok x3 w := by kernel_rfl
theorem mem_sumD {l : List DF} {f : DF} (h : f ∈ l) : f.b.length ≤ sumD l := by
 induction l with
 | nil => cases h
 | cons a l ih =>
   rw [sumD_cons]
   rcases List.mem_cons.1 h with rfl | h
   · omega
   · have := ih h; omega
theorem runS_ne {most : Int} (l : List (List UInt8)) : ∀ {s : Seg}, (∀ r ∈ s.all, r ≠ []) → ∀ r ∈ (runS most s l).all, r ≠ [] := by
 induction l with
 | nil => intro s h; exact h
 | cons x l ih =>
   intro s h
   show ∀ r ∈ (runS most (stepS most s x).1 l).all, r ≠ []
   refine ih fun r hr => ?_
   rw [stepS_all] at hr
   rcases List.mem_append.1 hr with h1 | h1
   · exact h r h1
   · unfold takes at h1
     split at h1
     · rename_i ht
       obtain rfl := List.mem_singleton.1 h1
       exact (of_decide_eq_true ht).1
     · cases h1
theorem preF_dur {i : Nat} {a : List (List (List UInt8))} {f : DF} (h : f ∈ preF i a) : f.d = f.b.length := by
 induction a generalizing i with
 | nil => cases h
 | cons c a ih =>
   rw [preF] at h
   rcases List.mem_cons.1 h with rfl | h
   · rfl
   · exact ih h
theorem synced_facts {most room : Int} {P : List SL} (hP : P.length ≤ 60) (hs : sumL P ≤ 1500) :
   ∃ s : Seg, s = { runS most seg0 (P.map SL.l) with wt := 0 } ∧ s.i0 + s.pre.length + 1 ≤ 100 ∧ Durable (fnd (segD room s)) ∧ (∀ m ∈ segsD (segD room s), m ≤ ((s.i0 + s.pre.length + 1 : Nat) : Int)) ∧ (findS (segD room s)).code = 0 ∧ (findS (segD room s)).torn = 0 ∧ (framesB s.all).length ≤ sumL P + 8 * P.length := by
 obtain ⟨s, hs0, hg, h5, h4, hlen, -, hsg⟩ := run_facts (most := most) (room := room) (P := P) hP (by omega) true
 rw [if_pos rfl] at hs0
 refine ⟨s, hs0, by omega, ?_, hsg, ?_⟩
 · intro x f hf
   obtain ⟨h1, h2⟩ := findD_name hf
   refine ⟨?_, h1⟩
   have h3 : f ∈ preF s.i0 s.pre ++ [s.last] := h2
   rcases List.mem_append.1 h3 with h | h
   · exact preF_dur h
   · obtain rfl := List.mem_singleton.1 h
     have hw : s.wt = 0 := by rw [hs0]
     show (framesB (s.cur.take (s.cur.length - s.wt))).length = (framesB s.cur).length
     rw [hw, Nat.sub_zero, List.take_length]
 · have hne : ∀ r ∈ s.all, r ≠ [] := by
     have h1 := runS_ne (most := most) (P.map SL.l) (s := seg0) (fun r hr => by simp [seg0, Seg.all] at hr)
     rw [hs0]; exact h1
   have hcl : ∀ r ∈ s.all, r.length ≤ 2000 := hg.lens
   have hsp : splitB (framesB s.cur) = (s.cur, (framesB s.cur).length) := by
     have := splitB_frames s.cur [] (fun r hr => by have := hcl r (List.mem_append_right _ hr); omega) (by decide +kernel)
     rwa [List.append_nil] at this
   have hf := find_segF (D := segD room s) (i0 := s.i0) (pre := s.pre) (b := framesB s.cur) (d := s.last.d) rfl rfl (by omega) (fun c hc r hr => ⟨hne r (List.mem_append_left _ (List.mem_flatten.2 ⟨c, hc, hr⟩)), by have := hcl r (List.mem_append_left _ (List.mem_flatten.2 ⟨c, hc, hr⟩)); omega⟩) (fun r hr => by
     rw [hsp] at hr; exact hne r (List.mem_append_right _ hr))
   rw [hf, hsp]
   refine ⟨rfl, ?_, hlen⟩
   show (framesB s.cur).length - (framesB s.cur).length = 0
   omega
theorem crash_law {E : DS} {n : Int} (hd : E.down = false) (hdur : Durable (fnd E)) (hn : 0 ≤ n ∧ n ≤ 99999) (hle : ∀ m ∈ segsD E, m ≤ n) (hc : (findS E).code = 0) (ht : (findS E).torn = 0) (P : List SL) (hs : sumL P ≤ 1500) (p : Int) (size wt most most' : Int) (X : LS) (c : Int)
   (hX : compR ⟨n, size, wt, most, { E with plan := p }⟩ most' (P.all fullB) (framesB ([] :: P.map SL.l)) = (X, c)) (ks : List Int) (G : DS) (hG : G.down = false) (hf : G.files = crashF X.D.files ks) :
   (findS G).code = 0 ∧ (findS G).torn = 0 ∧ ((findS G).recs = (findS E).recs ∨ (findS G).recs = P.map SL.l) ∧ (c = 0 → (findS G).recs = P.map SL.l) := by
 unfold compR at hX
 by_cases hok : P.all fullB = true
 · have hP := full_of hs hok
   rw [if_neg (by rw [hok]; decide)] at hX
   have key := fun h => crash_comp hd hdur hn hle hc ht hP p ks G hG h
   split at hX
   · rename_i h0
     obtain ⟨rfl, rfl⟩ := Prod.mk.inj hX
     obtain ⟨a1, a2, a3, a4⟩ := key hf
     exact ⟨a1, a2, a3, fun _ => a4 h0⟩
   · rename_i h0
     obtain ⟨rfl, rfl⟩ := Prod.mk.inj hX
     obtain ⟨a1, a2, a3, a4⟩ := key hf
     exact ⟨a1, a2, a3, fun h => absurd h h0⟩
 · rw [if_pos (by simpa using hok)] at hX
   obtain ⟨rfl, rfl⟩ := Prod.mk.inj hX
   have h2 : findS G = findS E := find_fnd hG hd (fun k _ _ => by
     show findD G.files _ = _
     rw [hf]; exact crash_same ks (fun f hf => (hdur _ f hf).1))
   rw [h2]
   exact ⟨hc, ht, .inl rfl, fun h => absurd h (by decide)⟩
theorem rsame1_some (a1 a2 : Option Addr) (c1 c2 : Nat) (l1 l2 : List UInt8) (w : World) (h1 : Reads w (.slice a1 l1.length c1) l1.length 1 (byts l1)) (h2 : Reads w (.slice a2 l2.length c2) l2.length 1 (byts l2)) :
   Calls Tryz.prog 65 #[.slice a1 l1.length c1, .slice a2 l2.length c2] w fun e w' => (∃ b, e = .returned (.bool b)) ∧ w' = w := by
 have hc1 := conv_all w a1 c1 l1 h1
 have hc2 := conv_all w a2 c2 l2 h2
 clear h1 h2
 go_enter Tryz.func65, Tryz.ntmps65
 go_wp2_with (first | simp only [hc1, hc2] | fail)
 go_ret
 exact ⟨⟨_, rfl⟩, rfl⟩
set_option maxHeartbeats 2000000 in
theorem rsameL_some (v1 v2 : Value) (P Q : List SL) (w : World) (h1 : SLs w v1 P) (h2 : SLs w v2 Q) (hl : P.length ≤ 1000000000) (hl2 : Q.length ≤ 1000000000) :
   Calls Tryz.prog 21 #[v1, v2] w fun e w' => (∃ b, e = .returned (.bool b)) ∧ Below w.heap.size w w' := by
 obtain ⟨a1, c1, rfl⟩ := h1.form
 obtain ⟨a2, c2, rfl⟩ := h2.form
 have H1 := Lib.hid h1
 have H2 := Lib.hid h2
 clear h1 h2
 by_cases hne : P.length = Q.length
 case neg =>
   have hne2 : ((P.length : Int) == (Q.length : Int)) = false := by simp; omega
   have hne3 : ((P.length : Int) != (Q.length : Int)) = true := by simp; omega
   go_enter Tryz.func21, Tryz.ntmps21
   go_wp2_with fail
   go_ret
   exact ⟨⟨_, rfl⟩, Below.refl _ _⟩
 have HLN := Lib.hid hne.symm
 rw [← hne]
 clear hne
 go_enter Tryz.func21, Tryz.ntmps21
 go_wp2_with fail
 go_loopw [5] (fun i w' => ∃ m : Nat, m ≤ P.length ∧ i = .int .i64 m ∧ Hid (Below w.heap.size w w')) (fun i _ => P.length - (RowKit.intOf i).toNat)
 case atStart => exact ⟨0, by omega, rfl, Below.refl _ _⟩
 case round =>
   obtain ⟨m, hm, rfl, HB⟩ := hrel
   by_cases hlt : m < P.length
   · obtain ⟨b, o, ea, ec, rfl, hle, hb, -, hc, hr⟩ := (H1.out.later HB.out).head hlt
     have hlt2 : m < Q.length := by have := HLN.out; omega
     have h2' := H2.out.later HB.out
     obtain ⟨b2, o2, ea2, ec2, rfl, hle2, hb2, -, hc2, hr2⟩ := h2'.head hlt2
     rw [HLN.out] at hle2
     generalize P[m].l = pl at *
     generalize Q[m].l = ql at *
     have HSM := Lib.hid (rsame1_some ea ea2 ec ec2 pl ql)
     have HR := Lib.hid hr
     have HR2 := Lib.hid hr2
     clear hr hr2 h2'
     have HKS : Hid (∀ w', Hid (Below wr.heap.size wr w') → w'.cell? ⟨b, o + m, none⟩ = some (.slice ea pl.length ec) ∧ w'.cell? ⟨b2, o2 + m, none⟩ = some (.slice ea2 ql.length ec2)) := fun w' hb' => ⟨(hb'.out.cell (p := ⟨b, o + m, none⟩) hb).trans hc, (hb'.out.cell (p := ⟨b2, o2 + m, none⟩) hb2).trans hc2⟩
     have HB0 : Hid (Below wr.heap.size wr wr.drew) := (Below.refl _ _).drew
     have HBN := Lib.hid (HB.out.drew)
     go_upto_region 6 with fail
     go_region_held3 (fun w' => w'.cell? ⟨b, o + m, none⟩ = some (.slice ea pl.length ec) ∧ w'.cell? ⟨b2, o2 + m, none⟩ = some (.slice ea2 ql.length ec2)) (exact HKS.out _ (by assumption))
       (first | (go_at_call 65; refine (HSM.out _ (HR.out.later (Hid.out (by assumption))) (HR2.out.later (Hid.out (by assumption)))).mono ?_; rintro e w3 ⟨⟨bb, rfl⟩, rfl⟩))
     cases bb with
     | true =>
       go_wp2
       go_roundw
       case rel => exact ⟨m + 1, by omega, by go_num, HBN⟩
       case measure => simp [RowKit.intOf]; omega
     | false =>
       go_wp2
       go_ret
       exact ⟨⟨_, rfl⟩, HBN.out⟩
   · obtain rfl : m = P.length := by omega
     go_wp2
     go_ret
     exact ⟨⟨_, rfl⟩, HB.out⟩
theorem DuelL.armed {w0 w w1 : World} {bl bx B : Nat} {L M : LS} {a : Option Addr} {c : Nat} {R : List RF} {S T : Nat → Prop} {s q : Nat} (h : DuelL w0 w bl bx B L M a c R S T s q) (p : Int) (hp : 0 ≤ p ∧ p ≤ 255) (hd : DRep w1 (.pointer (some ⟨bx, 0, none⟩)) { L.D with plan := p } (fun k => S k ∧ k ≠ bl)) (hc : Chg (fun k => S k ∧ k ≠ bl) w w1) :
   DuelL w0 (w1.setCell ⟨B, 2, none⟩ (.int .i64 p)) bl bx B { L with D := { L.D with plan := p } } { M with D := { M.D with plan := p } } a c R S T s q := by
 have hbk : w1.heap[B]? = some (.cells (rcell M a R.length c) 34 (0, 0)) := hc.heap h.blk (fun e => h.bS e.1)
 have hbk2 : (w1.setCell ⟨B, 2, none⟩ (.int .i64 p)).heap[B]? = some (.cells (rcell { M with D := { M.D with plan := p } } a R.length c) 34 (0, 0)) := heap_store hbk 2 (.int .i64 p)
 have hst : Chg (fun k => k = B) w1 (w1.setCell ⟨B, 2, none⟩ (.int .i64 p)) := (Chg.refl (fun k => k = B) w1).setCell (p := ⟨B, 2, none⟩) (.inl rfl) _
 have h1 := hc.size
 have h2 := hst.size
 have hbl := lt_of_heap h.d.log.blk
 refine ⟨⟨⟨?_, ?_, h.d.log.own⟩, ?_, h.d.files, ⟨h.d.rel.n, h.d.rel.size, h.d.rel.waiting, h.d.rel.most, rel_arm h.d.rel.rel p⟩, ⟨⟨h.d.bnd.d.sum, h.d.bnd.d.len, h.d.bnd.d.nm, h.d.bnd.d.nd, by show 0 ≤ p ∧ p ≤ 9223372036854775807; omega⟩, h.d.bnd.n0, h.d.bnd.size, h.d.bnd.waiting⟩, ?_, ?_, ?_, h.d.most⟩, hbk2, h.bS, h.bT, h.bB⟩
 · exact (hst.block bl (by omega) (fun e => h.bS (e ▸ h.d.log.own))).trans ((hc.block bl hbl (fun e => e.2 rfl)).trans h.d.log.blk)
 · exact hd.frame (fun k hk hl => hst.block k hl (fun e => h.bS (e ▸ hk.1)))
 · exact (h.d.lst.frame (fun k hk hl => hc.block k hl (fun e => (h.d.sT k hk).2.2 e.1))).frame (fun k hk hl => hst.block k hl (fun e => h.bT (e ▸ hk)))
 · exact h.d.bel.trans ((hc.toBelow (B := w0.heap.size) h.d.bel.size (fun k hk e => by have := (h.d.sS k e.1).1; omega)).trans (hst.toBelow (by have := h.d.bel.size; omega) (fun k hk e => by have e2 : k = B := e; have := h.bB; omega)))
 · exact fun k hk => ⟨(h.d.sS k hk).1, by have := (h.d.sS k hk).2; omega⟩
 · exact fun k hk => ⟨(h.d.sT k hk).1, by have := (h.d.sT k hk).2.1; omega, (h.d.sT k hk).2.2⟩
end Go.Proofs.YtgdmdbdljmlkkaaGreatDoor
