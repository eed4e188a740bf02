/- Texts for trimTwice_holds, joined: TrimJ, TrimL. -/
import Derived.Test.YtgdmdbdljmlkkaaGreatDoorTt38
import Derived.Test.YtgdmdbdljmlkkaaGreatDoorTt39
import Derived.Test.YtgdmdbdljmlkkaaGreatDoorTt32
set_option linter.unusedVariables false
set_option linter.unusedSimpArgs false
namespace Go.Proofs.YtgdmdbdljmlkkaaGreatDoor
open Go.RowKit
theorem compP_ok {w w' : World} {x : Value} {S : Nat → Prop} {most : Int} {L : LS} {P : List (List UInt8)} {r : DS × Int} {e : Ending} (h : CompP w x S most L P true r e w') (h0 : r.2 = 0) :
    ∃ (bl : Nat) (SS : Nat → Prop), e = .returned (.tuple #[.pointer (some ⟨bl, 0, none⟩), .int .i64 0]) ∧ LAt w' bl x ⟨L.n + 1, ((framesB ([] :: P)).length : Int), 0, most, r.1⟩ SS ∧ DRep w' x r.1 (fun k => SS k ∧ k ≠ bl) ∧ (∀ k, SS k → (S k ∨ w.heap.size ≤ k) ∧ k < w'.heap.size) ∧ Chg S w w' := by
  obtain ⟨SS, h1, h2, h3, h4⟩ := h
  rcases h4 with ⟨h5, -⟩ | ⟨-, h5, -⟩ | ⟨-, -, bl, he, hb, hl, hn⟩
  · cases h5
  · exact absurd h0 h5
  · have h1 : DRep w' x r.1 SS := h1
    have hd : DRep w' x r.1 (fun k => (SS k ∨ k = bl) ∧ k ≠ bl) := h1.mono (fun k hk => ⟨.inl hk, fun e => hn (e ▸ hk)⟩)
    refine ⟨bl, fun k => SS k ∨ k = bl, he, ⟨hb, hd, .inr rfl⟩, hd, fun k hk => ?_, h3⟩
    rcases hk with hk | rfl
    · exact h2 k hk
    · exact ⟨.inr hl, lt_of_heap hb⟩
theorem compP_bad {w w' : World} {x : Value} {S : Nat → Prop} {most : Int} {L : LS} {P : List (List UInt8)} {ok : Bool} {r : DS × Int} {e : Ending} (h : CompP w x S most L P ok r e w') (h0 : ok = false ∨ r.2 ≠ 0) :
    ∃ (SS : Nat → Prop), e = .returned (.tuple #[.pointer none, .int .i64 (if ok then r.2 else 2)]) ∧ DRep w' x (if ok then r.1 else L.D) SS ∧ (∀ k, SS k → (S k ∨ w.heap.size ≤ k) ∧ k < w'.heap.size) ∧ Chg S w w' := by
  obtain ⟨SS, h1, h2, h3, h4⟩ := h
  rcases h4 with ⟨rfl, he⟩ | ⟨rfl, h5, he⟩ | ⟨rfl, h5, -⟩
  · exact ⟨SS, he, h1, h2, h3⟩
  · exact ⟨SS, he, h1, h2, h3⟩
  · rcases h0 with h | h
    · cases h
    · exact absurd h5 h
theorem rcompactL_any {L M : LS} (hR : RelL L M) {s n k : Nat} (hb : BndL L s n k) (hs : s ≤ 100000) (hn : n ≤ 900) (hk : k ≤ 90000) (mst : Int) (v : Value) (R : List RF) (T : Nat → Prop) (pa : Option Addr) (pc : Nat) (P : List SL) (w : World) (h : RLi w v R T) (hT : ∀ k, T k → k < w.heap.size) (hf : R.map RF.f = M.D.files)
    (hP : SLs w (.slice pa P.length pc) P) (hPl : P.length ≤ 60) (hPs : sumL P ≤ 1500) :
    Calls Tryz.prog 47 #[rlog v M, .int .i64 mst, .slice pa P.length pc] w (MPst w T (compR M mst (P.all fullB) (framesB ([] :: P.map SL.l)))) := by
  have hRn : R.length ≤ n := by
    have h1 := congrArg List.length hf
    rw [List.length_map] at h1
    rw [h1, ← hR.rel.len]; exact hb.d.len
  have hn0 := hb.n0
  rw [hR.n] at hn0
  obtain ⟨n1, size, wt, most, ⟨room, fs, plan, down⟩⟩ := M
  simp only at hf hn0
  subst hf
  have hbr : BR (⟨room, R.map RF.f, plan, down⟩ : DS) s 1000 := ⟨by rw [← hR.rel.sum]; exact hb.d.sum, by rw [← hR.rel.len]; have := hb.d.len; omega, by rw [← hR.rel.plan]; exact hb.d.plan⟩
  exact rcompact_any room plan most n1 size wt mst down v R T pa pc P w h hT (by omega) hbr (by omega) (by omega) hP (by omega) (fun x hx => by
    obtain ⟨j, hj, rfl⟩ := List.mem_iff_getElem.1 hx
    have := sumL_at hj; omega)
theorem lens_of {P : List SL} (h : sumL P ≤ 1500) : ∀ x ∈ P, x.l.length ≤ 2000 := fun x hx => by
  obtain ⟨j, hj, rfl⟩ := List.mem_iff_getElem.1 hx
  have := sumL_at hj; omega
theorem full_of {P : List SL} (h : sumL P ≤ 1500) (ha : P.all fullB = true) : ∀ r ∈ P.map SL.l, r ≠ [] ∧ r.length ≤ 1048576 := fun r hr => by
  obtain ⟨x, hx, rfl⟩ := List.mem_map.1 hr
  have h1 := lens_of h x hx
  have h2 := List.all_eq_true.1 ha x hx
  exact ⟨of_decide_eq_true h2, by omega⟩
theorem frames_few {P : List SL} (h : sumL P ≤ 1500) (hl : P.length ≤ 60) : (framesB ([] :: P.map SL.l)).length ≤ 1988 + 8 := by
  have h1 : (framesB ([] :: P.map SL.l)).length = 8 + (framesB (P.map SL.l)).length := by rw [framesB_cons, List.length_append, frameB_length]; rfl
  have h2 : ∀ Q : List SL, (framesB (Q.map SL.l)).length = sumL Q + 8 * Q.length := fun Q => by
    induction Q with
    | nil => rfl
    | cons x Q ih =>
      rw [List.map_cons, framesB_cons, List.length_append, frameB_length, ih]
      simp only [sumL, List.map_cons, List.sum_cons, List.length_cons]
      omega
  rw [h1, h2]; omega
theorem tcompact_nil1 (v : Option Addr) (m : Int) (a : Option Addr) (n c : Nat) (w : World) : Calls Tryz.prog 46 #[.pointer none, .pointer v, .int .i64 m, .slice a n c] w fun e w' => e = .returned (.tuple #[.pointer none, .int .i64 1]) ∧ w' = w := by
  go_enter Tryz.func46, Tryz.ntmps46
  go_wp2
  go_ret2
  exact ⟨rfl, rfl⟩
theorem tcompact_nil2 (b : Addr) (m : Int) (a : Option Addr) (n c : Nat) (w : World) : Calls Tryz.prog 46 #[.pointer (some b), .pointer none, .int .i64 m, .slice a n c] w fun e w' => e = .returned (.tuple #[.pointer none, .int .i64 1]) ∧ w' = w := by
  go_enter Tryz.func46, Tryz.ntmps46
  go_wp2
  go_ret2
  exact ⟨rfl, rfl⟩
theorem bnd_comp {L : LS} {s q : Nat} (h : BndL L s (q + 1) (2 * q + 1)) (b : List UInt8) (most : Int) : BndL ⟨L.n + 1, (b.length : Int), 0, most, (compK doP b (L.n + 1) 0 L.D).1⟩ (s + b.length) (q + 6 + 1) (2 * (q + 6) + 1) := by
  have h1 := h.n0
  exact ⟨(comp_bnd h.d).more (Nat.le_refl _) (by omega), ⟨by show 1 ≤ L.n + 1; omega, by show L.n + 1 ≤ _; omega⟩, ⟨by show (0 : Int) ≤ (b.length : Int); omega, by show (b.length : Int) ≤ _; omega⟩, ⟨Int.le_refl _, by show (0 : Int) ≤ _; omega⟩⟩
theorem DuelL.compacted {w0 w w2 w3 : World} {bl bx B bl2 : Nat} {L M L2 M2 : LS} {a a' : Option Addr} {c c' : Nat} {R R' : List RF} {S T SS : Nat → Prop} {s q s' q' : Nat} (h : DuelL w0 w bl bx B L M a c R S T s q)
    (hl : LAt w2 bl2 (.pointer (some ⟨bx, 0, none⟩)) L2 SS) (hss : ∀ k, SS k → (S k ∨ w.heap.size ≤ k) ∧ k < w2.heap.size) (hc : Chg S w w2) (hr : RLi w3 (.slice a' R'.length c') R' (fun k => T k ∨ w2.heap.size ≤ k)) (hb : Below w2.heap.size w2 w3) (hf : R'.map RF.f = M2.D.files)
    (hrel : RelL L2 M2) (hbn : BndL L2 s' (q' + 1) (2 * q' + 1)) (hm : -1000000 ≤ L2.most ∧ L2.most ≤ 1000000) : DuelR w0 w3 bl2 bx L2 M2 a' c' R' SS (fun k => (T k ∨ w2.heap.size ≤ k) ∧ k < w3.heap.size) s' q' := by
  have h0 := h.d.bel.size
  have h1 := hc.size
  have h2 := hb.size
  refine ⟨hl.frame (fun k hk hlt => hb.block k hlt), hr.tight, hf, hrel, hbn, h.d.bel.trans ((hc.toBelow (B := w0.heap.size) h0 (fun k hk e => by have := (h.d.sS k e).1; omega)).trans (hb.mono (by omega))), fun k hk => ?_, fun k hk => ?_, hm⟩
  · have h3 := hss k hk
    refine ⟨?_, by omega⟩
    rcases h3.1 with h4 | h4
    · exact (h.d.sS k h4).1
    · omega
  · rcases hk.1 with h3 | h3
    · have h4 := h.d.sT k h3
      refine ⟨h4.1, hk.2, fun e => ?_⟩
      rcases (hss k e).1 with h5 | h5
      · exact h4.2.2 h5
      · omega
    · exact ⟨by omega, hk.2, fun e => by have := (hss k e).2; omega⟩
theorem DuelL.refAt {w0 w w2 : World} {bl bx B : Nat} {L M : LS} {a : Option Addr} {c : Nat} {R : List RF} {S T : Nat → Prop} {s q : Nat} (h : DuelL w0 w bl bx B L M a c R S T s q) (hc : Chg S w w2) :
    RLi w2 (.slice a R.length c) R T ∧ w2.heap[B]? = some (.cells (rcell M a R.length c) 34 (0, 0)) ∧ Below w0.heap.size w0 w2 ∧ (∀ k, T k → k < w2.heap.size) :=
  ⟨h.d.lst.frame (fun k hk hl => hc.block k hl (h.d.sT k hk).2.2), hc.heap h.blk h.bS, h.d.bel.trans (hc.toBelow h.d.bel.size (fun k hk e => by have := (h.d.sS k e).1; omega)), fun k hk => Nat.lt_of_lt_of_le (h.d.sT k hk).2.1 hc.size⟩
theorem DuelR.kept {w0 w : World} {bl bx : Nat} {L M : LS} {a : Option Addr} {c : Nat} {R : List RF} {S T : Nat → Prop} {s q : Nat} (h : DuelR w0 w bl bx L M a c R S T s q) :
    DuelL w0 (w.alloc (.cells (rcell M a R.length c) 34)) bl bx w.heap.size L M a c R S T s q :=
  ⟨h.later ((Below.refl _ _).alloc (Nat.le_refl _) _), heap_alloc_new _ _, fun e => by have := (h.sS _ e).2; omega, fun e => by have := (h.sT _ e).2.1; omega, h.bel.size⟩
theorem alive_sls (w : World) (T1 T2 T3 : TypeId) (v1 v2 : Value) (hv1 : v1 = .slice (some ⟨w.heap.size, 0, none⟩) 1 1) (hv2 : v2 = .slice (some ⟨w.heap.size + 1, 0, none⟩) 1 1) :
    SLs (((w.alloc (.cells #[.int .u8 1] T1)).alloc (.cells #[.int .u8 2] T2)).alloc (.cells #[v1, v2] T3)) (.slice (some ⟨w.heap.size + 1 + 1, 0, none⟩) 2 2) [⟨v1, [1]⟩, ⟨v2, [2]⟩] := by
  subst hv1 hv2
  refine ⟨?_, fun x hx => ?_⟩
  · have := reads_twoS ((w.alloc (.cells #[.int .u8 1] T1)).alloc (.cells #[.int .u8 2] T2)) (.slice (some ⟨w.heap.size, 0, none⟩) 1 1) (.slice (some ⟨w.heap.size + 1, 0, none⟩) 1 1) T3
    simpa using this
  · simp only [List.mem_cons, List.not_mem_nil, or_false] at hx
    have hb2 : Below ((w.alloc (.cells #[.int .u8 1] T1)).alloc (.cells #[.int .u8 2] T2)).heap.size ((w.alloc (.cells #[.int .u8 1] T1)).alloc (.cells #[.int .u8 2] T2)) (((w.alloc (.cells #[.int .u8 1] T1)).alloc (.cells #[.int .u8 2] T2)).alloc (.cells #[.slice (some ⟨w.heap.size, 0, none⟩) 1 1, .slice (some ⟨w.heap.size + 1, 0, none⟩) 1 1] T3)) := (Below.refl _ _).alloc (Nat.le_refl _) _
    have hb1 : Below (w.alloc (.cells #[.int .u8 1] T1)).heap.size (w.alloc (.cells #[.int .u8 1] T1)) ((w.alloc (.cells #[.int .u8 1] T1)).alloc (.cells #[.int .u8 2] T2)) := (Below.refl _ _).alloc (Nat.le_refl _) _
    rcases hx with rfl | rfl
    · have h := Reads.single (heap_alloc_new w (.cells #[.int .u8 1] T1))
      exact (h.later hb1).later hb2
    · have h := Reads.single (heap_alloc_new (w.alloc (.cells #[.int .u8 1] T1)) (.cells #[.int .u8 2] T2))
      rw [World.size_alloc] at h
      exact h.later hb2
set_option maxRecDepth 100000 in
set_option maxHeartbeats 4000000 in
theorem talive_any (w : World) (ht : Tab w) : Calls Tryz.prog 44 #[] w fun e w' => e = .returned (.bool true) ∧ Below w.heap.size w w' := by
  have HT := Lib.hid ht
  clear ht
  have HSL : Hid (SLs (((w.alloc (.cells #[.int .u8 1] 5)).alloc (.cells #[.int .u8 2] 5)).alloc (.cells #[.slice (some ⟨w.heap.size, 0, none⟩) 1 1, .slice (some ⟨w.heap.size + 1, 0, none⟩) 1 1] 72)) (.slice (some ⟨w.heap.size + 1 + 1, 0, none⟩) 2 2) [⟨.slice (some ⟨w.heap.size, 0, none⟩) 1 1, [1]⟩, ⟨.slice (some ⟨w.heap.size + 1, 0, none⟩) 1 1, [2]⟩]) := alive_sls w 5 5 72 _ _ rfl rfl
  have HBA : Hid (Below w.heap.size w (((w.alloc (.cells #[.int .u8 1] 5)).alloc (.cells #[.int .u8 2] 5)).alloc (.cells #[.slice (some ⟨w.heap.size, 0, none⟩) 1 1, .slice (some ⟨w.heap.size + 1, 0, none⟩) 1 1] 72))) := (((Below.refl _ _).alloc (Nat.le_refl _) _).alloc (by simp) _).alloc (by simp <;> omega) _
  obtain ⟨P0, hP0⟩ : ∃ P0 : List SL, P0 = [⟨.slice (some ⟨w.heap.size, 0, none⟩) 1 1, [1]⟩, ⟨.slice (some ⟨w.heap.size + 1, 0, none⟩) 1 1, [2]⟩] := ⟨_, rfl⟩
  have hP1 : P0.length = 2 := by rw [hP0]; rfl
  have hP2 : sumL P0 = 2 := by rw [hP0]; rfl
  rw [← hP0] at HSL
  have HP1 := Lib.hid hP1
  have HP2 := Lib.hid hP2
  clear hP0 hP1 hP2
  go_enter Tryz.func44, Tryz.ntmps44
  go_wp2_with fail
  generalize (((w.alloc (.cells #[.int .u8 1] 5)).alloc (.cells #[.int .u8 2] 5)).alloc (.cells #[.slice (some ⟨w.heap.size, 0, none⟩) 1 1, .slice (some ⟨w.heap.size + 1, 0, none⟩) 1 1] 72)) = wa at *
  have hst := tstart_any 1000 50 (by omega) (by omega) (some ⟨w.heap.size + 1 + 1, 0, none⟩) 2 P0 wa (tab_below HT.out HBA.out) (by rw [HP1.out]; exact HSL.out) (by rw [HP1.out]; decide) (by rw [HP2.out]; decide)
  rw [HP1.out] at hst
  refine hst.mono ?_
  rintro e w1 ⟨bx, bl, L, M, va, vc, R, S, T, rfl, hd, hM, hmo⟩
  have h2 := HP1.out
  have h3 := HP2.out
  have hps := puts_seg (most := 50) (room := 1000) P0 (by omega) (by omega) (by omega) P0.length (Nat.le_refl _)
  rw [List.take_length] at hps
  obtain ⟨s, hs, hg, hi0, hpre, hfl, hos, -⟩ := run_facts (most := 50) (room := 1000) (P := P0) (by omega) (by omega) false
  rw [hps] at hM
  have hM2 : M = segL 1000 50 s := by rw [hM, hs]; rfl
  have hfr : (framesB ([] :: ([] : List (List UInt8)))).length = 8 := by rw [framesB_one, frameB_length]; rfl
  obtain ⟨hr0, hrel, -⟩ := comp_seg hd.rel hM2 (by omega) hos [] (by rw [hfr]; omega)
  have hb0 := hd.bnd.n0
  have hba := hd.bel.size
  have HDK := Lib.hid hd.kept
  have hcp0 := compact_any bx bl L S 50 none 0 [] (w1.alloc (.cells (rcell M va R.length vc) 34)) HDK.out.d.log (fun k hk => (HDK.out.d.sS k hk).2) (fun w' hc => tab_below HT.out (HBA.out.trans ((HDK.out.d.bel.trans (hc.toBelow HDK.out.d.bel.size (fun k hk e => by have := (HDK.out.d.sS k e).1; omega))).mono HBA.out.size))) HDK.out.d.bnd.d (by omega) (by omega) (by omega) ⟨Reads.nil _ _, by simp⟩ (by simp) (by simp)
  have hcp : Calls Tryz.prog 46 #[.pointer (some ⟨bx, 0, none⟩), .pointer (some ⟨bl, 0, none⟩), .int .i64 50, .slice none 0 0] (w1.alloc (.cells (rcell M va R.length vc) 34)) (CompP (w1.alloc (.cells (rcell M va R.length vc) 34)) (.pointer (some ⟨bx, 0, none⟩)) S 50 L [] true (compK doP (framesB [[]]) (L.n + 1) 0 L.D)) := hcp0
  have HCP := Lib.hid hcp
  have HR0 := Lib.hid hr0
  have HREL := Lib.hid hrel
  have HBC := Lib.hid (comp_bnd (b := framesB [[]]) (n := L.n + 1) hd.bnd.d)
  have HFR := Lib.hid hfr
  clear hcp0 hcp hr0 hrel hfr hd hM hM2 hs hg hi0 hpre hfl hos hps hst h2 h3 HSL hmo
  go_wp2_with fail
  refine HCP.out.mono ?_
  intro e w2 hcp
  obtain ⟨bl2, SS, rfl, hl2, hd2, hss, hc2⟩ := compP_ok hcp HR0.out
  have hb2 : Below wa.heap.size wa w2 := HDK.out.d.bel.trans (hc2.toBelow HDK.out.d.bel.size (fun k hk e => by have := (HDK.out.d.sS k e).1; omega))
  have HB2 : Hid (Below w.heap.size w w2) := HBA.out.trans (hb2.mono HBA.out.size)
  have hsz := lsize_any _ bl2 _ SS w2 hl2
  obtain ⟨r, hr⟩ : ∃ r, r = (compK doP (framesB [[]]) (L.n + 1) 0 L.D).1 := ⟨_, rfl⟩
  rw [← hr] at hd2 hsz
  have hrel := HREL.out
  have hbc := HBC.out
  rw [← hr] at hrel hbc
  have hfs := segK_files (s.i0 + s.pre.length + 1) []
  have hsum : sumD r.files = 8 := by
    rw [hrel.sum]
    show sumD (segK (s.i0 + s.pre.length + 1) []).files = 8
    rw [hfs]; show (framesB [[]]).length + 0 = 8; rw [HFR.out]
  have HSZ : Hid (Calls Tryz.prog 36 #[.pointer (some ⟨bl2, 0, none⟩)] w2 fun e w' => e = .returned (.int .i64 8) ∧ w' = w2) := by
    have e8 : ((framesB ([] :: ([] : List (List UInt8)))).length : Int) = 8 := by rw [HFR.out]; rfl
    rw [e8] at hsz
    exact hsz
  have HLI := Lib.hid (list_any _ r _ w2 hd2 (by have := hbc.len; have := HP1.out; omega) (fun f hf => by have := hbc.nm f hf; unfold maxLen; omega))
  have HLN : Hid (∀ ss : List (List UInt8), ss.Pairwise (· < ·) → (∀ s : List UInt8, s ∈ ss ↔ ⟨s.toArray⟩ ∈ r.files.map DF.name) → ss.length = 1) := fun ss h1 h2 => by
    rw [rel_names hrel h1 h2, List.length_map]
    show (segK (s.i0 + s.pre.length + 1) []).files.length = 1
    rw [hfs]; rfl
  have HUS := Lib.hid (fun (w' : World) (hb : Below w2.heap.size w2 w') => used_any _ r _ w' (hd2.frame (fun k _ hk => hb.block k hk)) (by rw [hsum]; decide))
  rw [hsum] at HUS
  clear hcp hl2 hd2 hss hc2 hb2 hsz hr hrel hbc hfs hsum HCP HREL HBC HFR HR0 HDK hb0 hba
  go_wp2_with fail
  refine HSZ.out.mono ?_
  rintro e w3 ⟨rfl, hw3⟩
  obtain rfl := hw3.symm
  clear hw3 HSZ
  go_wp2_with fail
  refine HLI.out.mono ?_
  rintro e w4 ⟨v4, ss, rfl, hrow, hb4, hpw, hmem⟩
  have hln := HLN.out ss hpw hmem
  have HU4 := Lib.hid (HUS.out w4 hb4)
  have HB4 := Lib.hid (HB2.out.trans (hb4.mono HB2.out.size))
  obtain ⟨a4, c4, rfl⟩ := slice_form hrow
  rw [hln]
  clear hrow hb4 hpw hmem hln HLN HLI HUS
  go_wp2_with fail
  refine HU4.out.mono ?_
  rintro e w5 ⟨rfl, hb5⟩
  have HB5 := Lib.hid (HB4.out.trans (hb5.mono HB4.out.size))
  clear hb5 HU4
  go_wp2
  go_ret
  exact ⟨rfl, HB5.out⟩
theorem rlog_field3 (x0 x1 x2 x3 x4 x5 x6 : Value) (w : World) : (Instr.field 61 (.agg #[x0, x1, x2, x3, x4, x5, x6]) 3).run Tryz.prog w = .ok x3 w := by kernel_rfl
theorem mem_sumD {l : List DF} {f : DF} (h : f ∈ l) : f.b.length ≤ sumD l := by
  induction l with
  | nil => cases h
  | cons a l ih =>
    rw [sumD_cons]
    rcases List.mem_cons.1 h with rfl | h
    · omega
    · have := ih h; omega
theorem find_segK {D : DS} {room : Int} {n : Nat} (hn : n ≤ 900) {P : List (List UInt8)} (hP : ∀ r ∈ P, r ≠ [] ∧ r.length ≤ 1048576) (h : Rel D (segD room (segK n P))) : (findS D).code = 0 ∧ (findS D).recs = P := by
  have hst : (stepS 0 (segK n P) []).1 = segK n P := by unfold stepS; rw [if_pos rfl]
  have h1 := keeps_plain (most := 0) hn hP (r := []) (by simp) (by rw [hst]; exact h)
  have ht : takes 0 [] = false := by simp [takes]
  rw [ht] at h1
  simpa using h1
theorem only_segK (room : Int) (n : Nat) (P : List (List UInt8)) : OnlySegs (segD room (segK n P)) (((segK n P).i0 + (segK n P).pre.length + 1 : Nat) : Int) := fun x hx => by
  have hf := segK_files n P
  have e : fnd (segD room (segK n P)) x = findD (segK n P).files x := rfl
  rw [e, hf, findD, findD] at hx
  by_cases h : nameI ((n : Int) + 1) = x
  · exact ⟨(n : Int) + 1, h.symm, by omega, by show (n : Int) + 1 ≤ ((n + 0 + 1 : Nat) : Int); omega⟩
  · rw [if_neg h] at hx; cases hx
theorem look_ok {w w' : World} {f : FR} {e : Ending} (h : LookP w f e w') (hc : f.code = 0) : ∃ ra rc, ∃ X : List RX, e = .returned (.tuple #[.slice ra X.length rc, .int .i64 0]) ∧ SLs w' (.slice ra X.length rc) (X.map slOf) ∧ (X.map slOf).map SL.l = f.recs ∧ Below w.heap.size w w' := by
  obtain ⟨hb, h | ⟨-, ra, rc, X, he, hr, hx, hl⟩⟩ := h
  · exact absurd hc h.1
  · refine ⟨ra, rc, X, he, sls_rx hr hx, ?_, hb⟩
    rw [List.map_map]; exact hl
end Go.Proofs.YtgdmdbdljmlkkaaGreatDoor
