/- The law WalMatches returns true. -/
import Derived.Test.YtgdmdbdljmlkkaaGreatDoorPlay8
import Derived.Test.YtgdmdbdljmlkkaaGreatDoorRefRecs
namespace Go.Proofs.YtgdmdbdljmlkkaaGreatDoor
set_option linter.unusedVariables false
set_option linter.unusedSimpArgs false
open Go.RowKit

theorem crashF_sum8 : ∀ (fs : List DF) (ks : List Int), sumD (crashF fs ks) ≤ sumD fs
  | [], ks => by simp [crashF]
  | f :: fs, ks => by
    have ih := crashF_sum8 fs (ks.drop 1)
    have e : crashF (f :: fs) ks = crashF [f] ks ++ crashF fs (ks.drop 1) := crashF_append [f] fs ks
    have h1 : (cutF f ks[0]?).b.length ≤ f.b.length := by unfold cutF; exact List.length_take_le' ..
    rw [e]
    have e2 : crashF [f] ks = [cutF f ks[0]?] := rfl
    rw [e2]
    simp only [sumD, List.map_append, List.sum_append, List.map_cons, List.map_nil, List.sum_cons, List.sum_nil] at ih ⊢
    omega
theorem reads4k (w : World) (x0 x1 x2 x3 : Value) (T : TypeId) : Reads (w.alloc (.cells #[x0, x1, x2, x3] T)) (.slice (some ⟨w.heap.size, 0, none⟩) 4 4) 4 1 [x0, x1, x2, x3] := by
  have hb : (w.alloc (.cells #[x0, x1, x2, x3] T)).heap[w.heap.size]? = some (.cells #[x0, x1, x2, x3] T (0, 0)) := heap_alloc_new w _
  exact Reads.block hb 4 1 rfl

set_option maxRecDepth 100000 in
set_option maxHeartbeats 8000000 in
theorem walMatches_any (room m : Nat) (hroom : room < 65536) (hm : m < 65536) (a : Option Addr) (c : Nat) (P : List OW) (w : World) (h : Ows w (.slice a P.length c) P) (hl : P.length ≤ 3518437208780) (he : ∀ o ∈ P, o.l.length ≤ 9223372036854775807) (ht : Tab w) :
    Calls Tryz.prog 3 #[.int .u16 room, .int .u16 m, .slice a P.length c] w fun e w' => e = .returned (.bool true) ∧ Below w.heap.size w w' := by
  have H := Lib.hid h
  have HT := Lib.hid ht
  have HFE := Lib.hid (few8_any a c P w h hl he)
  clear h ht he
  go_enter Tryz.func3, Tryz.ntmps3
  go_wp2_with fail
  refine HFE.out.mono ?_
  rintro e w1 ⟨⟨b, rfl, hb⟩, hw1⟩
  have HB1 := Lib.hid hw1
  have HT1 := Lib.hid (tab_below HT.out HB1.out)
  clear hw1 HFE
  cases b with
  | false =>
    clear hb
    go_wp2_with fail
    refine (alive_any w1 HT1.out).mono ?_
    rintro e w2 ⟨rfl, hb⟩
    have HB := Lib.hid (HB1.out.trans (hb.mono HB1.out.size))
    clear hb
    go_wp2
    go_ret
    exact ⟨rfl, HB.out⟩
  | true =>
    obtain ⟨hP60, hsum⟩ := hb rfl
    clear hb hl
    go_wp2_with fail
    refine (live8_start room m w1 (by omega)).mono ?_
    rintro e w2 ⟨bx, bl, L0, S0, rfl, hl0⟩
    have HL0 := Lib.hid hl0
    clear hl0
    go_wp2_with fail
    have HN := Lib.hid (rnewL_any room m w2)
    rw [show max (room : Int) 0 = (room : Int) by omega] at HN
    refine HN.out.mono ?_
    rintro e w3 ⟨v, R, rfl, hf, hr3, hb3⟩
    obtain ⟨a1, c1, rfl⟩ := slice_form hr3.row
    have hs12 := HL0.out.bel.size
    have HDR : Hid (DuelR w1 w3 bl bx L0 (segL room m seg0) a1 c1 R S0 (fun k => w2.heap.size ≤ k ∧ k < w3.heap.size) 0 0) :=
      ⟨HL0.out.log.later hb3, hr3.tight, hf, HL0.out.rel, HL0.out.bnd.more (by omega) (by omega) (by omega), HL0.out.bel.trans (hb3.mono HL0.out.bel.size), fun k hk => ⟨(HL0.out.sub k hk).1, Nat.lt_of_lt_of_le (HL0.out.sub k hk).2 hb3.size⟩, fun k hk => ⟨by omega, hk.2, fun e => by have := (HL0.out.sub k e).2; omega⟩, by rw [HL0.out.mostEq]; omega⟩
    rw [show rlog (.slice a1 R.length c1) (segL room m seg0) = .agg (rcell (segL room m seg0) a1 R.length c1) from rfl]
    have HPL := Lib.hid (play_any HDR.out HT1.out a c P (H.out.later HB1.out) hP60 (by unfold sumO; omega))
    clear hf hr3 hb3 HN HL0 HDR hs12
    go_wp2_with fail
    refine HPL.out.mono ?_
    rintro e w4 ⟨L, M, a4, c4, R4, S, T, s, q, rfl, hd4, hs, hq⟩
    have HD4 := Lib.hid hd4
    clear hd4 HPL
    go_upto_region 7 with fail
    have HX5 : Hid ((w4.alloc (.cells #[.int .i64 M.D.room, .slice a4 R4.length c4, .int .i64 M.D.plan, .bool M.D.down, .int .i64 M.most, .int .i64 M.n, .int .i64 M.size, .int .i64 M.waiting] 34)).heap[w4.heap.size]? = some (.cells #[.int .i64 M.D.room, .slice a4 R4.length c4, .int .i64 M.D.plan, .bool M.D.down, .int .i64 M.most, .int .i64 M.n, .int .i64 M.size, .int .i64 M.waiting] 34 (0, 0))) := heap_alloc_new _ _
    have HD5 := Lib.hid (HD4.out.later ((Below.refl _ _).alloc (Nat.le_refl _) (.cells #[.int .i64 M.D.room, .slice a4 R4.length c4, .int .i64 M.D.plan, .bool M.D.down, .int .i64 M.most, .int .i64 M.n, .int .i64 M.size, .int .i64 M.waiting] 34)))
    have HSB : Hid (¬ S w4.heap.size ∧ ¬ T w4.heap.size) := ⟨fun e => by have := (HD4.out.sS _ e).2; omega, fun e => by have := (HD4.out.sT _ e).2.1; omega⟩
    have HBT : Hid (w1.heap.size ≤ w4.heap.size) := HD4.out.bel.size
    generalize w4.alloc (.cells #[.int .i64 M.D.room, .slice a4 R4.length c4, .int .i64 M.D.plan, .bool M.D.down, .int .i64 M.most, .int .i64 M.n, .int .i64 M.size, .int .i64 M.waiting] 34) = w5 at *
    generalize w4.heap.size = bt at *
    have hba : Below w5.heap.size w5 (w5.alloc (.cells #[.int .i64 1000, .int .i64 1000, .int .i64 1000, .int .i64 1000] 3)) := (Below.refl _ _).alloc (Nat.le_refl _) _
    have HD6 := Lib.hid (HD5.out.later hba)
    have HX6 := Lib.hid ((hba.block _ (lt_of_heap HX5.out)).trans HX5.out)
    have hnm : ∀ f ∈ L.D.files, f.name.size ≤ maxLen := fun f hf => by have := HD5.out.bnd.d.nm f hf; unfold maxLen; omega
    have hlen := HD5.out.bnd.d.len
    have hcr := crash_any (.pointer (some ⟨bx, 0, none⟩)) (some ⟨w5.heap.size, 0, none⟩) 4 [1000, 1000, 1000, 1000] L.D _ (w5.alloc (.cells #[.int .i64 1000, .int .i64 1000, .int .i64 1000, .int .i64 1000] 3)) HD6.out.log.dsk (by omega) hnm (reads4k w5 _ _ _ _ _) (by decide) (by
      intro ad had _ hS
      cases had
      have := (HD5.out.sS _ hS.1).2
      simp only at this
      omega)
    have HCR := Lib.hid hcr
    clear hcr hba HX5
    go_wp2_with fail
    refine HCR.out.mono ?_
    rintro e w6 ⟨ss, ⟨hp1, hp2⟩, rfl, hd6, hc6⟩
    have hrc := rel_crash HD6.out.rel.rel hp1 hp2 [1000, 1000, 1000, 1000]
    have hcb := bnd_crash HD6.out.bnd.d ss [1000, 1000, 1000, 1000] ss.length
    have hrd := recsD_rel hrc rfl
    rw [show (⟨M.D.room, crashF M.D.files [1000, 1000, 1000, 1000], 0, false⟩ : DS).files = crashF M.D.files [1000, 1000, 1000, 1000] from rfl, ← HD6.out.files, ← crashR_f] at hrd
    obtain ⟨D9, hD9⟩ : ∃ D9, D9 = crashN L.D ss [1000, 1000, 1000, 1000] ss.length := ⟨_, rfl⟩
    rw [← hD9] at hd6 hcb hrd
    have HD9 := Lib.hid hd6
    have HCB := Lib.hid hcb
    have HRD := Lib.hid hrd
    have HX7 := Lib.hid (hc6.heap HX6.out (fun e => HSB.out.1 e.1))
    have HR7 := Lib.hid (HD6.out.lst.frame (fun k hk hlt => hc6.block k hlt (fun e => (HD6.out.sT k hk).2.2 e.1)))
    have HB7 := Lib.hid (HD6.out.bel.trans (hc6.toBelow HD6.out.bel.size (fun k hk e => by have := (HD6.out.sS k e.1).1; omega)))
    have HRn : Hid (R4.length ≤ 61) := by
      have h1 := congrArg List.length HD6.out.files
      rw [List.length_map] at h1
      rw [Hid, h1, ← HD6.out.rel.rel.len]; omega
    have HSM : Hid (sumD (crashF (R4.map RF.f) [1000, 1000, 1000, 1000]) ≤ 10000) := by
      have h1 := crashF_sum8 (R4.map RF.f) [1000, 1000, 1000, 1000]
      have h2 : sumD (R4.map RF.f) = sumD L.D.files := by rw [HD6.out.files, ← HD6.out.rel.rel.sum]
      have h3 := HD6.out.bnd.d.sum
      rw [Hid]; omega
    have HSS : Hid (∀ k, S k → k < w5.heap.size) := fun k hk => (HD5.out.sS k hk).2
    have HTT : Hid (∀ k, T k → k < w5.heap.size ∧ ¬ S k) := fun k hk => (HD5.out.sT k hk).2
    clear hp1 hp2 hd6 hrc hcb hrd HCR hD9 hnm hlen HD5 HD6 HX6 HD4
    obtain ⟨x0, x1, x2, x3, x4, x5, x6, x7⟩ := cells8w HX7.out
    have hbb : Below w6.heap.size w6 (w6.alloc (.cells #[.int .i64 1000, .int .i64 1000, .int .i64 1000, .int .i64 1000] 3)) := (Below.refl _ _).alloc (Nat.le_refl _) _
    have HRC := Lib.hid (rcrash_any M.D.room M.D.plan M.D.down (.slice a4 R4.length c4) R4 T (some ⟨w6.heap.size, 0, none⟩) 4 [1000, 1000, 1000, 1000] (w6.alloc (.cells #[.int .i64 1000, .int .i64 1000, .int .i64 1000, .int .i64 1000] 3)) (HR7.out.below hbb) (by have := HRn.out; omega) (reads4k w6 _ _ _ _ _) (by decide))
    unfold rdisk at HRC
    have HBB := Lib.hid hbb
    clear hbb
    go_wp2_with fail
    refine HRC.out.mono ?_
    rintro e w7 ⟨v8, rfl, hr8, hb8⟩
    obtain ⟨a8, c8, rfl⟩ := slice_form hr8.row
    have hb67 : Below w6.heap.size w6 w7 := HBB.out.trans (hb8.mono (by simp only [World.size_alloc]; omega))
    have HX8 := Lib.hid ((hb67.block _ (lt_of_heap HX7.out)).trans HX7.out)
    have hbt6 := lt_of_heap HX7.out
    have h60 := HB7.out.size
    have HS8 : Hid (((((w7.setCell ⟨bt, 0, none⟩ (.int .i64 M.D.room)).setCell ⟨bt, 1, none⟩ (.slice a8 (crashR R4 [1000, 1000, 1000, 1000]).length c8)).setCell ⟨bt, 2, none⟩ (.int .i64 0)).setCell ⟨bt, 3, none⟩ (.bool false)).heap[bt]? = some (.cells #[.int .i64 M.D.room, .slice a8 (crashR R4 [1000, 1000, 1000, 1000]).length c8, .int .i64 0, .bool false, .int .i64 M.most, .int .i64 M.n, .int .i64 M.size, .int .i64 M.waiting] 34 (0, 0))) := by
      have H0 : (w7.setCell ⟨bt, 0, none⟩ (.int .i64 M.D.room)).heap[bt]? = some (.cells #[.int .i64 M.D.room, .slice a4 R4.length c4, .int .i64 M.D.plan, .bool M.D.down, .int .i64 M.most, .int .i64 M.n, .int .i64 M.size, .int .i64 M.waiting] 34 (0, 0)) := heap_store HX8.out 0 _
      have H1 : ((w7.setCell ⟨bt, 0, none⟩ (.int .i64 M.D.room)).setCell ⟨bt, 1, none⟩ (.slice a8 (crashR R4 [1000, 1000, 1000, 1000]).length c8)).heap[bt]? = some (.cells #[.int .i64 M.D.room, .slice a8 (crashR R4 [1000, 1000, 1000, 1000]).length c8, .int .i64 M.D.plan, .bool M.D.down, .int .i64 M.most, .int .i64 M.n, .int .i64 M.size, .int .i64 M.waiting] 34 (0, 0)) := heap_store H0 1 _
      have H2 : (((w7.setCell ⟨bt, 0, none⟩ (.int .i64 M.D.room)).setCell ⟨bt, 1, none⟩ (.slice a8 (crashR R4 [1000, 1000, 1000, 1000]).length c8)).setCell ⟨bt, 2, none⟩ (.int .i64 0)).heap[bt]? = some (.cells #[.int .i64 M.D.room, .slice a8 (crashR R4 [1000, 1000, 1000, 1000]).length c8, .int .i64 0, .bool M.D.down, .int .i64 M.most, .int .i64 M.n, .int .i64 M.size, .int .i64 M.waiting] 34 (0, 0)) := heap_store H1 2 _
      exact heap_store H2 3 _
    have HC8 : Hid (Chg (fun k => k = bt) w7 ((((w7.setCell ⟨bt, 0, none⟩ (.int .i64 M.D.room)).setCell ⟨bt, 1, none⟩ (.slice a8 (crashR R4 [1000, 1000, 1000, 1000]).length c8)).setCell ⟨bt, 2, none⟩ (.int .i64 0)).setCell ⟨bt, 3, none⟩ (.bool false))) := ((((Chg.refl (fun k => k = bt) w7).setCell (p := ⟨bt, 0, none⟩) (.inl rfl) _).setCell (p := ⟨bt, 1, none⟩) (.inl rfl) _).setCell (p := ⟨bt, 2, none⟩) (.inl rfl) _).setCell (p := ⟨bt, 3, none⟩) (.inl rfl) _
    have HR8 := Lib.hid (hr8.frame (fun k hk hlt => HC8.out.block k hlt (fun e => by
      have e2 : k = bt := e
      subst e2
      rcases hk with hk | hk
      · exact HSB.out.2 hk
      · simp only [World.size_alloc] at hk; omega)))
    have HD8 := Lib.hid ((HD9.out.tight.frame (fun k hk hlt => hb67.block k hlt)).frame (fun k hk hlt => HC8.out.block k hlt (fun e => by
      have e2 : k = bt := e
      exact HSB.out.1 (by rw [← e2]; exact hk.1.1))))
    have HB8 := Lib.hid (HB7.out.trans ((hb67.mono h60).trans (HC8.out.toBelow (Nat.le_trans h60 hb67.size) (fun k hk e => by have e2 : k = bt := e; have := HBT.out; omega))))
    obtain ⟨x0', x1', x2', x3', x4', x5', x6', x7'⟩ := cells8w HX8.out
    have q0 := freeAt HX8.out 0
    have q1 := freeAt HX8.out 1
    have q2 := freeAt HX8.out 2
    have q3 := freeAt HX8.out 3
    clear hr8 hb8 hb67 hbt6 h60 HRC HD9 HX7 HR7 HB7 x0 x1 x2 x3 x4 x5 x6 x7 HBB HC8
    go_upto_region 9 with fail
    generalize ((((w7.setCell ⟨bt, 0, none⟩ (.int .i64 M.D.room)).setCell ⟨bt, 1, none⟩ (.slice a8 (crashR R4 [1000, 1000, 1000, 1000]).length c8)).setCell ⟨bt, 2, none⟩ (.int .i64 0)).setCell ⟨bt, 3, none⟩ (.bool false)) = w8 at *
    clear HX8 x0' x1' x2' x3' x4' x5' x6' x7' q0 q1 q2 q3
    have hrn := HRn.out
    have hnm9 : ∀ f ∈ D9.files, f.name.size ≤ maxLen := fun f hf => by have := HCB.out.nm f hf; unfold maxLen; omega
    have hln9 := HCB.out.len
    have hsm9 := HCB.out.sum
    have HAL : Hid (∀ w', Hid (Below w8.heap.size w8 w') → Calls Tryz.prog 15 #[] w' fun e w'' => e = .returned (.bool true) ∧ Below w'.heap.size w' w'') := fun w' hb =>
      alive_any w' (tab_below HT1.out (HB8.out.trans (hb.out.mono HB8.out.size)))
    have HRE : Hid (∀ w', Hid (Below w8.heap.size w8 w') → Calls Tryz.prog 22 #[.pointer (some ⟨bx, 0, none⟩)] w' (RecsP w' D9)) := fun w' hb =>
      records_any _ D9 _ w' (HD8.out.frame (fun k hk hlt => hb.out.block k hlt)) (tab_below HT1.out (HB8.out.trans (hb.out.mono HB8.out.size))) (by omega) (by omega) hnm9
    have hRb : ∀ r ∈ crashR R4 [1000, 1000, 1000, 1000], r.f.b.length ≤ 100000 := fun r hr => by
      have h1 : r.f ∈ crashF (R4.map RF.f) [1000, 1000, 1000, 1000] := by rw [← crashR_f]; exact List.mem_map_of_mem hr
      have h2 := len_le_sum h1
      have h3 := HSM.out
      omega
    have HRR : Hid (∀ w', Hid (Below w8.heap.size w8 w') → Calls Tryz.prog 23 #[.agg #[.int .i64 M.D.room, .slice a8 (crashR R4 [1000, 1000, 1000, 1000]).length c8, .int .i64 0, .bool false]] w' (RRecG w' (crashR R4 [1000, 1000, 1000, 1000]))) := fun w' hb =>
      rrecords_gen M.D.room 0 false _ (crashR R4 [1000, 1000, 1000, 1000]) _ w' (HR8.out.below hb.out) (by rw [crashR_length]; omega) hRb
    have HK : Hid (∀ w', Hid (Below w8.heap.size w8 w') → w'.cell? ⟨bt, 0, none⟩ = some (.int .i64 M.D.room) ∧ w'.cell? ⟨bt, 1, none⟩ = some (.slice a8 (crashR R4 [1000, 1000, 1000, 1000]).length c8) ∧ w'.cell? ⟨bt, 2, none⟩ = some (.int .i64 0) ∧ w'.cell? ⟨bt, 3, none⟩ = some (.bool false)) := fun w' hb => by
      have hx := (hb.out.block _ (lt_of_heap HS8.out)).trans HS8.out
      exact ⟨cellAt hx 0 rfl, cellAt hx 1 rfl, cellAt hx 2 rfl, cellAt hx 3 rfl⟩
    have HB00 : Hid (Below w8.heap.size w8 w8.drew) := (Below.refl _ _).drew
    generalize crashR R4 [1000, 1000, 1000, 1000] = R8 at *
    clear hRb hrn hnm9 hln9 hsm9 HS8 HR8 HD8 HCB
    go_region_held3 (fun w' => w'.cell? ⟨bt, 0, none⟩ = some (.int .i64 M.D.room) ∧ w'.cell? ⟨bt, 1, none⟩ = some (.slice a8 R8.length c8) ∧ w'.cell? ⟨bt, 2, none⟩ = some (.int .i64 0) ∧ w'.cell? ⟨bt, 3, none⟩ = some (.bool false)) (exact HK.out _ (by assumption))
      (first
      | (go_at_call 15; refine (HAL.out _ (by assumption)).mono ?_; rintro e wa ⟨rfl, hba⟩
         have HBa := belh_step (w0 := w8) (by assumption) hba
         clear hba)
      | (go_at_call 22; refine (HRE.out _ (by assumption)).mono ?_; rintro e wb ⟨vb, Xb, rfl, hrowb, hxb, heb, hlb, hbb⟩
         have HBb := belh_step (w0 := w8) (by assumption) hbb
         have HSb := Lib.hid (sls_rx hrowb hxb)
         have HEb : Hid ((Xb.map slOf).map SL.l = recsF (R8.map RF.f)) := by rw [Hid, List.map_map, ← HRD.out, ← heb]; rfl
         have HLb : Hid ((Xb.map slOf).length ≤ 1000000000) := by rw [Hid, List.length_map]; omega
         clear hrowb hxb heb hlb hbb)
      | (go_at_call 23; refine (HRR.out _ (by assumption)).mono ?_; rintro e wc ⟨vc, Xc, rfl, hrowc, hxc, hec, hlc, hbc⟩
         have HBc := belh_step (w0 := w8) (by assumption) hbc
         have HSc : Hid (SLs wc vc Xc) := ⟨hrowc.reads, fun x hx => (hxc x hx).2.later hbc⟩
         have HSbc := Lib.hid (HSb.out.later hbc)
         have HEc : Hid (Xc.map SL.l = recsF (R8.map RF.f)) := hec
         clear hrowc hxc hec hlc hbc)
      | (go_at_call 21; refine (rsameL_any _ _ _ _ _ HSbc.out HSc.out (by rw [HEb.out, HEc.out]) HLb.out).mono ?_; rintro e wd ⟨rfl, hbd⟩
         have HBd := belh_step (w0 := w8) HBc hbd
         clear hbd))
    all_goals
      go_wp2
      go_ret
      exact ⟨rfl, HB1.out.trans ((HB8.out.trans (HBd.out.mono HB8.out.size)).mono HB1.out.size)⟩
end Go.Proofs.YtgdmdbdljmlkkaaGreatDoor
