/- DLive, Rf6 -/
import Derived.Test.YtgdmdbdljmlkkaaGreatDoorTz11
set_option maxRecDepth 100000
set_option linter.unusedVariables false
set_option linter.unusedSimpArgs false
namespace Go.Proofs.YtgdmdbdljmlkkaaGreatDoor
open Go.RowKit
def cutN (f : DF) (k : Option Int) : Nat := match k with
 | some k => (min (max k 0) ((f.b.length : Int) - f.d)).toNat
 | none => 0
def crashStep (D : DS) (n : ByteArray) (k : Option Int) : DS := match findD D.files n with
 | some f => { D with files := setD D.files n (f.b.take (f.d + cutN f k)) (f.d + cutN f k) }
 | none => D
def crashN (D : DS) (ss : List (List UInt8)) (ks : List Int) : Nat → DS
 | 0 => { D with plan := 0, down := false }
 | m + 1 => match ss[m]? with
   | some s => crashStep (crashN D ss ks m) ⟨s.toArray⟩ ks[m]?
   | none => crashN D ss ks m
theorem crashStep_names (D : DS) (n : ByteArray) (k : Option Int) : (crashStep D n k).files.map DF.name = D.files.map DF.name := by
 unfold crashStep
 split
 · exact setD_names _ _ _ _
 · rfl
theorem crashN_names (D : DS) (ss : List (List UInt8)) (ks : List Int) : ∀ m, (crashN D ss ks m).files.map DF.name = D.files.map DF.name
 | 0 => rfl
 | m + 1 => by
   rw [crashN]
   split
   · rw [crashStep_names, crashN_names D ss ks m]
   · exact crashN_names D ss ks m
theorem DAt.set0 {w w' : World} {D : DS} {S : Nat → Prop} {bx bm : Nat} {col : Nat → Option ByteArray} {pv : ByteArray → Nat} (h : DAt w D S bx bm col pv) {n : ByteArray} {b : List UInt8} {d : Nat} (hch : Chg (fun k => S k ∧ col k = some n) w w') (hfr : FRep w' (pv n) b d (fun k => S k ∧ col k = some n)) :
   DAt w' { D with files := setD D.files n b d } S bx bm col pv where
 blk := (hch.block bx (lt_of_heap h.blk) (fun e => by rw [h.cx.1] at e; cases e.2)).trans h.blk
 mp := by
   have e : fmap (setD D.files n b d) pv = fmap D.files pv := by
     funext x
     unfold fmap
     rw [findD_setD, Option.map_map]
     rfl
   rw [e]
   exact h.mp.frame (hch.block bm h.mp.lt (fun e => by rw [h.cx.2] at e; cases e.2))
 fl := by
   intro f hf
   rcases setD_mem hf with ⟨rfl, -⟩ | ⟨h1, h2⟩
   · exact hfr
   · exact (h.fl f h1).frame (fun k hk hl => hch.block k hl (fun e => by rw [hk.2] at e; exact h2 (Option.some.inj e.2)))
 nd := by rw [setD_names]; exact h.nd
 sx := h.sx
 cx := h.cx
 ne := h.ne
theorem Row.shrink {w : World} {e : TypeId} {a : Option Addr} {n c : Nat} {xs : List Value} {S : Nat → Prop} (h : Row w e 1 (.slice a n c) n xs S) (i : Nat) (hi : i ≤ n) : Row w e 1 (.slice a i c) i (xs.take i) S := by
 obtain ⟨hl, h2⟩ := h
 refine ⟨by rw [List.length_take, hl]; omega, ?_⟩
 rcases h2 with ⟨h, hn⟩ | ⟨g, off, cap, cur, hv, hS, hg, hn, hm, hs, ht⟩
 · cases h
   exact .inl ⟨by congr 1; omega, by omega⟩
 · cases hv
   refine .inr ⟨g, off, c, cur, rfl, hS, hg, by omega, hm, hs, ?_⟩
   rw [← ht, List.take_take]
   congr 1
   omega
set_option maxHeartbeats 2000000 in
theorem crash_any (x : Value) (ka : Option Addr) (kc : Nat) (ks : List Int) (D : DS) (S : Nat → Prop) (w : World) (h : DRep w x D S) (hl : D.files.length ≤ 100000) (hnm : ∀ f ∈ D.files, f.name.size ≤ maxLen)
   (hk : Reads w (.slice ka ks.length kc) ks.length 1 (ks.map (Value.int .i64))) (hkl : ks.length ≤ 100000) (hnk : ∀ ad, ka = some ad → 0 < ks.length → ¬ S ad.block) :
   Calls Tryz.prog 19 #[x, .slice ka ks.length kc] w fun e w' => ∃ ss : List (List UInt8), (ss.Pairwise (· < ·) ∧ ∀ s : List UInt8, s ∈ ss ↔ ⟨s.toArray⟩ ∈ D.files.map DF.name) ∧
     e = .returned (.tuple #[]) ∧ DRep w' x (crashN D ss ks ss.length) S ∧ Chg S w w' := by
 obtain ⟨bx, bm, col, pv, rfl, h⟩ := h
 have H := Lib.hid h.tight
 have HK := Lib.hid hk
 have HNK := Lib.hid hnk
 have hc2 := cellAt h.blk 2 (v := .int .i64 D.plan) rfl
 have hc3 := cellAt h.blk 3 (v := .bool D.down) rfl
 have hf2 := freeAt h.blk 2
 have hf3 := freeAt h.blk 3
 have HB := Lib.hid (heap_store (heap_store h.blk 2 (.int .i64 0)) 3 (.bool false))
 have HC : Hid (Chg (fun k => k = bx) w ((w.setCell ⟨bx, 2, none⟩ (.int .i64 0)).setCell ⟨bx, 3, none⟩ (.bool false))) := ((Chg.refl (fun k => k = bx) _).setCell (p := ⟨bx, 2, none⟩) (.inl rfl) _).setCell (p := ⟨bx, 3, none⟩) (.inl rfl) _
 have HD1 := Lib.hid (H.out.head { D with plan := 0, down := false } rfl HB.out HC.out)
 have HCS := Lib.hid (HC.out.mono (T := fun k => S k ∧ k < w.heap.size) (fun k hk => by rw [hk]; exact H.out.sx.1))
 clear h hk hnk
 go_enter Tryz.func19, Tryz.ntmps19
 go_upto_region 2 with fail
 generalize ((w.setCell ⟨bx, 2, none⟩ (.int .i64 0)).setCell ⟨bx, 3, none⟩ (.bool false)) = wa at *
 clear hc2 hc3 hf2 hf3 HB HC
 have HLI := Lib.hid (list_any (.pointer (some ⟨bx, 0, none⟩)) { D with plan := 0, down := false } _ wa ⟨bx, bm, col, pv, rfl, HD1.out⟩ hl hnm)
 go_wp2_with fail
 refine HLI.out.mono ?_
 rintro e w2 ⟨v, ss, rfl, hr, hb, hsort, hmem⟩
 obtain ⟨a0, c0, rfl, hc0⟩ : ∃ a0 c0, v = .slice a0 ss.length c0 ∧ ss.length ≤ c0 := by obtain ⟨-, a0, c0, h, hle, -⟩ := hr.reads; exact ⟨a0, c0, h, hle⟩
 have hml : ss.length ≤ maxLen := by
   rcases hr.2 with ⟨_, h0⟩ | ⟨g, off, cap, cur, hv, _, _, hn, hm, _⟩
   · rw [h0]; unfold maxLen; omega
   · omega
 unfold maxLen at hml
 have HR := Lib.hid hr
 have HSO := Lib.hid hsort
 have HME := Lib.hid hmem
 have HD2 := Lib.hid (HD1.out.frame (fun k _ hk => hb.block k hk))
 have HC2 := Lib.hid (HCS.out.trans (Chg.ofBelow (S := fun k => S k ∧ k < w.heap.size) hb) (fun k hk => .inl hk))
 have hsz := HCS.out.size
 have hsz2 := hb.size
 clear HLI hr hb hsort hmem HD1
 go_wp2_with fail
 go_loopw [19] (fun i w' => ∃ m : Nat, m ≤ ss.length ∧ i = .int .i64 m ∧ Hid (DAt w' (crashN D ss ks m) (fun k => S k ∧ k < w.heap.size) bx bm col pv) ∧ Hid (Chg (fun k => S k ∧ k < w.heap.size) w2 w')) (fun i _ => ss.length - (RowKit.intOf i).toNat)
 case atStart => exact ⟨0, by omega, rfl, HD2, Chg.refl _ _⟩
 case round =>
   obtain ⟨m, hm, rfl, HDm, HCm⟩ := hrel
   by_cases hlt : m < ss.length
   · have hrow := (HR.out.frame (w' := wr) (fun k hk hl => HCm.out.block k hl (fun e => by omega))).reads
     obtain ⟨b, o, c', hv, -, -, hcn⟩ := hrow.at (by omega)
     cases hv
     have hn0 : wr.cell? ⟨b, o + m, none⟩ = some (.string ⟨ss[m].toArray⟩) := hcn m _ (by rw [List.getElem?_map, List.getElem?_eq_getElem hlt]; rfl)
     have hin : (⟨ss[m].toArray⟩ : ByteArray) ∈ (crashN D ss ks m).files.map DF.name := by
       rw [crashN_names]; exact (HME.out ss[m]).1 (List.getElem_mem hlt)
     obtain ⟨n, hn⟩ : ∃ n, n = (⟨ss[m].toArray⟩ : ByteArray) := ⟨_, rfl⟩
     have HCR : Hid (crashN D ss ks (m + 1) = crashStep (crashN D ss ks m) n ks[m]?) := by
       rw [Hid, crashN, List.getElem?_eq_getElem hlt, hn]
     rw [← hn] at hn0 hin
     clear hn hcn hrow
     obtain ⟨f, hf⟩ : ∃ f, findD (crashN D ss ks m).files n = some f := by
       cases hf : findD (crashN D ss ks m).files n with
       | none => exact absurd hin (findD_none.1 hf)
       | some f => exact ⟨f, rfl⟩
     have hlk := look_f HDm.out.mp n false
     rw [fmap_some hf] at hlk
     simp only [Bool.false_eq_true, if_false] at hlk
     have hx1 := cellAt HDm.out.blk 1 (v := .map (some bm)) rfl
     obtain ⟨hfn, hfm⟩ := findD_name hf
     have hfr := HDm.out.fl f hfm
     rw [hfn] at hfr
     obtain ⟨a, c, T, h1, h2, h3, h4, h5, h6, h7⟩ := hfr
     unfold maxLen at h7
     have hp0 := cellAt h1 0 (v := .slice a f.b.length c) rfl
     have hp1 := cellAt h1 1 (v := .int .i64 f.d) rfl
     have hf0 := freeAt h1 0
     have hf1 := freeAt h1 1
     have hcap : f.b.length ≤ c := by obtain ⟨-, a', c', h, hle, -⟩ := h2.reads; cases h; exact hle
     have HF1 := Lib.hid h1
     have HROW := Lib.hid h2
     have HT3 := Lib.hid h3
     have HT4 := Lib.hid h4
     have HT5 := Lib.hid h5
     have HKr := Lib.hid ((HK.out.chg (HC2.out.trans HCm.out (fun k hk => .inl hk)) (fun ad had hp e => HNK.out ad had (by rwa [List.length_map] at hp) e.1)))
     have HFD := Lib.hid hf
     clear h1 h2 h3 h4 h5 hfn hfm hin hf
     have HCRQ : Hid (crashN D ss ks (m + 1) = { crashN D ss ks m with files := setD (crashN D ss ks m).files n (f.b.take (f.d + cutN f ks[m]?)) (f.d + cutN f ks[m]?) }) := by
       rw [Hid, HCR.out, crashStep, HFD.out]
     by_cases hkm : m < ks.length
     · obtain ⟨kb, ko, c', hv, -, -, hcn⟩ := HKr.out.at (by omega)
       cases hv
       have hk0 : wr.cell? ⟨kb, ko + m, none⟩ = some (.int .i64 ks[m]) := hcn m _ (by rw [List.getElem?_map, List.getElem?_eq_getElem hkm]; rfl)
       clear hcn
       go_upto_region 7 with fail
       go_quiet (fail)
       obtain ⟨q, hq⟩ : ∃ q, q = cutN f ks[m]? := ⟨_, rfl⟩
       have hz : min (max ks[m] 0) ((f.b.length : Int) - f.d) = (q : Int) := by
         rw [hq, List.getElem?_eq_getElem hkm]; unfold cutN; simp only; omega
       rw [hz]
       rw [← hq] at HCRQ
       have hqle : f.d + q ≤ f.b.length := by
         rw [hq]; unfold cutN; split <;> omega
       obtain ⟨r, hr⟩ : ∃ r, r = f.d + q := ⟨_, rfl⟩
       have hwr : IntKind.i64.wrap ((f.d : Int) + (q : Int)) = (r : Int) := by rw [IntWalk.i64_in _ (by omega), hr]; omega
       have hrc : (r : Int) ≤ (c : Int) := by omega
       have hrl : r ≤ f.b.length := by omega
       rw [← hr] at HCRQ
       clear hr hqle
       have HDq : Hid (DAt (wr.drewN nq) (crashN D ss ks m) (fun k => S k ∧ k < w.heap.size) bx bm col pv) := HDm.out.frame (fun _ _ _ => rfl)
       have HFq : Hid ((wr.drewN nq).heap[pv n]? = some (.cells #[.slice a f.b.length c, .int .i64 f.d] 118 (0, 0))) := HF1.out
       have HRq : Hid (Row (wr.drewN nq) 5 1 (.slice a f.b.length c) f.b.length (byts f.b) T) := HROW.out.frame (fun _ _ _ => rfl)
       have HCq : Hid (Chg (fun k => S k ∧ k < w.heap.size) w2 (wr.drewN nq)) := HCm.out.drewN nq
       clear hp0 hp1 hf0 hf1 hk0 hz hq hlk hx1 hn0 HF1 HROW HDm HCm HKr
       generalize wr.drewN nq = wq at *
       have hp0 := cellAt HFq.out 0 (v := .slice a f.b.length c) rfl
       have hp1 := cellAt HFq.out 1 (v := .int .i64 f.d) rfl
       have hf0 := freeAt HFq.out 0
       go_upto_region 8 with fail
       go_region_law (fail)
       all_goals
         have HS1 : Hid ((wq.setCell ⟨pv n, 0, none⟩ (.slice a r c)).drew.heap[pv n]? = _) := heap_store HFq.out 0 (.slice a r c)
         have HC1 : Hid (Chg (fun k => (S k ∧ k < w.heap.size) ∧ col k = some n) wq (wq.setCell ⟨pv n, 0, none⟩ (.slice a r c)).drew) := ((Chg.refl _ _).setCell (p := ⟨pv n, 0, none⟩) (.inl HT3.out) _).drew
         have HO5 : Hid (∀ k, k ≠ pv n → (wq.setCell ⟨pv n, 0, none⟩ (.slice a r c)).drew.heap[k]? = wq.heap[k]?) := fun k hne => Below.heap_setCell _ _ _ _ hne
         generalize (wq.setCell ⟨pv n, 0, none⟩ (.slice a r c)).drew = w5 at *
         have hq0 := cellAt HS1.out 0 (v := .slice a r c) rfl
         have hq1 := cellAt HS1.out 1 (v := .int .i64 f.d) rfl
         have hg1 := freeAt HS1.out 1
         clear hp0 hp1 hf0 hwr
         have HS2 := Lib.hid (heap_store HS1.out 1 (.int .i64 r))
         have HC3 : Hid (Chg (fun k => (S k ∧ k < w.heap.size) ∧ col k = some n) wq (w5.setCell ⟨pv n, 1, none⟩ (.int .i64 r))) := HC1.out.setCell (p := ⟨pv n, 1, none⟩) (.inl HT3.out) _
         have HC3O : Hid (∀ k, k < wq.heap.size → k ≠ pv n → (w5.setCell ⟨pv n, 1, none⟩ (.int .i64 r)).heap[k]? = wq.heap[k]?) := fun k hl hne => (Below.heap_setCell _ _ _ _ hne).trans (HO5.out k hne)
         have HFR : Hid (FRep (w5.setCell ⟨pv n, 1, none⟩ (.int .i64 r)) (pv n) (f.b.take r) r (fun k => (S k ∧ k < w.heap.size) ∧ col k = some n)) := by
           have hlen : (f.b.take r).length = r := by rw [List.length_take]; omega
           refine ⟨a, c, T, by rw [hlen]; exact HS2.out, ?_, HT3.out, HT4.out, HT5.out, by omega, by unfold maxLen; omega⟩
           rw [hlen, show byts (f.b.take r) = (byts f.b).take r from List.map_take]
           exact (HRq.out.shrink r hrl).frame (fun k hk hl => by
             have hT := HT5.out k hk
             have hne : k ≠ pv n := fun e => by subst e; exact HT4.out hk
             exact HC3O.out k hl hne)
         have HN := Lib.hid (HDq.out.set0 HC3.out HFR.out)
         have HCN := Lib.hid (HCq.out.trans (HC3.out.mono (T := fun k => S k ∧ k < w.heap.size) (fun k hk => hk.1)) (fun k hk => .inl hk))
         rw [← HCRQ.out] at HN
         go_wp2
         go_roundw
         case rel => exact ⟨m + 1, by omega, by go_num, HN, HCN⟩
         case measure => simp [RowKit.intOf]; omega
     · have hz : cutN f ks[m]? = 0 := by rw [List.getElem?_eq_none (by omega)]; rfl
       have hwr0 : IntKind.i64.wrap (f.d : Int) = (f.d : Int) := IntWalk.i64_in _ (by omega)
       have hrc : (f.d : Int) ≤ (c : Int) := by omega
       have hrl : f.d ≤ f.b.length := h6
       have HCRQ := Lib.hid (show crashN D ss ks (m + 1) = { crashN D ss ks m with files := setD (crashN D ss ks m).files n (f.b.take f.d) f.d } by rw [HCRQ.out, hz]; rfl)
       go_upto_region 8 with fail
       have HDq : Hid (DAt wr (crashN D ss ks m) (fun k => S k ∧ k < w.heap.size) bx bm col pv) := HDm
       have HFq : Hid (wr.heap[pv n]? = some (.cells #[.slice a f.b.length c, .int .i64 f.d] 118 (0, 0))) := HF1
       have HRq : Hid (Row wr 5 1 (.slice a f.b.length c) f.b.length (byts f.b) T) := HROW
       have HCq : Hid (Chg (fun k => S k ∧ k < w.heap.size) w2 wr) := HCm
       clear hp1 hf1 hz hlk hx1 hn0 HF1 HROW HDm HCm HKr
       have hp1 := cellAt HFq.out 1 (v := .int .i64 f.d) rfl
       generalize wr = wq at *
       go_region_law (fail)
       all_goals
         have HS1 : Hid ((wq.setCell ⟨pv n, 0, none⟩ (.slice a f.d c)).drew.heap[pv n]? = _) := heap_store HFq.out 0 (.slice a f.d c)
         have HC1 : Hid (Chg (fun k => (S k ∧ k < w.heap.size) ∧ col k = some n) wq (wq.setCell ⟨pv n, 0, none⟩ (.slice a f.d c)).drew) := ((Chg.refl _ _).setCell (p := ⟨pv n, 0, none⟩) (.inl HT3.out) _).drew
         have HO5 : Hid (∀ k, k ≠ pv n → (wq.setCell ⟨pv n, 0, none⟩ (.slice a f.d c)).drew.heap[k]? = wq.heap[k]?) := fun k hne => Below.heap_setCell _ _ _ _ hne
         generalize (wq.setCell ⟨pv n, 0, none⟩ (.slice a f.d c)).drew = w5 at *
         have hq0 := cellAt HS1.out 0 (v := .slice a f.d c) rfl
         have hq1 := cellAt HS1.out 1 (v := .int .i64 f.d) rfl
         have hg1 := freeAt HS1.out 1
         clear hp0 hp1 hf0 hwr0
         have HS2 := Lib.hid (heap_store HS1.out 1 (.int .i64 f.d))
         have HC3 : Hid (Chg (fun k => (S k ∧ k < w.heap.size) ∧ col k = some n) wq (w5.setCell ⟨pv n, 1, none⟩ (.int .i64 f.d))) := HC1.out.setCell (p := ⟨pv n, 1, none⟩) (.inl HT3.out) _
         have HC3O : Hid (∀ k, k < wq.heap.size → k ≠ pv n → (w5.setCell ⟨pv n, 1, none⟩ (.int .i64 f.d)).heap[k]? = wq.heap[k]?) := fun k hl hne => (Below.heap_setCell _ _ _ _ hne).trans (HO5.out k hne)
         have HFR : Hid (FRep (w5.setCell ⟨pv n, 1, none⟩ (.int .i64 f.d)) (pv n) (f.b.take f.d) f.d (fun k => (S k ∧ k < w.heap.size) ∧ col k = some n)) := by
           have hlen : (f.b.take f.d).length = f.d := by rw [List.length_take]; omega
           refine ⟨a, c, T, by rw [hlen]; exact HS2.out, ?_, HT3.out, HT4.out, HT5.out, by omega, by unfold maxLen; omega⟩
           rw [hlen, show byts (f.b.take f.d) = (byts f.b).take f.d from List.map_take]
           exact (HRq.out.shrink f.d hrl).frame (fun k hk hl => by
             have hT := HT5.out k hk
             have hne : k ≠ pv n := fun e => by subst e; exact HT4.out hk
             exact HC3O.out k hl hne)
         have HN := Lib.hid (HDq.out.set0 HC3.out HFR.out)
         have HCN := Lib.hid (HCq.out.trans (HC3.out.mono (T := fun k => S k ∧ k < w.heap.size) (fun k hk => hk.1)) (fun k hk => .inl hk))
         rw [← HCRQ.out] at HN
         go_wp2
         go_roundw
         case rel => exact ⟨m + 1, by omega, by go_num, HN, HCN⟩
         case measure => simp [RowKit.intOf]; omega
   · obtain rfl : m = ss.length := by omega
     go_wp2
     go_end0
     exact ⟨ss, ⟨HSO.out, HME.out⟩, rfl, ⟨bx, bm, col, pv, rfl, HDm.out.mono (fun k hk => hk.1)⟩, (HC2.out.trans HCm.out (fun k hk => .inl hk)).mono (fun k hk => hk.1)⟩
section
variable {w0 w : World} {x : Value} {D : DS}
end
def cutRF (r : RF) (k : Option Int) : RF := ⟨⟨r.f.name, r.f.b.take (r.f.d + cutN r.f k), r.f.d + cutN r.f k⟩, r.a, r.c⟩
def crashR (R : List RF) (ks : List Int) : List RF := R.mapIdx fun i r => cutRF r ks[i]?
theorem crashR_length (R : List RF) (ks : List Int) : (crashR R ks).length = R.length := List.length_mapIdx ..
theorem crashR_succ {R : List RF} {ks : List Int} {m : Nat} (h : m < R.length) : crashR (R.take (m + 1)) ks = crashR (R.take m) ks ++ [cutRF R[m] ks[m]?] := by
 unfold crashR
 rw [List.take_succ_eq_append_getElem h, List.mapIdx_append]
 congr 1
 simp [List.length_take, Nat.min_eq_left (Nat.le_of_lt h)]
theorem cutN_le (f : DF) (h : f.d ≤ f.b.length) (k : Option Int) : f.d + cutN f k ≤ f.b.length := by
 unfold cutN; split <;> omega
theorem cutRF_ok {w : World} {T : Nat → Prop} {r : RF} (h : okR w T r) (k : Option Int) : okR w T (cutRF r k) := by
 have hle := cutN_le r.f h.2.1 k
 have hlen : (r.f.b.take (r.f.d + cutN r.f k)).length = r.f.d + cutN r.f k := by rw [List.length_take]; omega
 refine ⟨?_, ?_, ?_⟩
 · show Row w _ 1 (.slice r.a (r.f.b.take (r.f.d + cutN r.f k)).length r.c) (r.f.b.take (r.f.d + cutN r.f k)).length (byts (r.f.b.take (r.f.d + cutN r.f k))) T
   rw [hlen, show byts (r.f.b.take (r.f.d + cutN r.f k)) = (byts r.f.b).take (r.f.d + cutN r.f k) from List.map_take]
   exact (show Row w _ 1 (.slice r.a r.f.b.length r.c) _ _ _ from h.1).shrink _ hle
 · show r.f.d + cutN r.f k ≤ (r.f.b.take (r.f.d + cutN r.f k)).length
   omega
 · show (r.f.b.take (r.f.d + cutN r.f k)).length ≤ _
   have := h.2.2
   omega
theorem Row.store {w : World} {e : TypeId} {size : Nat} {v : Value} {n B : Nat} {xs : List Value} (h : Row w e size v n xs (fun k => B ≤ k)) {p : Addr} (hp : p.block < B) (u : Value) : Row (w.setCell p u) e size v n xs (fun k => B ≤ k) :=
 h.frame (fun k hk _ => Below.heap_setCell _ _ _ _ (by omega))
set_option maxHeartbeats 2000000 in
theorem rcrash_any (room plan : Int) (down : Bool) (v : Value) (R : List RF) (T : Nat → Prop) (ka : Option Addr) (kc : Nat) (ks : List Int) (w : World) (h : RLi w v R T) (hL : R.length ≤ 10000)
   (hk : Reads w (.slice ka ks.length kc) ks.length 1 (ks.map (Value.int .i64))) (hkl : ks.length ≤ 100000) :
   Calls Tryz.prog 20 #[rdisk room v plan down, .slice ka ks.length kc] w fun e w' => ∃ v', e = .returned (rdisk room v' 0 false) ∧ RLi w' v' (crashR R ks) (fun k => T k ∨ w.heap.size ≤ k) ∧ Below w.heap.size w w' := by
 obtain ⟨la, lc, rfl⟩ := slice_form h.row
 have H := Lib.hid h
 have HK := Lib.hid hk
 clear h hk
 have HBX : Hid (((w.alloc (.cells #[.int .i64 room, .slice la R.length lc, .int .i64 plan, .bool down] 32)).alloc (.cells #[.int .i64 0, .slice none 0 0, .int .i64 0, .bool false] 32)).heap[w.heap.size]? = some (.cells #[.int .i64 room, .slice la R.length lc, .int .i64 plan, .bool down] 32 (0, 0))) := (alloc2_low w _ _).trans (heap_alloc_new w _)
 have HRX : Hid (((w.alloc (.cells #[.int .i64 room, .slice la R.length lc, .int .i64 plan, .bool down] 32)).alloc (.cells #[.int .i64 0, .slice none 0 0, .int .i64 0, .bool false] 32)).heap[w.heap.size + 1]? = some (.cells #[.int .i64 0, .slice none 0 0, .int .i64 0, .bool false] 32 (0, 0))) := alloc2_high w _ _ (heap_alloc_new _ _)
 have HBel : Hid (Below w.heap.size w ((w.alloc (.cells #[.int .i64 room, .slice la R.length lc, .int .i64 plan, .bool down] 32)).alloc (.cells #[.int .i64 0, .slice none 0 0, .int .i64 0, .bool false] 32))) := ((Below.refl _ _).alloc (Nat.le_refl _) _).alloc (by simp) _
 have HSZ : Hid (((w.alloc (.cells #[.int .i64 room, .slice la R.length lc, .int .i64 plan, .bool down] 32)).alloc (.cells #[.int .i64 0, .slice none 0 0, .int .i64 0, .bool false] 32)).heap.size = w.heap.size + 2) := by simp [Hid]
 go_enter Tryz.func20, Tryz.ntmps20
 go_wp2_with fail
 generalize ((w.alloc (.cells #[.int .i64 room, .slice la R.length lc, .int .i64 plan, .bool down] 32)).alloc (.cells #[.int .i64 0, .slice none 0 0, .int .i64 0, .bool false] 32)) = wd at *
 go_loopw [5, 6] (fun out i w' => ∃ m : Nat, m ≤ R.length ∧ i = .int .i64 m ∧ Hid (Row w' 120 3 out m ((crashR (R.take m) ks).flatMap rcells) (fun k => wd.heap.size ≤ k)) ∧ Hid (Below wd.heap.size wd w')) (fun _ i _ => R.length - (RowKit.intOf i).toNat)
 case atStart => exact ⟨0, by omega, rfl, Row.nil _ _ _ _, Below.refl _ _⟩
 case round =>
   obtain ⟨m, hm, rfl, HO, HB⟩ := hrel
   have HBL := Lib.hid (HBel.out.trans (HB.out.mono HBel.out.size))
   have HBX2 := Lib.hid ((HB.out.block _ (lt_of_heap HBX.out)).trans HBX.out)
   obtain ⟨hx0, hx1, -, -⟩ := cells4 HBX2.out
   by_cases hlt : m < R.length
   · obtain ⟨b, o, c, he, hcap, hb, hcell⟩ := (H.out.below HBL.out).cells (by omega)
     obtain ⟨rfl, rfl⟩ : la = some ⟨b, o, none⟩ ∧ lc = c := by cases he; exact ⟨rfl, rfl⟩
     obtain ⟨hc0, hc1, hc2⟩ := hcell m hlt
     have hx1a := fun ob => (cells4 ((Below.heap_alloc wr ob _ (lt_of_heap HBX2.out)).trans HBX2.out)).2.1
     have hca0 := fun ob => (World.cell?_of_block (a := ⟨b, o + m * 3, none⟩) (Below.heap_alloc wr ob _ hb)).trans hc0
     have hca1 := fun ob => (World.cell?_of_block (a := ⟨b, o + m * 3 + 1, none⟩) (Below.heap_alloc wr ob _ hb)).trans hc1
     have hca2 := fun ob => (World.cell?_of_block (a := ⟨b, o + m * 3 + 2, none⟩) (Below.heap_alloc wr ob _ hb)).trans hc2
     have HOK := Lib.hid ((H.out.below HBL.out).byt R[m] (List.getElem_mem hlt))
     have HS := Lib.hid (crashR_succ (ks := ks) hlt)
     clear hcell he
     generalize R[m] = r at *
     have hlen := HOK.out.2.1
     have hle9 := HOK.out.2.2
     have hcap2 : r.f.b.length ≤ r.c := by
       obtain ⟨-, a', c', h, hle, -⟩ := (show Row wr _ 1 (.slice r.a r.f.b.length r.c) _ _ _ from HOK.out.1).reads
       cases h; exact hle
     have hcap3 : r.c ≤ 9223372036854775807 := by
       rcases (show Row wr _ 1 (.slice r.a r.f.b.length r.c) _ _ _ from HOK.out.1).2 with ⟨h, -⟩ | ⟨g, off, cap, _, h, _, _, h1, h2, _⟩
       · simp only [Value.slice.injEq] at h; omega
       · simp only [Value.slice.injEq] at h; unfold maxLen at h2; omega
     go_upto_region 7 with fail
     have hwrs : wd.heap.size ≤ wr.heap.size := HB.out.size
     have HFA : Hid ((wr.alloc (.cells #[.string r.f.name, .slice r.a r.f.b.length r.c, .int .i64 r.f.d] 120)).heap[wr.heap.size]? = some (.cells #[.string r.f.name, .slice r.a r.f.b.length r.c, .int .i64 r.f.d] 120 (0, 0))) := heap_alloc_new wr _
     have HBA : Hid (Below wd.heap.size wd (wr.alloc (.cells #[.string r.f.name, .slice r.a r.f.b.length r.c, .int .i64 r.f.d] 120))) := HB.out.alloc hwrs _
     have HOA : Hid (Row (wr.alloc (.cells #[.string r.f.name, .slice r.a r.f.b.length r.c, .int .i64 r.f.d] 120)) 120 3 u5 m ((crashR (R.take m) ks).flatMap rcells) (fun k => wd.heap.size ≤ k ∧ k ≠ wr.heap.size)) :=
       (HO.out.tight.frame (fun k _ hk => Below.heap_alloc _ _ _ hk)).mono (fun k hk => ⟨hk.1, by omega⟩)
     have HKA : Hid (Reads (wr.alloc (.cells #[.string r.f.name, .slice r.a r.f.b.length r.c, .int .i64 r.f.d] 120)) (.slice ka ks.length kc) ks.length 1 (ks.map (Value.int .i64))) := HK.out.later (HBL.out.alloc (by have := HBL.out.size; omega) _)
     generalize wr.alloc (.cells #[.string r.f.name, .slice r.a r.f.b.length r.c, .int .i64 r.f.d] 120) = wa at *
     clear hx0 hx1 hc0 hc1 hc2 hx1a hca0 hca1 hca2
     obtain ⟨hy0, hy1, hy2⟩ := cells3 HFA.out
     by_cases hkm : m < ks.length
     · obtain ⟨kb, ko, c', hv, hkc, -, hcn⟩ := HKA.out.at (by omega)
       cases hv
       have hk0 : wa.cell? ⟨kb, ko + m, none⟩ = some (.int .i64 ks[m]) := hcn m _ (by rw [List.getElem?_map, List.getElem?_eq_getElem hkm]; rfl)
       clear hcn
       go_upto_region 8 with fail
       go_quiet (fail)
       obtain ⟨q, hq⟩ : ∃ q, q = cutN r.f ks[m]? := ⟨_, rfl⟩
       have hz : min (max ks[m] 0) ((r.f.b.length : Int) - r.f.d) = (q : Int) := by
         rw [hq, List.getElem?_eq_getElem hkm]; unfold cutN; simp only; omega
       rw [hz]
       have hqle : r.f.d + q ≤ r.f.b.length := by
         rw [hq]; unfold cutN; split <;> omega
       obtain ⟨rr, hrr⟩ : ∃ rr, rr = r.f.d + q := ⟨_, rfl⟩
       have hwr : IntKind.i64.wrap ((r.f.d : Int) + (q : Int)) = (rr : Int) := by rw [IntWalk.i64_in _ (by omega), hrr]; omega
       have hrc : (rr : Int) ≤ (r.c : Int) := by omega
       have HCUT : Hid (r.f.d + cutN r.f ks[m]? = rr) := by rw [Hid, ← hq, hrr]
       clear hrr hqle hz hq
       have HFQ : Hid ((wa.drewN nq).heap[wr.heap.size]? = some (.cells #[.string r.f.name, .slice r.a r.f.b.length r.c, .int .i64 r.f.d] 120 (0, 0))) := HFA.out
       have HBQ : Hid (Below wd.heap.size wd (wa.drewN nq)) := ⟨HBA.out.os, HBA.out.tape, HBA.out.output, HBA.out.size, HBA.out.block⟩
       have HOQ : Hid (Row (wa.drewN nq) 120 3 u5 m ((crashR (R.take m) ks).flatMap rcells) (fun k => wd.heap.size ≤ k ∧ k ≠ wr.heap.size)) := HOA.out.frame (fun _ _ _ => rfl)
       clear hy0 hy1 hy2 hk0 HFA HBA HOA HKA
       generalize wa.drewN nq = wq at *
       obtain ⟨hy0, hy1, hy2⟩ := cells3 HFQ.out
       have hf1 := freeAt HFQ.out 1
       have hf2 := freeAt HFQ.out 2
       go_upto_region 11 with fail
       have HSB := Lib.hid (heap_store (heap_store HFQ.out 1 (.slice r.a rr r.c)) 2 (.int .i64 rr))
       have HBS : Hid (Below wd.heap.size wd ((wq.setCell ⟨wr.heap.size, 1, none⟩ (.slice r.a rr r.c)).setCell ⟨wr.heap.size, 2, none⟩ (.int .i64 rr))) := (HBQ.out.setCell (p := ⟨wr.heap.size, 1, none⟩) hwrs _).setCell (p := ⟨wr.heap.size, 2, none⟩) hwrs _
       have HOS : Hid (Row ((wq.setCell ⟨wr.heap.size, 1, none⟩ (.slice r.a rr r.c)).setCell ⟨wr.heap.size, 2, none⟩ (.int .i64 rr)) 120 3 u5 m ((crashR (R.take m) ks).flatMap rcells) (fun k => wd.heap.size ≤ k ∧ k ≠ wr.heap.size)) :=
         HOQ.out.frame (fun k hk _ => (Below.heap_setCell _ _ _ _ hk.2).trans (Below.heap_setCell _ _ _ _ hk.2))
       generalize ((wq.setCell ⟨wr.heap.size, 1, none⟩ (.slice r.a rr r.c)).setCell ⟨wr.heap.size, 2, none⟩ (.int .i64 rr)) = ws at *
       clear hy0 hy1 hy2 hf1 hf2 HFQ HBQ HOQ
       obtain ⟨hy0, hy1, hy2⟩ := cells3 HSB.out
       have HCE : Hid (rcells (cutRF r ks[m]?) = [.string r.f.name, .slice r.a rr r.c, .int .i64 rr]) := by
         have hlen : (r.f.b.take (r.f.d + cutN r.f ks[m]?)).length = r.f.d + cutN r.f ks[m]? := by have := cutN_le r.f HOK.out.2.1 ks[m]?; rw [List.length_take]; omega
         simp only [Hid, rcells, cutRF]
         rw [hlen, HCUT.out]
       have HFM : Hid ((crashR (R.take (m + 1)) ks).flatMap rcells = (crashR (R.take m) ks).flatMap rcells ++ [.string r.f.name, .slice r.a rr r.c, .int .i64 rr]) := by
         rw [Hid, HS.out, List.flatMap_append, List.flatMap_singleton, HCE.out]
       clear HCE HS HCUT
       generalize crashR (R.take m) ks = CR at *
       go_wp2_with (refine wpList_row elemR rfl rfl (S := fun k => wd.heap.size ≤ k ∧ k ≠ wr.heap.size) (n := m) (xs := CR.flatMap rcells) rfl (HOS.out.frame (fun k _ hk => Below.heap_alloc _ _ _ hk)) (y := .slice (some ⟨ws.heap.size, 0, none⟩) 1 1) (m := 1) (news := [.string r.f.name, .slice r.a rr r.c, .int .i64 rr]) rfl (Reads.single (heap_alloc_new ws _)) (by intro u hu; simp only [List.mem_cons, List.not_mem_nil, or_false] at hu; rcases hu with rfl | rfl | rfl <;> rfl) (by unfold maxLen; omega) (by omega) ?_; intro v5 w5 hr5 hch5)
       go_roundw
       case rel =>
         have hbs := HBS.out.size
         refine ⟨m + 1, by omega, by go_num, ?_, (HBS.out.alloc hbs _).trans (hch5.toBelow (by simp <;> omega) (fun n hn h => by omega))⟩
         rw [Hid, HFM.out]
         exact hr5.mono (fun k hk => by rcases hk with hk | hk; exact hk.1; simp only [World.size_alloc] at hk; omega)
       case measure => simp [RowKit.intOf]; omega
     · have HCUT : Hid (r.f.d + cutN r.f ks[m]? = r.f.d) := by rw [Hid, List.getElem?_eq_none (by omega)]; rfl
       have hwr0 : IntKind.i64.wrap (r.f.d : Int) = (r.f.d : Int) := IntWalk.i64_in _ (by omega)
       have hrc : (r.f.d : Int) ≤ (r.c : Int) := by omega
       have HFQ : Hid (wa.heap[wr.heap.size]? = some (.cells #[.string r.f.name, .slice r.a r.f.b.length r.c, .int .i64 r.f.d] 120 (0, 0))) := HFA.out
       have HBQ : Hid (Below wd.heap.size wd wa) := HBA.out
       have HOQ : Hid (Row wa 120 3 u5 m ((crashR (R.take m) ks).flatMap rcells) (fun k => wd.heap.size ≤ k ∧ k ≠ wr.heap.size)) := HOA.out
       clear hy0 hy1 hy2 HFA HBA HOA HKA
       generalize wa = wq at *
       obtain ⟨hy0, hy1, hy2⟩ := cells3 HFQ.out
       have hf1 := freeAt HFQ.out 1
       have hf2 := freeAt HFQ.out 2
       go_upto_region 11 with fail
       have HSB := Lib.hid (heap_store (heap_store HFQ.out 1 (.slice r.a r.f.d r.c)) 2 (.int .i64 r.f.d))
       have HBS : Hid (Below wd.heap.size wd ((wq.setCell ⟨wr.heap.size, 1, none⟩ (.slice r.a r.f.d r.c)).setCell ⟨wr.heap.size, 2, none⟩ (.int .i64 r.f.d))) := (HBQ.out.setCell (p := ⟨wr.heap.size, 1, none⟩) hwrs _).setCell (p := ⟨wr.heap.size, 2, none⟩) hwrs _
       have HOS : Hid (Row ((wq.setCell ⟨wr.heap.size, 1, none⟩ (.slice r.a r.f.d r.c)).setCell ⟨wr.heap.size, 2, none⟩ (.int .i64 r.f.d)) 120 3 u5 m ((crashR (R.take m) ks).flatMap rcells) (fun k => wd.heap.size ≤ k ∧ k ≠ wr.heap.size)) :=
         HOQ.out.frame (fun k hk _ => (Below.heap_setCell _ _ _ _ hk.2).trans (Below.heap_setCell _ _ _ _ hk.2))
       generalize ((wq.setCell ⟨wr.heap.size, 1, none⟩ (.slice r.a r.f.d r.c)).setCell ⟨wr.heap.size, 2, none⟩ (.int .i64 r.f.d)) = ws at *
       clear hy0 hy1 hy2 hf1 hf2 HFQ HBQ HOQ
       obtain ⟨hy0, hy1, hy2⟩ := cells3 HSB.out
       have HCE : Hid (rcells (cutRF r ks[m]?) = [.string r.f.name, .slice r.a r.f.d r.c, .int .i64 r.f.d]) := by
         have hlen : (r.f.b.take (r.f.d + cutN r.f ks[m]?)).length = r.f.d + cutN r.f ks[m]? := by have := cutN_le r.f HOK.out.2.1 ks[m]?; rw [List.length_take]; omega
         simp only [Hid, rcells, cutRF]
         rw [hlen, HCUT.out]
       have HFM : Hid ((crashR (R.take (m + 1)) ks).flatMap rcells = (crashR (R.take m) ks).flatMap rcells ++ [.string r.f.name, .slice r.a r.f.d r.c, .int .i64 r.f.d]) := by
         rw [Hid, HS.out, List.flatMap_append, List.flatMap_singleton, HCE.out]
       clear HCE HS HCUT
       generalize crashR (R.take m) ks = CR at *
       go_wp2_with (refine wpList_row elemR rfl rfl (S := fun k => wd.heap.size ≤ k ∧ k ≠ wr.heap.size) (n := m) (xs := CR.flatMap rcells) rfl (HOS.out.frame (fun k _ hk => Below.heap_alloc _ _ _ hk)) (y := .slice (some ⟨ws.heap.size, 0, none⟩) 1 1) (m := 1) (news := [.string r.f.name, .slice r.a r.f.d r.c, .int .i64 r.f.d]) rfl (Reads.single (heap_alloc_new ws _)) (by intro u hu; simp only [List.mem_cons, List.not_mem_nil, or_false] at hu; rcases hu with rfl | rfl | rfl <;> rfl) (by unfold maxLen; omega) (by omega) ?_; intro v5 w5 hr5 hch5)
       go_roundw
       case rel =>
         have hbs := HBS.out.size
         refine ⟨m + 1, by omega, by go_num, ?_, (HBS.out.alloc hbs _).trans (hch5.toBelow (by simp <;> omega) (fun n hn h => by omega))⟩
         rw [Hid, HFM.out]
         exact hr5.mono (fun k hk => by rcases hk with hk | hk; exact hk.1; simp only [World.size_alloc] at hk; omega)
       case measure => simp [RowKit.intOf]; omega
   · obtain rfl : m = R.length := by omega
     rw [List.take_length] at HO
     have HRX2 := Lib.hid ((HB.out.block _ (lt_of_heap HRX.out)).trans HRX.out)
     obtain ⟨hr0, hr1, hr2, hr3⟩ := cells4 HRX2.out
     have hf0 := freeAt HRX2.out 0
     have hf1 := freeAt HRX2.out 1
     have hf2 := freeAt HRX2.out 2
     have hf3 := freeAt HRX2.out 3
     obtain ⟨oa, oc, rfl⟩ := slice_form HO.out
     go_wp2
     try simp only [Exit.inBlock, Exit.then]
     have HRF := heap_store (heap_store (heap_store (heap_store HRX2.out 0 (.int .i64 room)) 1 (.slice oa R.length oc)) 2 (.int .i64 0)) 3 (.bool false)
     have hbel := (((HBL.out.setCell (p := ⟨w.heap.size + 1, 0, none⟩) (by show w.heap.size ≤ w.heap.size + 1; omega) (.int .i64 room)).setCell (p := ⟨w.heap.size + 1, 1, none⟩) (by show w.heap.size ≤ w.heap.size + 1; omega) (.slice oa R.length oc)).setCell (p := ⟨w.heap.size + 1, 2, none⟩) (by show w.heap.size ≤ w.heap.size + 1; omega) (.int .i64 0)).setCell (p := ⟨w.heap.size + 1, 3, none⟩) (by show w.heap.size ≤ w.heap.size + 1; omega) (.bool false)
     have hsz := HSZ.out
     have hrow := (((HO.out.store (p := ⟨w.heap.size + 1, 0, none⟩) (by show w.heap.size + 1 < wd.heap.size; omega) (.int .i64 room)).store (p := ⟨w.heap.size + 1, 1, none⟩) (by show w.heap.size + 1 < wd.heap.size; omega) (.slice oa R.length oc)).store (p := ⟨w.heap.size + 1, 2, none⟩) (by show w.heap.size + 1 < wd.heap.size; omega) (.int .i64 0)).store (p := ⟨w.heap.size + 1, 3, none⟩) (by show w.heap.size + 1 < wd.heap.size; omega) (.bool false)
     refine bodyPost_ret (results_cell_row (P := Tryz.prog) rfl _ _ (w.heap.size + 1) 32 #[.int .i64 room, .slice oa R.length oc, .int .i64 0, .bool false] (0, 0) _ rfl HRF Tryz.underlying32 rfl rfl) rfl ?_
     refine ⟨_, rfl, ⟨?_, fun r hr => ?_⟩, hbel⟩
     · rw [crashR_length]
       exact hrow.mono (fun k hk => .inr (by omega))
     · obtain ⟨j, hj, rfl⟩ := List.mem_iff_getElem.1 hr
       have hj' : j < R.length := by rwa [crashR_length] at hj
       simp only [crashR, List.getElem_mapIdx]
       have h0 := (H.out.below hbel).byt R[j] (List.getElem_mem hj')
       have h1 : okR _ (fun k => T k ∨ w.heap.size ≤ k) R[j] := ⟨h0.1.mono (fun k hk => .inl hk), h0.2⟩
       exact cutRF_ok h1 _
def outF (l : List DF) (n : ByteArray) : List DF := l.filter fun f => decide (f.name ≠ n)
def insF : List DF → DF → List DF
 | [], r => [r]
 | a :: l, r => if a.name.toList < r.name.toList then a :: insF l r else r :: a :: l
def putF (l : List DF) (f : DF) : List DF := insF (outF l f.name) f
theorem outR_f (R : List RF) (n : ByteArray) : (outR R n).map RF.f = outF (R.map RF.f) n := by
 unfold outR outF
 rw [List.filter_map]; rfl
theorem insR_f (R : List RF) (r : RF) : (insR R r).map RF.f = insF (R.map RF.f) r.f := by
 induction R with
 | nil => rfl
 | cons a l ih =>
   rw [insR, List.map_cons, insF]
   split
   · rw [List.map_cons, ih]
   · rfl
theorem putR_f (R : List RF) (r : RF) : (putR R r).map RF.f = putF (R.map RF.f) r.f := by
 unfold putR putF; rw [insR_f, outR_f]
theorem sumR_f (R : List RF) : sumR R = sumD (R.map RF.f) := by
 unfold sumR sumD; rw [List.map_map]; rfl
def stepF (D : DS) : DS := { D with plan := max (D.plan - 1) 0 }
def doF (k : Nat) (D : DS) (name tgt : ByteArray) (b : List UInt8) : DS × Int :=
 if D.down then (D, 10)
 else if D.plan = 1 then ({ D with plan := 0, down := true }, 10)
 else if namedB name = false ∨ (k = 4 ∧ namedB tgt = false) ∨ (k ≠ 1 ∧ findD D.files name = none) then (stepF D, 6)
 else if k = 1 then (if (findD D.files name).isSome then (stepF D, 7) else ({ stepF D with files := putF D.files ⟨name, [], 0⟩ }, 0))
 else match findD D.files name with
 | none => (stepF D, 6)
 | some f =>
   if k = 2 then (if D.room < sumD D.files + b.length then (stepF D, 5) else ({ stepF D with files := putF D.files ⟨f.name, f.b ++ b, f.d⟩ }, 0))
   else if k = 3 then ({ stepF D with files := putF D.files ⟨f.name, f.b, f.b.length⟩ }, 0)
   else if k = 4 then ({ stepF D with files := putF (outF D.files name) ⟨tgt, f.b, f.d⟩ }, 0)
   else ({ stepF D with files := outF D.files name }, 0)
def RPost (w : World) (T : Nat → Prop) (r : DS × Int) : Ending → World → Prop := fun e w' =>
 ∃ v' R', e = .returned (.tuple #[rdisk r.1.room v' r.1.plan r.1.down, .int .i64 r.2]) ∧ R'.map RF.f = r.1.files ∧ RLi w' v' R' (fun k => T k ∨ w.heap.size ≤ k) ∧ Below w.heap.size w w'
theorem results_row_tmp1 {P : Program} {fn : Func} {p u : Tmp} {ty : TypeId} (h : fn.results = #[.cell p ty, .tmp u]) (tmps : Array Value) (w : World) (g : Nat) (t : TypeId) (cs : Array Value) (fr : Nat × Nat) (d : TypeDesc)
   (hp : tmps.getD p undef = .pointer (some ⟨g, 0, none⟩)) (hg : w.heap[g]? = some (.cells cs t fr))
   (hu : P.underlying ty = some d) (hd : (match d with | .struct _ | .array _ _ => true | _ => false) = true) (hi : (P.info? ty).map (·.size) = some cs.size) :
   (results fn tmps).run P w = .ok (.tuple #[.agg cs, tmps.getD u undef]) w := by
 rw [results_cell_tmp h, hp]
 simp [asAddr, run_loadVar_row w g t ty cs fr d hg hu hd hi, Result.andThen]
theorem RLi.store {w : World} {v : Value} {R : List RF} {T : Nat → Prop} (h : RLi w v R T) {p : Addr} (hp : ¬ T p.block) (u : Value) : RLi (w.setCell p u) v R T :=
 h.frame (fun k hk _ => Below.heap_setCell _ _ _ _ (fun e => hp (e ▸ hk)))
theorem RLi.tight {w : World} {v : Value} {R : List RF} {T : Nat → Prop} (h : RLi w v R T) : RLi w v R (fun k => T k ∧ k < w.heap.size) :=
 ⟨h.row.tight, fun r hr => ⟨(h.byt r hr).1.tight, (h.byt r hr).2⟩⟩
abbrev inDo (w : World) (T : Nat → Prop) : Nat → Prop := fun k => (T k ∧ k < w.heap.size) ∨ w.heap.size + 3 ≤ k
theorem rdo_end {w wz : World} {T : Nat → Prop} {room plan : Int} {down : Bool} {v : Value} {R : List RF} {r : DS × Int} {x0 x1 x2 x3 : Value} (code : Int) (hz : wz.heap[w.heap.size + 1 + 1]? = some (.cells #[x0, x1, x2, x3] 32 (0, 0)))
   (hb : Below w.heap.size w wz) (hr : RLi wz v R (inDo w T)) (he : r = (⟨room, R.map RF.f, plan, down⟩, code)) {tmps : Array Value} (h4 : tmps.getD 4 undef = .pointer (some ⟨w.heap.size + 1 + 1, 0, none⟩)) (h5 : tmps.getD 5 undef = .int .i64 code) :
   bodyPost Tryz.prog Tryz.f64 (RPost w T r) Exit.ret { tmps := tmps, defers := [] } ((((wz.setCell ⟨w.heap.size + 1 + 1, 0, none⟩ (.int .i64 room)).setCell ⟨w.heap.size + 1 + 1, 1, none⟩ v).setCell ⟨w.heap.size + 1 + 1, 2, none⟩ (.int .i64 plan)).setCell ⟨w.heap.size + 1 + 1, 3, none⟩ (.bool down)) := by
 have HRF := heap_store (heap_store (heap_store (heap_store hz 0 (.int .i64 room)) 1 v) 2 (.int .i64 plan)) 3 (.bool down)
 refine bodyPost_ret (results_row_tmp1 (P := Tryz.prog) Tryz.results64 _ _ (w.heap.size + 1 + 1) 32 #[.int .i64 room, v, .int .i64 plan, .bool down] (0, 0) _ h4 HRF Tryz.underlying32 rfl rfl) rfl ?_
 rw [h5, he]
 have hno : ¬ inDo w T (w.heap.size + 1 + 1) := by rintro (h | h) <;> omega
 have hle : w.heap.size ≤ w.heap.size + 1 + 1 := by omega
 refine ⟨v, R, rfl, rfl, ?_, (((hb.setCell (p := ⟨w.heap.size + 1 + 1, 0, none⟩) hle _).setCell (p := ⟨w.heap.size + 1 + 1, 1, none⟩) hle _).setCell (p := ⟨w.heap.size + 1 + 1, 2, none⟩) hle _).setCell (p := ⟨w.heap.size + 1 + 1, 3, none⟩) hle _⟩
 exact ((((hr.store (p := ⟨w.heap.size + 1 + 1, 0, none⟩) hno _).store (p := ⟨w.heap.size + 1 + 1, 1, none⟩) hno _).store (p := ⟨w.heap.size + 1 + 1, 2, none⟩) hno _).store (p := ⟨w.heap.size + 1 + 1, 3, none⟩) hno _).mono (fun k hk => by rcases hk with h | h; exact .inl h.1; exact .inr (by omega))
theorem heap3 (w : World) (x y z : Obj) : ((((w.alloc x).alloc y).alloc z).heap[w.heap.size]? = (w.alloc x).heap[w.heap.size]?) ∧ ((((w.alloc x).alloc y).alloc z).heap[w.heap.size + 1]? = ((w.alloc x).alloc y).heap[(w.alloc x).heap.size]?) ∧ ((((w.alloc x).alloc y).alloc z).heap[w.heap.size + 1 + 1]? = (((w.alloc x).alloc y).alloc z).heap[((w.alloc x).alloc y).heap.size]?) := by
 refine ⟨?_, ?_, ?_⟩
 · rw [Below.heap_alloc _ _ _ (by simp; omega), Below.heap_alloc _ _ _ (by simp)]
 · rw [Below.heap_alloc _ _ _ (by simp), World.size_alloc]
 · simp only [World.size_alloc]
theorem below3 (w : World) (x y z : Obj) : Below w.heap.size w (((w.alloc x).alloc y).alloc z) ∧ (((w.alloc x).alloc y).alloc z).heap.size = w.heap.size + 3 :=
 ⟨(((Below.refl _ _).alloc (Nat.le_refl _) _).alloc (by simp) _).alloc (by simp; omega) _, by simp⟩
end Go.Proofs.YtgdmdbdljmlkkaaGreatDoor
