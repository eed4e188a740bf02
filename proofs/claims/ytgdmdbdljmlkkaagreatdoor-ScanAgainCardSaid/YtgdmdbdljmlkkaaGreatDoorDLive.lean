/- (*Disk).Crash.
A disk that a law has made: its blocks lie behind those of the law's caller. -/
import Derived.Test.YtgdmdbdljmlkkaaGreatDoorDList
namespace Go.Proofs.YtgdmdbdljmlkkaaGreatDoor
set_option linter.unusedVariables false
set_option linter.unusedSimpArgs false
open Go.RowKit

def cutN (f : DF) (k : Option Int) : Nat := match k with
  | some k => (min (max k 0) ((f.b.length : Int) - f.d)).toNat
  | none => 0
def crashStep (D : DS) (n : ByteArray) (k : Option Int) : DS := match findD D.files n with
  | some f => { D with files := setD D.files n (f.b.take (f.d + cutN f k)) (f.d + cutN f k) }
  | none => D
def crashN (D : DS) (ss : List (List UInt8)) (ks : List Int) : Nat → DS
  | 0 => { D with plan := 0, down := false }
  | m + 1 => match ss[m]? with
    | some s => crashStep (crashN D ss ks m) ⟨s.toArray⟩ ks[m]?
    | none => crashN D ss ks m

theorem crashStep_names (D : DS) (n : ByteArray) (k : Option Int) : (crashStep D n k).files.map DF.name = D.files.map DF.name := by
  unfold crashStep
  split
  · exact setD_names _ _ _ _
  · rfl
theorem crashN_names (D : DS) (ss : List (List UInt8)) (ks : List Int) : ∀ m, (crashN D ss ks m).files.map DF.name = D.files.map DF.name
  | 0 => rfl
  | m + 1 => by
    rw [crashN]
    split
    · rw [crashStep_names, crashN_names D ss ks m]
    · exact crashN_names D ss ks m

/-- One file changes, in its own blocks. -/
theorem DAt.set0 {w w' : World} {D : DS} {S : Nat → Prop} {bx bm : Nat} {col : Nat → Option ByteArray} {pv : ByteArray → Nat} (h : DAt w D S bx bm col pv) {n : ByteArray} {b : List UInt8} {d : Nat} (hch : Chg (fun k => S k ∧ col k = some n) w w') (hfr : FRep w' (pv n) b d (fun k => S k ∧ col k = some n)) :
    DAt w' { D with files := setD D.files n b d } S bx bm col pv where
  blk := (hch.block bx (lt_of_heap h.blk) (fun e => by rw [h.cx.1] at e; cases e.2)).trans h.blk
  mp := by
    have e : fmap (setD D.files n b d) pv = fmap D.files pv := by
      funext x
      unfold fmap
      rw [findD_setD, Option.map_map]
      rfl
    rw [e]
    exact h.mp.frame (hch.block bm h.mp.lt (fun e => by rw [h.cx.2] at e; cases e.2))
  fl := by
    intro f hf
    rcases setD_mem hf with ⟨rfl, -⟩ | ⟨h1, h2⟩
    · exact hfr
    · exact (h.fl f h1).frame (fun k hk hl => hch.block k hl (fun e => by rw [hk.2] at e; exact h2 (Option.some.inj e.2)))
  nd := by rw [setD_names]; exact h.nd
  sx := h.sx
  cx := h.cx
  ne := h.ne

theorem Row.shrink {w : World} {e : TypeId} {a : Option Addr} {n c : Nat} {xs : List Value} {S : Nat → Prop} (h : Row w e 1 (.slice a n c) n xs S) (i : Nat) (hi : i ≤ n) : Row w e 1 (.slice a i c) i (xs.take i) S := by
  obtain ⟨hl, h2⟩ := h
  refine ⟨by rw [List.length_take, hl]; omega, ?_⟩
  rcases h2 with ⟨h, hn⟩ | ⟨g, off, cap, cur, hv, hS, hg, hn, hm, hs, ht⟩
  · cases h
    exact .inl ⟨by congr 1; omega, by omega⟩
  · cases hv
    refine .inr ⟨g, off, c, cur, rfl, hS, hg, by omega, hm, hs, ?_⟩
    rw [← ht, List.take_take]
    congr 1
    omega

set_option maxRecDepth 100000 in
set_option maxHeartbeats 2000000 in
theorem crash_any (x : Value) (ka : Option Addr) (kc : Nat) (ks : List Int) (D : DS) (S : Nat → Prop) (w : World) (h : DRep w x D S) (hl : D.files.length ≤ 100000) (hnm : ∀ f ∈ D.files, f.name.size ≤ maxLen)
    (hk : Reads w (.slice ka ks.length kc) ks.length 1 (ks.map (Value.int .i64))) (hkl : ks.length ≤ 100000) (hnk : ∀ ad, ka = some ad → 0 < ks.length → ¬ S ad.block) :
    Calls Tryz.prog 19 #[x, .slice ka ks.length kc] w fun e w' => ∃ ss : List (List UInt8), (ss.Pairwise (· < ·) ∧ ∀ s : List UInt8, s ∈ ss ↔ ⟨s.toArray⟩ ∈ D.files.map DF.name) ∧
      e = .returned (.tuple #[]) ∧ DRep w' x (crashN D ss ks ss.length) S ∧ Chg S w w' := by
  obtain ⟨bx, bm, col, pv, rfl, h⟩ := h
  have H := Lib.hid h.tight
  have HK := Lib.hid hk
  have HNK := Lib.hid hnk
  have hc2 := cellAt h.blk 2 (v := .int .i64 D.plan) rfl
  have hc3 := cellAt h.blk 3 (v := .bool D.down) rfl
  have hf2 := freeAt h.blk 2
  have hf3 := freeAt h.blk 3
  have HB := Lib.hid (heap_store (heap_store h.blk 2 (.int .i64 0)) 3 (.bool false))
  have HC : Hid (Chg (fun k => k = bx) w ((w.setCell ⟨bx, 2, none⟩ (.int .i64 0)).setCell ⟨bx, 3, none⟩ (.bool false))) := ((Chg.refl (fun k => k = bx) _).setCell (p := ⟨bx, 2, none⟩) (.inl rfl) _).setCell (p := ⟨bx, 3, none⟩) (.inl rfl) _
  have HD1 := Lib.hid (H.out.head { D with plan := 0, down := false } rfl HB.out HC.out)
  have HCS := Lib.hid (HC.out.mono (T := fun k => S k ∧ k < w.heap.size) (fun k hk => by rw [hk]; exact H.out.sx.1))
  clear h hk hnk
  go_enter Tryz.func19, Tryz.ntmps19
  go_upto_region 2 with fail
  generalize ((w.setCell ⟨bx, 2, none⟩ (.int .i64 0)).setCell ⟨bx, 3, none⟩ (.bool false)) = wa at *
  clear hc2 hc3 hf2 hf3 HB HC
  have HLI := Lib.hid (list_any (.pointer (some ⟨bx, 0, none⟩)) { D with plan := 0, down := false } _ wa ⟨bx, bm, col, pv, rfl, HD1.out⟩ hl hnm)
  go_wp2_with fail
  refine HLI.out.mono ?_
  rintro e w2 ⟨v, ss, rfl, hr, hb, hsort, hmem⟩
  obtain ⟨a0, c0, rfl, hc0⟩ : ∃ a0 c0, v = .slice a0 ss.length c0 ∧ ss.length ≤ c0 := by obtain ⟨-, a0, c0, h, hle, -⟩ := hr.reads; exact ⟨a0, c0, h, hle⟩
  have hml : ss.length ≤ maxLen := by
    rcases hr.2 with ⟨_, h0⟩ | ⟨g, off, cap, cur, hv, _, _, hn, hm, _⟩
    · rw [h0]; unfold maxLen; omega
    · omega
  unfold maxLen at hml
  have HR := Lib.hid hr
  have HSO := Lib.hid hsort
  have HME := Lib.hid hmem
  have HD2 := Lib.hid (HD1.out.frame (fun k _ hk => hb.block k hk))
  have HC2 := Lib.hid (HCS.out.trans (Chg.ofBelow (S := fun k => S k ∧ k < w.heap.size) hb) (fun k hk => .inl hk))
  have hsz := HCS.out.size
  have hsz2 := hb.size
  clear HLI hr hb hsort hmem HD1
  go_wp2_with fail
  go_loopw [19] (fun i w' => ∃ m : Nat, m ≤ ss.length ∧ i = .int .i64 m ∧ Hid (DAt w' (crashN D ss ks m) (fun k => S k ∧ k < w.heap.size) bx bm col pv) ∧ Hid (Chg (fun k => S k ∧ k < w.heap.size) w2 w')) (fun i _ => ss.length - (RowKit.intOf i).toNat)
  case atStart => exact ⟨0, by omega, rfl, HD2, Chg.refl _ _⟩
  case round =>
    obtain ⟨m, hm, rfl, HDm, HCm⟩ := hrel
    by_cases hlt : m < ss.length
    · have hrow := (HR.out.frame (w' := wr) (fun k hk hl => HCm.out.block k hl (fun e => by omega))).reads
      obtain ⟨b, o, c', hv, -, -, hcn⟩ := hrow.at (by omega)
      cases hv
      have hn0 : wr.cell? ⟨b, o + m, none⟩ = some (.string ⟨ss[m].toArray⟩) := hcn m _ (by rw [List.getElem?_map, List.getElem?_eq_getElem hlt]; rfl)
      have hin : (⟨ss[m].toArray⟩ : ByteArray) ∈ (crashN D ss ks m).files.map DF.name := by
        rw [crashN_names]; exact (HME.out ss[m]).1 (List.getElem_mem hlt)
      obtain ⟨n, hn⟩ : ∃ n, n = (⟨ss[m].toArray⟩ : ByteArray) := ⟨_, rfl⟩
      have HCR : Hid (crashN D ss ks (m + 1) = crashStep (crashN D ss ks m) n ks[m]?) := by
        rw [Hid, crashN, List.getElem?_eq_getElem hlt, hn]
      rw [← hn] at hn0 hin
      clear hn hcn hrow
      obtain ⟨f, hf⟩ : ∃ f, findD (crashN D ss ks m).files n = some f := by
        cases hf : findD (crashN D ss ks m).files n with
        | none => exact absurd hin (findD_none.1 hf)
        | some f => exact ⟨f, rfl⟩
      have hlk := look_f HDm.out.mp n false
      rw [fmap_some hf] at hlk
      simp only [Bool.false_eq_true, if_false] at hlk
      have hx1 := cellAt HDm.out.blk 1 (v := .map (some bm)) rfl
      obtain ⟨hfn, hfm⟩ := findD_name hf
      have hfr := HDm.out.fl f hfm
      rw [hfn] at hfr
      obtain ⟨a, c, T, h1, h2, h3, h4, h5, h6, h7⟩ := hfr
      unfold maxLen at h7
      have hp0 := cellAt h1 0 (v := .slice a f.b.length c) rfl
      have hp1 := cellAt h1 1 (v := .int .i64 f.d) rfl
      have hf0 := freeAt h1 0
      have hf1 := freeAt h1 1
      have hcap : f.b.length ≤ c := by obtain ⟨-, a', c', h, hle, -⟩ := h2.reads; cases h; exact hle
      have HF1 := Lib.hid h1
      have HROW := Lib.hid h2
      have HT3 := Lib.hid h3
      have HT4 := Lib.hid h4
      have HT5 := Lib.hid h5
      have HKr := Lib.hid ((HK.out.chg (HC2.out.trans HCm.out (fun k hk => .inl hk)) (fun ad had hp e => HNK.out ad had (by rwa [List.length_map] at hp) e.1)))
      have HFD := Lib.hid hf
      clear h1 h2 h3 h4 h5 hfn hfm hin hf
      have HCRQ : Hid (crashN D ss ks (m + 1) = { crashN D ss ks m with files := setD (crashN D ss ks m).files n (f.b.take (f.d + cutN f ks[m]?)) (f.d + cutN f ks[m]?) }) := by
        rw [Hid, HCR.out, crashStep, HFD.out]
      by_cases hkm : m < ks.length
      · obtain ⟨kb, ko, c', hv, -, -, hcn⟩ := HKr.out.at (by omega)
        cases hv
        have hk0 : wr.cell? ⟨kb, ko + m, none⟩ = some (.int .i64 ks[m]) := hcn m _ (by rw [List.getElem?_map, List.getElem?_eq_getElem hkm]; rfl)
        clear hcn
        go_upto_region 7 with fail
        go_quiet (fail)
        obtain ⟨q, hq⟩ : ∃ q, q = cutN f ks[m]? := ⟨_, rfl⟩
        have hz : min (max ks[m] 0) ((f.b.length : Int) - f.d) = (q : Int) := by
          rw [hq, List.getElem?_eq_getElem hkm]; unfold cutN; simp only; omega
        rw [hz]
        rw [← hq] at HCRQ
        have hqle : f.d + q ≤ f.b.length := by
          rw [hq]; unfold cutN; split <;> omega
        obtain ⟨r, hr⟩ : ∃ r, r = f.d + q := ⟨_, rfl⟩
        have hwr : IntKind.i64.wrap ((f.d : Int) + (q : Int)) = (r : Int) := by rw [IntWalk.i64_in _ (by omega), hr]; omega
        have hrc : (r : Int) ≤ (c : Int) := by omega
        have hrl : r ≤ f.b.length := by omega
        rw [← hr] at HCRQ
        clear hr hqle
        have HDq : Hid (DAt (wr.drewN nq) (crashN D ss ks m) (fun k => S k ∧ k < w.heap.size) bx bm col pv) := HDm.out.frame (fun _ _ _ => rfl)
        have HFq : Hid ((wr.drewN nq).heap[pv n]? = some (.cells #[.slice a f.b.length c, .int .i64 f.d] 118 (0, 0))) := HF1.out
        have HRq : Hid (Row (wr.drewN nq) 5 1 (.slice a f.b.length c) f.b.length (byts f.b) T) := HROW.out.frame (fun _ _ _ => rfl)
        have HCq : Hid (Chg (fun k => S k ∧ k < w.heap.size) w2 (wr.drewN nq)) := HCm.out.drewN nq
        clear hp0 hp1 hf0 hf1 hk0 hz hq hlk hx1 hn0 HF1 HROW HDm HCm HKr
        generalize wr.drewN nq = wq at *
        have hp0 := cellAt HFq.out 0 (v := .slice a f.b.length c) rfl
        have hp1 := cellAt HFq.out 1 (v := .int .i64 f.d) rfl
        have hf0 := freeAt HFq.out 0
        go_upto_region 8 with fail
        go_region_law (fail)
        all_goals
          have HS1 : Hid ((wq.setCell ⟨pv n, 0, none⟩ (.slice a r c)).drew.heap[pv n]? = _) := heap_store HFq.out 0 (.slice a r c)
          have HC1 : Hid (Chg (fun k => (S k ∧ k < w.heap.size) ∧ col k = some n) wq (wq.setCell ⟨pv n, 0, none⟩ (.slice a r c)).drew) := ((Chg.refl _ _).setCell (p := ⟨pv n, 0, none⟩) (.inl HT3.out) _).drew
          have HO5 : Hid (∀ k, k ≠ pv n → (wq.setCell ⟨pv n, 0, none⟩ (.slice a r c)).drew.heap[k]? = wq.heap[k]?) := fun k hne => Below.heap_setCell _ _ _ _ hne
          generalize (wq.setCell ⟨pv n, 0, none⟩ (.slice a r c)).drew = w5 at *
          have hq0 := cellAt HS1.out 0 (v := .slice a r c) rfl
          have hq1 := cellAt HS1.out 1 (v := .int .i64 f.d) rfl
          have hg1 := freeAt HS1.out 1
          clear hp0 hp1 hf0 hwr
          have HS2 := Lib.hid (heap_store HS1.out 1 (.int .i64 r))
          have HC3 : Hid (Chg (fun k => (S k ∧ k < w.heap.size) ∧ col k = some n) wq (w5.setCell ⟨pv n, 1, none⟩ (.int .i64 r))) := HC1.out.setCell (p := ⟨pv n, 1, none⟩) (.inl HT3.out) _
          have HC3O : Hid (∀ k, k < wq.heap.size → k ≠ pv n → (w5.setCell ⟨pv n, 1, none⟩ (.int .i64 r)).heap[k]? = wq.heap[k]?) := fun k hl hne => (Below.heap_setCell _ _ _ _ hne).trans (HO5.out k hne)
          have HFR : Hid (FRep (w5.setCell ⟨pv n, 1, none⟩ (.int .i64 r)) (pv n) (f.b.take r) r (fun k => (S k ∧ k < w.heap.size) ∧ col k = some n)) := by
            have hlen : (f.b.take r).length = r := by rw [List.length_take]; omega
            refine ⟨a, c, T, by rw [hlen]; exact HS2.out, ?_, HT3.out, HT4.out, HT5.out, by omega, by unfold maxLen; omega⟩
            rw [hlen, show byts (f.b.take r) = (byts f.b).take r from List.map_take]
            exact (HRq.out.shrink r hrl).frame (fun k hk hl => by
              have hT := HT5.out k hk
              have hne : k ≠ pv n := fun e => by subst e; exact HT4.out hk
              exact HC3O.out k hl hne)
          have HN := Lib.hid (HDq.out.set0 HC3.out HFR.out)
          have HCN := Lib.hid (HCq.out.trans (HC3.out.mono (T := fun k => S k ∧ k < w.heap.size) (fun k hk => hk.1)) (fun k hk => .inl hk))
          rw [← HCRQ.out] at HN
          go_wp2
          go_roundw
          case rel => exact ⟨m + 1, by omega, by go_num, HN, HCN⟩
          case measure => simp [RowKit.intOf]; omega
      · have hz : cutN f ks[m]? = 0 := by rw [List.getElem?_eq_none (by omega)]; rfl
        have hwr0 : IntKind.i64.wrap (f.d : Int) = (f.d : Int) := IntWalk.i64_in _ (by omega)
        have hrc : (f.d : Int) ≤ (c : Int) := by omega
        have hrl : f.d ≤ f.b.length := h6
        have HCRQ := Lib.hid (show crashN D ss ks (m + 1) = { crashN D ss ks m with files := setD (crashN D ss ks m).files n (f.b.take f.d) f.d } by rw [HCRQ.out, hz]; rfl)
        go_upto_region 8 with fail
        have HDq : Hid (DAt wr (crashN D ss ks m) (fun k => S k ∧ k < w.heap.size) bx bm col pv) := HDm
        have HFq : Hid (wr.heap[pv n]? = some (.cells #[.slice a f.b.length c, .int .i64 f.d] 118 (0, 0))) := HF1
        have HRq : Hid (Row wr 5 1 (.slice a f.b.length c) f.b.length (byts f.b) T) := HROW
        have HCq : Hid (Chg (fun k => S k ∧ k < w.heap.size) w2 wr) := HCm
        clear hp1 hf1 hz hlk hx1 hn0 HF1 HROW HDm HCm HKr
        have hp1 := cellAt HFq.out 1 (v := .int .i64 f.d) rfl
        generalize wr = wq at *
        go_region_law (fail)
        all_goals
          have HS1 : Hid ((wq.setCell ⟨pv n, 0, none⟩ (.slice a f.d c)).drew.heap[pv n]? = _) := heap_store HFq.out 0 (.slice a f.d c)
          have HC1 : Hid (Chg (fun k => (S k ∧ k < w.heap.size) ∧ col k = some n) wq (wq.setCell ⟨pv n, 0, none⟩ (.slice a f.d c)).drew) := ((Chg.refl _ _).setCell (p := ⟨pv n, 0, none⟩) (.inl HT3.out) _).drew
          have HO5 : Hid (∀ k, k ≠ pv n → (wq.setCell ⟨pv n, 0, none⟩ (.slice a f.d c)).drew.heap[k]? = wq.heap[k]?) := fun k hne => Below.heap_setCell _ _ _ _ hne
          generalize (wq.setCell ⟨pv n, 0, none⟩ (.slice a f.d c)).drew = w5 at *
          have hq0 := cellAt HS1.out 0 (v := .slice a f.d c) rfl
          have hq1 := cellAt HS1.out 1 (v := .int .i64 f.d) rfl
          have hg1 := freeAt HS1.out 1
          clear hp0 hp1 hf0 hwr0
          have HS2 := Lib.hid (heap_store HS1.out 1 (.int .i64 f.d))
          have HC3 : Hid (Chg (fun k => (S k ∧ k < w.heap.size) ∧ col k = some n) wq (w5.setCell ⟨pv n, 1, none⟩ (.int .i64 f.d))) := HC1.out.setCell (p := ⟨pv n, 1, none⟩) (.inl HT3.out) _
          have HC3O : Hid (∀ k, k < wq.heap.size → k ≠ pv n → (w5.setCell ⟨pv n, 1, none⟩ (.int .i64 f.d)).heap[k]? = wq.heap[k]?) := fun k hl hne => (Below.heap_setCell _ _ _ _ hne).trans (HO5.out k hne)
          have HFR : Hid (FRep (w5.setCell ⟨pv n, 1, none⟩ (.int .i64 f.d)) (pv n) (f.b.take f.d) f.d (fun k => (S k ∧ k < w.heap.size) ∧ col k = some n)) := by
            have hlen : (f.b.take f.d).length = f.d := by rw [List.length_take]; omega
            refine ⟨a, c, T, by rw [hlen]; exact HS2.out, ?_, HT3.out, HT4.out, HT5.out, by omega, by unfold maxLen; omega⟩
            rw [hlen, show byts (f.b.take f.d) = (byts f.b).take f.d from List.map_take]
            exact (HRq.out.shrink f.d hrl).frame (fun k hk hl => by
              have hT := HT5.out k hk
              have hne : k ≠ pv n := fun e => by subst e; exact HT4.out hk
              exact HC3O.out k hl hne)
          have HN := Lib.hid (HDq.out.set0 HC3.out HFR.out)
          have HCN := Lib.hid (HCq.out.trans (HC3.out.mono (T := fun k => S k ∧ k < w.heap.size) (fun k hk => hk.1)) (fun k hk => .inl hk))
          rw [← HCRQ.out] at HN
          go_wp2
          go_roundw
          case rel => exact ⟨m + 1, by omega, by go_num, HN, HCN⟩
          case measure => simp [RowKit.intOf]; omega
    · obtain rfl : m = ss.length := by omega
      go_wp2
      go_end0
      exact ⟨ss, ⟨HSO.out, HME.out⟩, rfl, ⟨bx, bm, col, pv, rfl, HDm.out.mono (fun k hk => hk.1)⟩, (HC2.out.trans HCm.out (fun k hk => .inl hk)).mono (fun k hk => hk.1)⟩
end Go.Proofs.YtgdmdbdljmlkkaaGreatDoor
namespace Go.Proofs.YtgdmdbdljmlkkaaGreatDoor
set_option linter.unusedVariables false
set_option linter.unusedSimpArgs false
open Go.RowKit

def Live (w0 w : World) (x : Value) (D : DS) : Prop := DRep w x D (fun k => w0.heap.size ≤ k ∧ k < w.heap.size) ∧ Below w0.heap.size w0 w

theorem Live.next {w0 w w' : World} {x : Value} {D D' : DS} (h : Live w0 w x D) (hr : DRep w' x D' (fun k => (w0.heap.size ≤ k ∧ k < w.heap.size) ∨ w.heap.size ≤ k)) (hc : Chg (fun k => w0.heap.size ≤ k ∧ k < w.heap.size) w w') : Live w0 w' x D' := by
  have h0 := h.2.size
  exact ⟨hr.tight.mono (fun k hk => ⟨by rcases hk.1 with h1 | h1 <;> omega, hk.2⟩), h.2.trans (hc.toBelow h0 (fun n hn hk => by omega))⟩
theorem Live.below {w0 w w' : World} {x : Value} {D : DS} (h : Live w0 w x D) (hb : Below w.heap.size w w') : Live w0 w' x D := by
  have h0 := h.2.size
  have h1 := hb.size
  exact ⟨(h.1.frame (fun k _ hk => hb.block k hk)).mono (fun k hk => ⟨hk.1, by omega⟩), h.2.trans (hb.mono h0)⟩

theorem live_new (room : Int) (w : World) : Calls Tryz.prog 38 #[.int .i64 room] w fun e w' => ∃ x, e = .returned x ∧ (∃ bx, x = .pointer (some ⟨bx, 0, none⟩)) ∧ Live w w' x ⟨max room 0, [], 0, false⟩ := by
  refine (new_any room w).mono ?_
  rintro e w' ⟨x, rfl, hr, hb⟩
  refine ⟨x, rfl, ?_, hr.tight, hb⟩
  obtain ⟨bx, bm, col, pv, h, -⟩ := hr
  exact ⟨bx, h⟩

section
variable {w0 w : World} {x : Value} {D : DS}
theorem live_create (h : Live w0 w x D) (n : ByteArray) (hp : 0 ≤ D.plan ∧ D.plan ≤ 9223372036854775807) :
    Calls Tryz.prog 34 #[x, .string n] w fun e w' => e = .returned (.int .i64 (createD D n).2) ∧ Live w0 w' x (createD D n).1 := by
  refine (create_any x n D _ w h.1 hp).mono ?_
  rintro e w' ⟨rfl, hr, hc⟩
  exact ⟨rfl, h.next hr hc⟩
theorem live_append (h : Live w0 w x D) (n : ByteArray) (b : List UInt8) (ba : Option Addr) (bc : Nat) (hp : 0 ≤ D.plan ∧ D.plan ≤ 9223372036854775807) (hs : sumD D.files ≤ 1000000000) (hb : b.length ≤ 1000000000)
    (hrb : Reads w (.slice ba b.length bc) b.length 1 (byts b)) (hnb : ∀ ad, ba = some ad → 0 < b.length → ad.block < w0.heap.size) :
    Calls Tryz.prog 72 #[x, .string n, .slice ba b.length bc] w fun e w' => e = .returned (.int .i64 (appendD D n b).2) ∧ Live w0 w' x (appendD D n b).1 := by
  refine (append_any x n b ba bc D _ w h.1 hp hs hb hrb (fun ad had h0 hk => by have := hnb ad had h0; omega)).mono ?_
  rintro e w' ⟨rfl, hr, hc⟩
  exact ⟨rfl, h.next hr hc⟩
/-- The same for bytes that were laid just now. -/
theorem live_append_new (h : Live w0 w x D) {w1 : World} (hw : Below w.heap.size w w1) (n : ByteArray) (b : List UInt8) (ba : Option Addr) (bc : Nat) (hp : 0 ≤ D.plan ∧ D.plan ≤ 9223372036854775807) (hs : sumD D.files ≤ 1000000000) (hb : b.length ≤ 1000000000)
    (hrb : Reads w1 (.slice ba b.length bc) b.length 1 (byts b)) (hnb : ∀ ad, ba = some ad → w.heap.size ≤ ad.block) :
    Calls Tryz.prog 72 #[x, .string n, .slice ba b.length bc] w1 fun e w' => e = .returned (.int .i64 (appendD D n b).2) ∧ Live w0 w' x (appendD D n b).1 := by
  have h1 := h.below hw
  have hsz := hw.size
  have h0 := h.2.size
  refine (append_any x n b ba bc D (fun k => w0.heap.size ≤ k ∧ k < w.heap.size) w1 (h.1.frame (fun k _ hk => hw.block k hk)) hp hs hb hrb (fun ad had _ hk => by have := hnb ad had; omega)).mono ?_
  rintro e w' ⟨rfl, hr, hc⟩
  refine ⟨rfl, h1.next (hr.mono (fun k hk => ?_)) (hc.mono (fun k hk => ⟨hk.1, by omega⟩))⟩
  rcases hk with hk | hk
  · exact .inl ⟨hk.1, by omega⟩
  · exact .inr hk
theorem live_sync (h : Live w0 w x D) (n : ByteArray) (hp : 0 ≤ D.plan ∧ D.plan ≤ 9223372036854775807) :
    Calls Tryz.prog 73 #[x, .string n] w fun e w' => e = .returned (.int .i64 (syncD D n).2) ∧ Live w0 w' x (syncD D n).1 := by
  refine (sync_any x n D _ w h.1 hp).mono ?_
  rintro e w' ⟨rfl, hr, hc⟩
  exact ⟨rfl, h.next hr hc⟩
theorem live_arm (h : Live w0 w x D) (n : Int) :
    Calls Tryz.prog 26 #[x, .int .i64 n] w fun e w' => e = .returned (.tuple #[]) ∧ Live w0 w' x { D with plan := max n 0 } := by
  refine (arm_any x n D _ w h.1).mono ?_
  rintro e w' ⟨rfl, hr, hc⟩
  exact ⟨rfl, h.next (hr.mono (fun k hk => .inl hk)) hc⟩
theorem live_used (h : Live w0 w x D) (hs : sumD D.files ≤ 1000000000) :
    Calls Tryz.prog 51 #[x] w fun e w' => e = .returned (.int .i64 (sumD D.files)) ∧ Live w0 w' x D := by
  refine (used_any x D _ w h.1 hs).mono ?_
  rintro e w' ⟨rfl, hb⟩
  exact ⟨rfl, h.below hb⟩
theorem live_read (h : Live w0 w x D) (n : ByteArray) (hs : sumD D.files ≤ 1000000000) :
    Calls Tryz.prog 57 #[x, .string n] w fun e w' => ∃ a c, e = .returned (.tuple #[.slice a (readD D n).1.length c, .int .i64 (readD D n).2]) ∧ Row w' 5 1 (.slice a (readD D n).1.length c) (readD D n).1.length (byts (readD D n).1) (fun k => w.heap.size ≤ k) ∧ Below w.heap.size w w' ∧ Live w0 w' x D := by
  refine (read_any x n D _ w h.1 hs).mono ?_
  rintro e w' ⟨v, rfl, hr, hb⟩
  obtain ⟨-, a, c, hv, -⟩ := hr.reads
  subst hv
  exact ⟨a, c, rfl, hr, hb, h.below hb⟩
theorem live_crash (h : Live w0 w x D) (ka : Option Addr) (kc : Nat) (ks : List Int) (hl : D.files.length ≤ 100000) (hnm : ∀ f ∈ D.files, f.name.size ≤ maxLen)
    (hk : Reads w (.slice ka ks.length kc) ks.length 1 (ks.map (Value.int .i64))) (hkl : ks.length ≤ 100000) (hnk : ∀ ad, ka = some ad → ad.block < w0.heap.size) :
    Calls Tryz.prog 19 #[x, .slice ka ks.length kc] w fun e w' => ∃ ss : List (List UInt8), (ss.Pairwise (· < ·) ∧ ∀ s : List UInt8, s ∈ ss ↔ ⟨s.toArray⟩ ∈ D.files.map DF.name) ∧ e = .returned (.tuple #[]) ∧ Live w0 w' x (crashN D ss ks ss.length) := by
  refine (crash_any x ka kc ks D _ w h.1 hl hnm hk hkl (fun ad had _ hk => by have := hnk ad had; omega)).mono ?_
  rintro e w' ⟨ss, h1, rfl, hr, hc⟩
  exact ⟨ss, h1, rfl, h.next (hr.mono (fun k hk => .inl hk)) hc⟩
theorem live_crash_new (h : Live w0 w x D) {w1 : World} (hw : Below w.heap.size w w1) (ka : Option Addr) (kc : Nat) (ks : List Int) (hl : D.files.length ≤ 100000) (hnm : ∀ f ∈ D.files, f.name.size ≤ maxLen)
    (hk : Reads w1 (.slice ka ks.length kc) ks.length 1 (ks.map (Value.int .i64))) (hkl : ks.length ≤ 100000) (hnk : ∀ ad, ka = some ad → w.heap.size ≤ ad.block) :
    Calls Tryz.prog 19 #[x, .slice ka ks.length kc] w1 fun e w' => ∃ ss : List (List UInt8), (ss.Pairwise (· < ·) ∧ ∀ s : List UInt8, s ∈ ss ↔ ⟨s.toArray⟩ ∈ D.files.map DF.name) ∧ e = .returned (.tuple #[]) ∧ Live w0 w' x (crashN D ss ks ss.length) := by
  have h1 := h.below hw
  have hsz := hw.size
  refine (crash_any x ka kc ks D (fun k => w0.heap.size ≤ k ∧ k < w.heap.size) w1 (h.1.frame (fun k _ hk => hw.block k hk)) hl hnm hk hkl (fun ad had _ hk => by have := hnk ad had; omega)).mono ?_
  rintro e w' ⟨ss, h2, rfl, hr, hc⟩
  exact ⟨ss, h2, rfl, h1.next (hr.mono (fun k hk => .inl ⟨hk.1, by omega⟩)) (hc.mono (fun k hk => ⟨hk.1, by omega⟩))⟩
theorem live_down (h : Live w0 w x D) : Calls Tryz.prog 63 #[x] w fun e w' => e = .returned (.bool D.down) ∧ w' = w := down_any x D _ w h.1
end

/-! ### A disk with one file -/
theorem create_one {room plan : Int} {n : ByteArray} (hn : namedB n = true) (hp : plan ≠ 1) : createD ⟨room, [], plan, false⟩ n = (⟨room, [⟨n, [], 0⟩], max (plan - 1) 0, false⟩, 0) := by
  simp [createD, beginD, hn, hp, findD]
theorem begin_one {room plan : Int} {n : ByteArray} {b : List UInt8} {d : Nat} (hn : namedB n = true) (hp : plan ≠ 1) : beginD ⟨room, [⟨n, b, d⟩], plan, false⟩ [n] false = (⟨room, [⟨n, b, d⟩], max (plan - 1) 0, false⟩, none) := by
  simp [beginD, hn, hp, findD]
theorem append_one {room plan : Int} {n : ByteArray} {b c : List UInt8} {d : Nat} (hn : namedB n = true) (hp : plan ≠ 1) (hr : (b.length : Int) + c.length ≤ room) :
    appendD ⟨room, [⟨n, b, d⟩], plan, false⟩ n c = (⟨room, [⟨n, b ++ c, d⟩], max (plan - 1) 0, false⟩, 0) := by
  rw [appendD, begin_one hn hp]
  simp only [sumD, List.map_cons, List.map_nil, List.sum_cons, List.sum_nil, Nat.add_zero, findD, if_true, setD]
  rw [if_neg (by omega)]
theorem sync_one {room plan : Int} {n : ByteArray} {b : List UInt8} {d : Nat} (hn : namedB n = true) (hp : plan ≠ 1) :
    syncD ⟨room, [⟨n, b, d⟩], plan, false⟩ n = (⟨room, [⟨n, b, b.length⟩], max (plan - 1) 0, false⟩, 0) := by
  rw [syncD, begin_one hn hp]
  simp [findD, setD]
theorem read_one {room plan : Int} {n : ByteArray} {b : List UInt8} {d : Nat} : readD ⟨room, [⟨n, b, d⟩], plan, false⟩ n = (b, 0) := by
  simp [readD, findD]
theorem append_planned {room : Int} {n : ByteArray} {fs : List DF} {c : List UInt8} : appendD ⟨room, fs, 1, false⟩ n c = (⟨room, fs, 0, true⟩, 10) := by simp [appendD, beginD]
theorem append_down {room plan : Int} {n : ByteArray} {fs : List DF} {c : List UInt8} : appendD ⟨room, fs, plan, true⟩ n c = (⟨room, fs, plan, true⟩, 10) := by simp [appendD, beginD]
theorem sync_down {room plan : Int} {n : ByteArray} {fs : List DF} : syncD ⟨room, fs, plan, true⟩ n = (⟨room, fs, plan, true⟩, 10) := by simp [syncD, beginD]
theorem read_down {room plan : Int} {n : ByteArray} {fs : List DF} : readD ⟨room, fs, plan, true⟩ n = ([], 10) := by simp [readD]
theorem sum_one {n : ByteArray} {b : List UInt8} {d : Nat} : sumD [⟨n, b, d⟩] = b.length := by simp [sumD]
theorem names_one {ss : List (List UInt8)} {n : ByteArray} {b : List UInt8} {d : Nat} (h1 : ss.Pairwise (· < ·)) (h2 : ∀ s : List UInt8, s ∈ ss ↔ ⟨s.toArray⟩ ∈ ([⟨n, b, d⟩] : List DF).map DF.name) : ss = [n.data.toList] := by
  have h3 : ∀ s : List UInt8, s ∈ ss ↔ s = n.data.toList := fun s => by
    rw [h2 s]
    simp only [List.map_cons, List.map_nil, List.mem_singleton]
    constructor
    · intro h; rw [← h]
    · intro h; rw [h]
  match ss, h1, h3 with
  | [], _, h3 => exact absurd ((h3 n.data.toList).2 rfl) (List.not_mem_nil)
  | [a], _, h3 => rw [(h3 a).1 (by simp)]
  | a :: b :: r, h1, h3 =>
    have ha := (h3 a).1 (by simp)
    have hb := (h3 b).1 (by simp)
    have := (List.pairwise_cons.1 h1).1 b (by simp)
    rw [ha, hb] at this
    exact absurd this (List.lt_irrefl _)
theorem crash_one {ss : List (List UInt8)} {room plan : Int} {down : Bool} {n : ByteArray} {b : List UInt8} {d : Nat} {ks : List Int} (h1 : ss.Pairwise (· < ·)) (h2 : ∀ s : List UInt8, s ∈ ss ↔ ⟨s.toArray⟩ ∈ ([⟨n, b, d⟩] : List DF).map DF.name) :
    crashN ⟨room, [⟨n, b, d⟩], plan, down⟩ ss ks ss.length = ⟨room, [⟨n, b.take (d + cutN ⟨n, b, d⟩ ks[0]?), d + cutN ⟨n, b, d⟩ ks[0]?⟩], 0, false⟩ := by
  obtain rfl := names_one h1 h2
  simp [crashN, crashStep, findD, setD]
end Go.Proofs.YtgdmdbdljmlkkaaGreatDoor
