/- Texts for trimKeeps_holds that the joined texts lack. -/
import Derived.Test.YtgdmdbdljmlkkaaGreatDoorTt01
import Derived.Test.YtgdmdbdljmlkkaaGreatDoorTt02
import Derived.Test.YtgdmdbdljmlkkaaGreatDoorTt03
import Derived.Test.YtgdmdbdljmlkkaaGreatDoorTt04
import Derived.Test.YtgdmdbdljmlkkaaGreatDoorTt05
import Derived.Test.YtgdmdbdljmlkkaaGreatDoorTt06
import Derived.Test.YtgdmdbdljmlkkaaGreatDoorTt07
import Derived.Test.YtgdmdbdljmlkkaaGreatDoorTt08
import Derived.Test.YtgdmdbdljmlkkaaGreatDoorTt09
import Derived.Test.YtgdmdbdljmlkkaaGreatDoorTt10
import Derived.Test.YtgdmdbdljmlkkaaGreatDoorTt11
import Derived.Test.YtgdmdbdljmlkkaaGreatDoorTt12
import Derived.Test.YtgdmdbdljmlkkaaGreatDoorTt13
import Derived.Test.YtgdmdbdljmlkkaaGreatDoorTt14
import Derived.Test.YtgdmdbdljmlkkaaGreatDoorTt15
import Derived.Test.YtgdmdbdljmlkkaaGreatDoorTt16
import Derived.Test.YtgdmdbdljmlkkaaGreatDoorTt17
import Derived.Test.YtgdmdbdljmlkkaaGreatDoorTt18
import Derived.Test.YtgdmdbdljmlkkaaGreatDoorTt19
import Derived.Test.YtgdmdbdljmlkkaaGreatDoorTt20
import Derived.Test.YtgdmdbdljmlkkaaGreatDoorTt21
import Derived.Test.YtgdmdbdljmlkkaaGreatDoorTt22
import Derived.Test.YtgdmdbdljmlkkaaGreatDoorTt23
import Derived.Test.YtgdmdbdljmlkkaaGreatDoorTt24
import Derived.Test.YtgdmdbdljmlkkaaGreatDoorTt25
import Derived.Test.YtgdmdbdljmlkkaaGreatDoorTt26
import Derived.Test.YtgdmdbdljmlkkaaGreatDoorTt27
import Derived.Test.YtgdmdbdljmlkkaaGreatDoorTt28
import Derived.Test.YtgdmdbdljmlkkaaGreatDoorTt29
import Derived.Test.YtgdmdbdljmlkkaaGreatDoorTt30
import Derived.Test.YtgdmdbdljmlkkaaGreatDoorTt31
import Derived.Test.YtgdmdbdljmlkkaaGreatDoorTt32
import Derived.Test.YtgdmdbdljmlkkaaGreatDoorTt33
import Derived.Test.YtgdmdbdljmlkkaaGreatDoorTt34
import Derived.Test.YtgdmdbdljmlkkaaGreatDoorTt35
import Derived.Test.YtgdmdbdljmlkkaaGreatDoorTt36
import Derived.Test.YtgdmdbdljmlkkaaGreatDoorTt37
import Derived.Test.YtgdmdbdljmlkkaaGreatDoorTt38
import Derived.Test.YtgdmdbdljmlkkaaGreatDoorTt39
import Derived.Test.YtgdmdbdljmlkkaaGreatDoorTt40
import Derived.Test.YtgdmdbdljmlkkaaGreatDoorTt42
import Derived.Test.YtgdmdbdljmlkkaaGreatDoorRows
import Derived.ProofKit
import Derived.OpenShut
import Derived.Carry
import Derived.Shelf.Strconv.Itoa0
import Derived.LaidMore
import Derived.Lay
import Derived.Stop.Joined
import Derived.SevenTiedAt
set_option linter.unusedVariables false
set_option linter.unusedSimpArgs false
namespace Go.Proofs.YtgdmdbdljmlkkaaGreatDoor
open Go.RowKit
def cutN (f : DF) (k : Option Int) : Nat := match k with
  | some k => (min (max k 0) ((f.b.length : Int) - f.d)).toNat
  | none => 0
def crashStep (D : DS) (n : ByteArray) (k : Option Int) : DS := match findD D.files n with
  | some f => { D with files := setD D.files n (f.b.take (f.d + cutN f k)) (f.d + cutN f k) }
  | none => D
def crashN (D : DS) (ss : List (List UInt8)) (ks : List Int) : Nat → DS
  | 0 => { D with plan := 0, down := false }
  | m + 1 => match ss[m]? with
    | some s => crashStep (crashN D ss ks m) ⟨s.toArray⟩ ks[m]?
    | none => crashN D ss ks m
theorem crashStep_names (D : DS) (n : ByteArray) (k : Option Int) : (crashStep D n k).files.map DF.name = D.files.map DF.name := by
  unfold crashStep
  split
  · exact setD_names _ _ _ _
  · rfl
theorem crashN_names (D : DS) (ss : List (List UInt8)) (ks : List Int) : ∀ m, (crashN D ss ks m).files.map DF.name = D.files.map DF.name
  | 0 => rfl
  | m + 1 => by
    rw [crashN]
    split
    · rw [crashStep_names, crashN_names D ss ks m]
    · exact crashN_names D ss ks m
theorem DAt.set0 {w w' : World} {D : DS} {S : Nat → Prop} {bx bm : Nat} {col : Nat → Option ByteArray} {pv : ByteArray → Nat} (h : DAt w D S bx bm col pv) {n : ByteArray} {b : List UInt8} {d : Nat} (hch : Chg (fun k => S k ∧ col k = some n) w w') (hfr : FRep w' (pv n) b d (fun k => S k ∧ col k = some n)) :
    DAt w' { D with files := setD D.files n b d } S bx bm col pv where
  blk := (hch.block bx (lt_of_heap h.blk) (fun e => by rw [h.cx.1] at e; cases e.2)).trans h.blk
  mp := by
    have e : fmap (setD D.files n b d) pv = fmap D.files pv := by
      funext x
      unfold fmap
      rw [findD_setD, Option.map_map]
      rfl
    rw [e]
    exact h.mp.frame (hch.block bm h.mp.lt (fun e => by rw [h.cx.2] at e; cases e.2))
  fl := by
    intro f hf
    rcases setD_mem hf with ⟨rfl, -⟩ | ⟨h1, h2⟩
    · exact hfr
    · exact (h.fl f h1).frame (fun k hk hl => hch.block k hl (fun e => by rw [hk.2] at e; exact h2 (Option.some.inj e.2)))
  nd := by rw [setD_names]; exact h.nd
  sx := h.sx
  cx := h.cx
  ne := h.ne
theorem Row.shrink {w : World} {e : TypeId} {a : Option Addr} {n c : Nat} {xs : List Value} {S : Nat → Prop} (h : Row w e 1 (.slice a n c) n xs S) (i : Nat) (hi : i ≤ n) : Row w e 1 (.slice a i c) i (xs.take i) S := by
  obtain ⟨hl, h2⟩ := h
  refine ⟨by rw [List.length_take, hl]; omega, ?_⟩
  rcases h2 with ⟨h, hn⟩ | ⟨g, off, cap, cur, hv, hS, hg, hn, hm, hs, ht⟩
  · cases h
    exact .inl ⟨by congr 1; omega, by omega⟩
  · cases hv
    refine .inr ⟨g, off, c, cur, rfl, hS, hg, by omega, hm, hs, ?_⟩
    rw [← ht, List.take_take]
    congr 1
    omega
set_option maxRecDepth 100000 in
set_option maxHeartbeats 2000000 in
theorem crash_any (x : Value) (ka : Option Addr) (kc : Nat) (ks : List Int) (D : DS) (S : Nat → Prop) (w : World) (h : DRep w x D S) (hl : D.files.length ≤ 100000) (hnm : ∀ f ∈ D.files, f.name.size ≤ maxLen)
    (hk : Reads w (.slice ka ks.length kc) ks.length 1 (ks.map (Value.int .i64))) (hkl : ks.length ≤ 100000) (hnk : ∀ ad, ka = some ad → 0 < ks.length → ¬ S ad.block) :
    Calls Tryz.prog 19 #[x, .slice ka ks.length kc] w fun e w' => ∃ ss : List (List UInt8), (ss.Pairwise (· < ·) ∧ ∀ s : List UInt8, s ∈ ss ↔ ⟨s.toArray⟩ ∈ D.files.map DF.name) ∧
      e = .returned (.tuple #[]) ∧ DRep w' x (crashN D ss ks ss.length) S ∧ Chg S w w' := by
  obtain ⟨bx, bm, col, pv, rfl, h⟩ := h
  have H := Lib.hid h.tight
  have HK := Lib.hid hk
  have HNK := Lib.hid hnk
  have hc2 := cellAt h.blk 2 (v := .int .i64 D.plan) rfl
  have hc3 := cellAt h.blk 3 (v := .bool D.down) rfl
  have hf2 := freeAt h.blk 2
  have hf3 := freeAt h.blk 3
  have HB := Lib.hid (heap_store (heap_store h.blk 2 (.int .i64 0)) 3 (.bool false))
  have HC : Hid (Chg (fun k => k = bx) w ((w.setCell ⟨bx, 2, none⟩ (.int .i64 0)).setCell ⟨bx, 3, none⟩ (.bool false))) := ((Chg.refl (fun k => k = bx) _).setCell (p := ⟨bx, 2, none⟩) (.inl rfl) _).setCell (p := ⟨bx, 3, none⟩) (.inl rfl) _
  have HD1 := Lib.hid (H.out.head { D with plan := 0, down := false } rfl HB.out HC.out)
  have HCS := Lib.hid (HC.out.mono (T := fun k => S k ∧ k < w.heap.size) (fun k hk => by rw [hk]; exact H.out.sx.1))
  clear h hk hnk
  go_enter Tryz.func19, Tryz.ntmps19
  go_upto_region 2 with fail
  generalize ((w.setCell ⟨bx, 2, none⟩ (.int .i64 0)).setCell ⟨bx, 3, none⟩ (.bool false)) = wa at *
  clear hc2 hc3 hf2 hf3 HB HC
  have HLI := Lib.hid (list_any (.pointer (some ⟨bx, 0, none⟩)) { D with plan := 0, down := false } _ wa ⟨bx, bm, col, pv, rfl, HD1.out⟩ hl hnm)
  go_wp2_with fail
  refine HLI.out.mono ?_
  rintro e w2 ⟨v, ss, rfl, hr, hb, hsort, hmem⟩
  obtain ⟨a0, c0, rfl, hc0⟩ : ∃ a0 c0, v = .slice a0 ss.length c0 ∧ ss.length ≤ c0 := by obtain ⟨-, a0, c0, h, hle, -⟩ := hr.reads; exact ⟨a0, c0, h, hle⟩
  have hml : ss.length ≤ maxLen := by
    rcases hr.2 with ⟨_, h0⟩ | ⟨g, off, cap, cur, hv, _, _, hn, hm, _⟩
    · rw [h0]; unfold maxLen; omega
    · omega
  unfold maxLen at hml
  have HR := Lib.hid hr
  have HSO := Lib.hid hsort
  have HME := Lib.hid hmem
  have HD2 := Lib.hid (HD1.out.frame (fun k _ hk => hb.block k hk))
  have HC2 := Lib.hid (HCS.out.trans (Chg.ofBelow (S := fun k => S k ∧ k < w.heap.size) hb) (fun k hk => .inl hk))
  have hsz := HCS.out.size
  have hsz2 := hb.size
  clear HLI hr hb hsort hmem HD1
  go_wp2_with fail
  go_loopw [19] (fun i w' => ∃ m : Nat, m ≤ ss.length ∧ i = .int .i64 m ∧ Hid (DAt w' (crashN D ss ks m) (fun k => S k ∧ k < w.heap.size) bx bm col pv) ∧ Hid (Chg (fun k => S k ∧ k < w.heap.size) w2 w')) (fun i _ => ss.length - (RowKit.intOf i).toNat)
  case atStart => exact ⟨0, by omega, rfl, HD2, Chg.refl _ _⟩
  case round =>
    obtain ⟨m, hm, rfl, HDm, HCm⟩ := hrel
    by_cases hlt : m < ss.length
    · have hrow := (HR.out.frame (w' := wr) (fun k hk hl => HCm.out.block k hl (fun e => by omega))).reads
      obtain ⟨b, o, c', hv, -, -, hcn⟩ := hrow.at (by omega)
      cases hv
      have hn0 : wr.cell? ⟨b, o + m, none⟩ = some (.string ⟨ss[m].toArray⟩) := hcn m _ (by rw [List.getElem?_map, List.getElem?_eq_getElem hlt]; rfl)
      have hin : (⟨ss[m].toArray⟩ : ByteArray) ∈ (crashN D ss ks m).files.map DF.name := by
        rw [crashN_names]; exact (HME.out ss[m]).1 (List.getElem_mem hlt)
      obtain ⟨n, hn⟩ : ∃ n, n = (⟨ss[m].toArray⟩ : ByteArray) := ⟨_, rfl⟩
      have HCR : Hid (crashN D ss ks (m + 1) = crashStep (crashN D ss ks m) n ks[m]?) := by
        rw [Hid, crashN, List.getElem?_eq_getElem hlt, hn]
      rw [← hn] at hn0 hin
      clear hn hcn hrow
      obtain ⟨f, hf⟩ : ∃ f, findD (crashN D ss ks m).files n = some f := by
        cases hf : findD (crashN D ss ks m).files n with
        | none => exact absurd hin (findD_none.1 hf)
        | some f => exact ⟨f, rfl⟩
      have hlk := look_f HDm.out.mp n false
      rw [fmap_some hf] at hlk
      simp only [Bool.false_eq_true, if_false] at hlk
      have hx1 := cellAt HDm.out.blk 1 (v := .map (some bm)) rfl
      obtain ⟨hfn, hfm⟩ := findD_name hf
      have hfr := HDm.out.fl f hfm
      rw [hfn] at hfr
      obtain ⟨a, c, T, h1, h2, h3, h4, h5, h6, h7⟩ := hfr
      unfold maxLen at h7
      have hp0 := cellAt h1 0 (v := .slice a f.b.length c) rfl
      have hp1 := cellAt h1 1 (v := .int .i64 f.d) rfl
      have hf0 := freeAt h1 0
      have hf1 := freeAt h1 1
      have hcap : f.b.length ≤ c := by obtain ⟨-, a', c', h, hle, -⟩ := h2.reads; cases h; exact hle
      have HF1 := Lib.hid h1
      have HROW := Lib.hid h2
      have HT3 := Lib.hid h3
      have HT4 := Lib.hid h4
      have HT5 := Lib.hid h5
      have HKr := Lib.hid ((HK.out.chg (HC2.out.trans HCm.out (fun k hk => .inl hk)) (fun ad had hp e => HNK.out ad had (by rwa [List.length_map] at hp) e.1)))
      have HFD := Lib.hid hf
      clear h1 h2 h3 h4 h5 hfn hfm hin hf
      have HCRQ : Hid (crashN D ss ks (m + 1) = { crashN D ss ks m with files := setD (crashN D ss ks m).files n (f.b.take (f.d + cutN f ks[m]?)) (f.d + cutN f ks[m]?) }) := by
        rw [Hid, HCR.out, crashStep, HFD.out]
      by_cases hkm : m < ks.length
      · obtain ⟨kb, ko, c', hv, -, -, hcn⟩ := HKr.out.at (by omega)
        cases hv
        have hk0 : wr.cell? ⟨kb, ko + m, none⟩ = some (.int .i64 ks[m]) := hcn m _ (by rw [List.getElem?_map, List.getElem?_eq_getElem hkm]; rfl)
        clear hcn
        go_upto_region 7 with fail
        go_quiet (fail)
        obtain ⟨q, hq⟩ : ∃ q, q = cutN f ks[m]? := ⟨_, rfl⟩
        have hz : min (max ks[m] 0) ((f.b.length : Int) - f.d) = (q : Int) := by
          rw [hq, List.getElem?_eq_getElem hkm]; unfold cutN; simp only; omega
        rw [hz]
        rw [← hq] at HCRQ
        have hqle : f.d + q ≤ f.b.length := by
          rw [hq]; unfold cutN; split <;> omega
        obtain ⟨r, hr⟩ : ∃ r, r = f.d + q := ⟨_, rfl⟩
        have hwr : IntKind.i64.wrap ((f.d : Int) + (q : Int)) = (r : Int) := by rw [IntWalk.i64_in _ (by omega), hr]; omega
        have hrc : (r : Int) ≤ (c : Int) := by omega
        have hrl : r ≤ f.b.length := by omega
        rw [← hr] at HCRQ
        clear hr hqle
        have HDq : Hid (DAt (wr.drewN nq) (crashN D ss ks m) (fun k => S k ∧ k < w.heap.size) bx bm col pv) := HDm.out.frame (fun _ _ _ => rfl)
        have HFq : Hid ((wr.drewN nq).heap[pv n]? = some (.cells #[.slice a f.b.length c, .int .i64 f.d] 118 (0, 0))) := HF1.out
        have HRq : Hid (Row (wr.drewN nq) 5 1 (.slice a f.b.length c) f.b.length (byts f.b) T) := HROW.out.frame (fun _ _ _ => rfl)
        have HCq : Hid (Chg (fun k => S k ∧ k < w.heap.size) w2 (wr.drewN nq)) := HCm.out.drewN nq
        clear hp0 hp1 hf0 hf1 hk0 hz hq hlk hx1 hn0 HF1 HROW HDm HCm HKr
        generalize wr.drewN nq = wq at *
        have hp0 := cellAt HFq.out 0 (v := .slice a f.b.length c) rfl
        have hp1 := cellAt HFq.out 1 (v := .int .i64 f.d) rfl
        have hf0 := freeAt HFq.out 0
        go_upto_region 8 with fail
        go_region_law (fail)
        all_goals
          have HS1 : Hid ((wq.setCell ⟨pv n, 0, none⟩ (.slice a r c)).drew.heap[pv n]? = _) := heap_store HFq.out 0 (.slice a r c)
          have HC1 : Hid (Chg (fun k => (S k ∧ k < w.heap.size) ∧ col k = some n) wq (wq.setCell ⟨pv n, 0, none⟩ (.slice a r c)).drew) := ((Chg.refl _ _).setCell (p := ⟨pv n, 0, none⟩) (.inl HT3.out) _).drew
          have HO5 : Hid (∀ k, k ≠ pv n → (wq.setCell ⟨pv n, 0, none⟩ (.slice a r c)).drew.heap[k]? = wq.heap[k]?) := fun k hne => Below.heap_setCell _ _ _ _ hne
          generalize (wq.setCell ⟨pv n, 0, none⟩ (.slice a r c)).drew = w5 at *
          have hq0 := cellAt HS1.out 0 (v := .slice a r c) rfl
          have hq1 := cellAt HS1.out 1 (v := .int .i64 f.d) rfl
          have hg1 := freeAt HS1.out 1
          clear hp0 hp1 hf0 hwr
          have HS2 := Lib.hid (heap_store HS1.out 1 (.int .i64 r))
          have HC3 : Hid (Chg (fun k => (S k ∧ k < w.heap.size) ∧ col k = some n) wq (w5.setCell ⟨pv n, 1, none⟩ (.int .i64 r))) := HC1.out.setCell (p := ⟨pv n, 1, none⟩) (.inl HT3.out) _
          have HC3O : Hid (∀ k, k < wq.heap.size → k ≠ pv n → (w5.setCell ⟨pv n, 1, none⟩ (.int .i64 r)).heap[k]? = wq.heap[k]?) := fun k hl hne => (Below.heap_setCell _ _ _ _ hne).trans (HO5.out k hne)
          have HFR : Hid (FRep (w5.setCell ⟨pv n, 1, none⟩ (.int .i64 r)) (pv n) (f.b.take r) r (fun k => (S k ∧ k < w.heap.size) ∧ col k = some n)) := by
            have hlen : (f.b.take r).length = r := by rw [List.length_take]; omega
            refine ⟨a, c, T, by rw [hlen]; exact HS2.out, ?_, HT3.out, HT4.out, HT5.out, by omega, by unfold maxLen; omega⟩
            rw [hlen, show byts (f.b.take r) = (byts f.b).take r from List.map_take]
            exact (HRq.out.shrink r hrl).frame (fun k hk hl => by
              have hT := HT5.out k hk
              have hne : k ≠ pv n := fun e => by subst e; exact HT4.out hk
              exact HC3O.out k hl hne)
          have HN := Lib.hid (HDq.out.set0 HC3.out HFR.out)
          have HCN := Lib.hid (HCq.out.trans (HC3.out.mono (T := fun k => S k ∧ k < w.heap.size) (fun k hk => hk.1)) (fun k hk => .inl hk))
          rw [← HCRQ.out] at HN
          go_wp2
          go_roundw
          case rel => exact ⟨m + 1, by omega, by go_num, HN, HCN⟩
          case measure => simp [RowKit.intOf]; omega
      · have hz : cutN f ks[m]? = 0 := by rw [List.getElem?_eq_none (by omega)]; rfl
        have hwr0 : IntKind.i64.wrap (f.d : Int) = (f.d : Int) := IntWalk.i64_in _ (by omega)
        have hrc : (f.d : Int) ≤ (c : Int) := by omega
        have hrl : f.d ≤ f.b.length := h6
        have HCRQ := Lib.hid (show crashN D ss ks (m + 1) = { crashN D ss ks m with files := setD (crashN D ss ks m).files n (f.b.take f.d) f.d } by rw [HCRQ.out, hz]; rfl)
        go_upto_region 8 with fail
        have HDq : Hid (DAt wr (crashN D ss ks m) (fun k => S k ∧ k < w.heap.size) bx bm col pv) := HDm
        have HFq : Hid (wr.heap[pv n]? = some (.cells #[.slice a f.b.length c, .int .i64 f.d] 118 (0, 0))) := HF1
        have HRq : Hid (Row wr 5 1 (.slice a f.b.length c) f.b.length (byts f.b) T) := HROW
        have HCq : Hid (Chg (fun k => S k ∧ k < w.heap.size) w2 wr) := HCm
        clear hp1 hf1 hz hlk hx1 hn0 HF1 HROW HDm HCm HKr
        have hp1 := cellAt HFq.out 1 (v := .int .i64 f.d) rfl
        generalize wr = wq at *
        go_region_law (fail)
        all_goals
          have HS1 : Hid ((wq.setCell ⟨pv n, 0, none⟩ (.slice a f.d c)).drew.heap[pv n]? = _) := heap_store HFq.out 0 (.slice a f.d c)
          have HC1 : Hid (Chg (fun k => (S k ∧ k < w.heap.size) ∧ col k = some n) wq (wq.setCell ⟨pv n, 0, none⟩ (.slice a f.d c)).drew) := ((Chg.refl _ _).setCell (p := ⟨pv n, 0, none⟩) (.inl HT3.out) _).drew
          have HO5 : Hid (∀ k, k ≠ pv n → (wq.setCell ⟨pv n, 0, none⟩ (.slice a f.d c)).drew.heap[k]? = wq.heap[k]?) := fun k hne => Below.heap_setCell _ _ _ _ hne
          generalize (wq.setCell ⟨pv n, 0, none⟩ (.slice a f.d c)).drew = w5 at *
          have hq0 := cellAt HS1.out 0 (v := .slice a f.d c) rfl
          have hq1 := cellAt HS1.out 1 (v := .int .i64 f.d) rfl
          have hg1 := freeAt HS1.out 1
          clear hp0 hp1 hf0 hwr0
          have HS2 := Lib.hid (heap_store HS1.out 1 (.int .i64 f.d))
          have HC3 : Hid (Chg (fun k => (S k ∧ k < w.heap.size) ∧ col k = some n) wq (w5.setCell ⟨pv n, 1, none⟩ (.int .i64 f.d))) := HC1.out.setCell (p := ⟨pv n, 1, none⟩) (.inl HT3.out) _
          have HC3O : Hid (∀ k, k < wq.heap.size → k ≠ pv n → (w5.setCell ⟨pv n, 1, none⟩ (.int .i64 f.d)).heap[k]? = wq.heap[k]?) := fun k hl hne => (Below.heap_setCell _ _ _ _ hne).trans (HO5.out k hne)
          have HFR : Hid (FRep (w5.setCell ⟨pv n, 1, none⟩ (.int .i64 f.d)) (pv n) (f.b.take f.d) f.d (fun k => (S k ∧ k < w.heap.size) ∧ col k = some n)) := by
            have hlen : (f.b.take f.d).length = f.d := by rw [List.length_take]; omega
            refine ⟨a, c, T, by rw [hlen]; exact HS2.out, ?_, HT3.out, HT4.out, HT5.out, by omega, by unfold maxLen; omega⟩
            rw [hlen, show byts (f.b.take f.d) = (byts f.b).take f.d from List.map_take]
            exact (HRq.out.shrink f.d hrl).frame (fun k hk hl => by
              have hT := HT5.out k hk
              have hne : k ≠ pv n := fun e => by subst e; exact HT4.out hk
              exact HC3O.out k hl hne)
          have HN := Lib.hid (HDq.out.set0 HC3.out HFR.out)
          have HCN := Lib.hid (HCq.out.trans (HC3.out.mono (T := fun k => S k ∧ k < w.heap.size) (fun k hk => hk.1)) (fun k hk => .inl hk))
          rw [← HCRQ.out] at HN
          go_wp2
          go_roundw
          case rel => exact ⟨m + 1, by omega, by go_num, HN, HCN⟩
          case measure => simp [RowKit.intOf]; omega
    · obtain rfl : m = ss.length := by omega
      go_wp2
      go_end0
      exact ⟨ss, ⟨HSO.out, HME.out⟩, rfl, ⟨bx, bm, col, pv, rfl, HDm.out.mono (fun k hk => hk.1)⟩, (HC2.out.trans HCm.out (fun k hk => .inl hk)).mono (fun k hk => hk.1)⟩
end Go.Proofs.YtgdmdbdljmlkkaaGreatDoor
namespace Go.Proofs.YtgdmdbdljmlkkaaGreatDoor
open Go.RowKit
section
variable {w0 w : World} {x : Value} {D : DS}
end
end Go.Proofs.YtgdmdbdljmlkkaaGreatDoor
namespace Go.Proofs.YtgdmdbdljmlkkaaGreatDoor
open Go.RowKit
instance : DecidableEq DF := fun a b => decidable_of_iff (a.name = b.name ∧ a.b = b.b ∧ a.d = b.d) (by cases a; cases b; simp)
section
variable {D F : DS} (h : Rel D F)
include h
end
end Go.Proofs.YtgdmdbdljmlkkaaGreatDoor
namespace Go.Proofs.YtgdmdbdljmlkkaaGreatDoor
open Go.RowKit
def cutF (f : DF) (k : Option Int) : DF := ⟨f.name, f.b.take (f.d + cutN f k), f.d + cutN f k⟩
def crashF (l : List DF) (ks : List Int) : List DF := l.mapIdx fun i f => cutF f ks[i]?
theorem crashF_names (l : List DF) (ks : List Int) : (crashF l ks).map DF.name = l.map DF.name := by
  apply List.ext_getElem
  · simp [crashF]
  · intro i h1 h2
    simp [crashF, cutF]
theorem crashN_head (D : DS) (ss : List (List UInt8)) (ks : List Int) : ∀ m, (crashN D ss ks m).room = D.room ∧ (crashN D ss ks m).plan = 0 ∧ (crashN D ss ks m).down = false
  | 0 => ⟨rfl, rfl, rfl⟩
  | m + 1 => by
    have ih := crashN_head D ss ks m
    rw [crashN]
    split
    · unfold crashStep
      split
      · exact ih
      · exact ih
    · exact ih
theorem findD_names {l : List DF} {x : ByteArray} (h : x ∉ l.map DF.name) : findD l x = none := findD_none.2 h
theorem crashN_find {D F : DS} (h : Rel D F) (ks : List Int) (x : ByteArray) : ∀ m, m ≤ F.files.length →
    findD (crashN D (F.files.map fun f => f.name.toList) ks m).files x = findD (crashF (F.files.take m) ks ++ F.files.drop m) x
  | 0, _ => by simp [crashN, crashF, h.same]
  | m + 1, hm => by
    have hlt : m < F.files.length := hm
    have ih := fun y => crashN_find h ks y m (Nat.le_of_succ_le hm)
    have hnd := sorted_nodup h.so
    obtain ⟨g, hg⟩ : ∃ g, g = F.files[m] := ⟨_, rfl⟩
    have hdrop : F.files.drop m = g :: F.files.drop (m + 1) := by rw [List.drop_eq_getElem_cons hlt, hg]
    have htake : crashF (F.files.take (m + 1)) ks = crashF (F.files.take m) ks ++ [cutF g ks[m]?] := by
      unfold crashF
      rw [List.take_succ_eq_append_getElem hlt, List.mapIdx_append, hg]
      congr 1
      simp [List.length_take, Nat.min_eq_left (Nat.le_of_lt hlt)]
    have hnA : findD (crashF (F.files.take m) ks) g.name = none := by
      refine findD_names ?_
      rw [crashF_names]
      intro hmem
      have h9 : (F.files.take m ++ F.files.drop m).map DF.name = F.files.map DF.name := by rw [List.take_append_drop]
      rw [← h9, List.map_append, List.nodup_append] at hnd
      exact hnd.2.2 _ hmem _ (by rw [hdrop]; simp) rfl
    have hfg : findD (crashN D (F.files.map fun f => f.name.toList) ks m).files g.name = some g := by
      rw [ih, findD_append, hnA, hdrop, findD, if_pos rfl]; rfl
    have hst : crashN D (F.files.map fun f => f.name.toList) ks (m + 1) = { crashN D (F.files.map fun f => f.name.toList) ks m with files := setD (crashN D (F.files.map fun f => f.name.toList) ks m).files g.name (g.b.take (g.d + cutN g ks[m]?)) (g.d + cutN g ks[m]?) } := by
      rw [crashN]
      have hget : (F.files.map fun f => f.name.toList)[m]? = some g.name.toList := by rw [List.getElem?_map, List.getElem?_eq_getElem hlt, hg]; rfl
      simp only [hget, crashStep, mk_toList, hfg]
    rw [hst]
    show findD (setD _ _ _ _) x = _
    rw [findD_setD, ih, htake, hdrop]
    by_cases hx : x = g.name
    · subst hx
      simp only [findD_append, hnA, findD, cutF, if_true, Option.none_or, Option.some_or, Option.map_some]
    · have hx' : ¬ g.name = x := fun e => hx e.symm
      have e1 : findD (crashF (F.files.take m) ks ++ g :: F.files.drop (m + 1)) x = findD (crashF (F.files.take m) ks ++ [cutF g ks[m]?] ++ F.files.drop (m + 1)) x := by
        simp only [findD_append, findD, cutF, if_neg hx', Option.or_none]
      rw [e1]
      cases hq : findD (crashF (F.files.take m) ks ++ [cutF g ks[m]?] ++ F.files.drop (m + 1)) x with
      | none => rfl
      | some f =>
        have := (findD_name hq).1
        simp only [Option.map_some]
        rw [if_neg (fun e => hx (by rw [← this, e]))]
theorem rel_crash {D F : DS} (h : Rel D F) {ss : List (List UInt8)} (h1 : ss.Pairwise (· < ·)) (h2 : ∀ s : List UInt8, s ∈ ss ↔ ⟨s.toArray⟩ ∈ D.files.map DF.name) (ks : List Int) :
    Rel (crashN D ss ks ss.length) ⟨F.room, crashF F.files ks, 0, false⟩ := by
  obtain rfl := rel_names h h1 h2
  have hh := crashN_head D (F.files.map fun f => f.name.toList) ks (F.files.map fun f => f.name.toList).length
  refine ⟨hh.1.trans h.room, hh.2.1, hh.2.2, by rw [crashN_names]; exact h.nd, ?_, fun x => ?_⟩
  · show (crashF F.files ks).Pairwise below
    have h9 : ((crashF F.files ks).map DF.name).Pairwise (fun a b => a.toList < b.toList) := by rw [crashF_names, List.pairwise_map]; exact h.so
    rw [List.pairwise_map] at h9
    exact h9
  · have := crashN_find h ks x F.files.length (Nat.le_refl _)
    rw [List.length_map, this, List.take_length, List.drop_length, List.append_nil]
end Go.Proofs.YtgdmdbdljmlkkaaGreatDoor
namespace Go.Proofs.YtgdmdbdljmlkkaaGreatDoor
open Go.RowKit
theorem bnd_crash {D : DS} {s n : Nat} (h : Bnd D s n) (ss : List (List UInt8)) (ks : List Int) : ∀ m, Bnd (crashN D ss ks m) s n
  | 0 => ⟨h.sum, h.len, h.nm, h.nd, by show (0 : Int) ≤ 0 ∧ (0 : Int) ≤ 9223372036854775807; omega⟩
  | m + 1 => by
    have ih := bnd_crash h ss ks m
    rw [crashN]
    split
    · unfold crashStep
      split
      · rename_i f hf
        have := bnd_set (t := 0) ih hf (f.b.take (f.d + cutN f ks[m]?)) (f.d + cutN f ks[m]?) (by rw [List.length_take]; omega)
        simpa using this
      · exact ih
    · exact ih
end Go.Proofs.YtgdmdbdljmlkkaaGreatDoor
namespace Go.Proofs.YtgdmdbdljmlkkaaGreatDoor
open Go.RowKit
section
variable {φ0 φ ψ : FN} {L : List Int} {last : Int} {front : List UInt8} {j k : Nat}
end
theorem cutN_zero {f : DF} (h : f.d = f.b.length) (k : Option Int) : cutN f k = 0 := by
  unfold cutN
  split
  · omega
  · rfl
theorem cutF_same {f : DF} (h : f.d = f.b.length) (k : Option Int) : cutF f k = f := by
  unfold cutF
  rw [cutN_zero h, Nat.add_zero, h, List.take_length, ← h]
end Go.Proofs.YtgdmdbdljmlkkaaGreatDoor
namespace Go.Proofs.YtgdmdbdljmlkkaaGreatDoor
open Go.ChangeShapes Go.WideShapes Go.ChangeAt Go.RowKit
section
variable {H : Type} {enc : TypeId × Value → H}
end
set_option maxRecDepth 100000 in
theorem open_u8s {H : Type} {enc : TypeId × Value → H} {W : World} {base : Nat} {v : Value} {d : DataW H} {p : List MemPlace} (hval : Value.okWide Tryz.prog W .any base 72 v) (h : DataW.Trod enc Tryz.prog W 0 (fun _ => true) true 72 v d p) :
    ∃ xs : List Nat, Reads W v xs.length 1 (xs.map fun b : Nat => Value.int .u8 (b : Int)) ∧ xs.length ≤ maxLen ∧ ∀ b ∈ xs, b < 256 := by
  obtain ⟨a0, len0, cap0, rfl⟩ := okWide_slice Tryz.underlying72 hval
  obtain ⟨fuel, hf⟩ := h
  rcases open_ints Tryz.underlying72 Tryz.underlying5 (by kernel_rfl) hf with ⟨hcs, _⟩ | ⟨a, len, cap, zs, hcs, _, hl, hm, hz, _, hcell, hw⟩
  · simp [Value.cells] at hcs
    obtain ⟨rfl, rfl, rfl⟩ := hcs
    exact ⟨[], Reads.nil _ _, Nat.zero_le _, by simp⟩
  · simp [Value.cells] at hcs
    obtain ⟨rfl, rfl, rfl⟩ := hcs
    simp only [if_true] at hz
    have hlz : ((zs.take len0).map Int.toNat).length = len0 := by rw [List.length_map, List.length_take]; omega
    refine ⟨(zs.take len0).map Int.toNat, ?_, by rw [hlz]; omega, fun b hb => ?_⟩
    · rw [hlz]
      refine ⟨by rw [List.length_map, hlz, Nat.mul_one], _, cap0, rfl, hl, (fun h => by cases h), fun ad had j u hu => ?_⟩
      cases had
      rw [List.getElem?_map] at hu
      obtain ⟨s, hs, rfl⟩ := Option.map_eq_some_iff.1 hu
      have hj : j < len0 := by have := (List.getElem?_eq_some_iff.1 hs).1; omega
      rw [hcell j (by omega)]
      rw [List.getElem?_map, List.getElem?_take_of_lt hj] at hs
      obtain ⟨z, hz', rfl⟩ := Option.map_eq_some_iff.1 hs
      have hb := range_u8 hw j
      rw [hz'] at hb
      rw [show zs.getD j 0 = z by simp [List.getD, hz']]
      simp only [Option.getD_some] at hb
      congr 2; omega
    · obtain ⟨z, hz', rfl⟩ := List.mem_map.1 hb
      have hb := hw z (List.mem_of_mem_take hz')
      have h1 : IntKind.u8.max = 255 := rfl
      simp only [Lit.wf, Bool.and_eq_true, decide_eq_true_eq] at hb
      omega
end Go.Proofs.YtgdmdbdljmlkkaaGreatDoor
namespace Go.Proofs.YtgdmdbdljmlkkaaGreatDoor
open Go.ChangeShapes Go.WideShapes Go.ChangeAt Go.RowKit
set_option maxRecDepth 100000 in
theorem openBy {H : Type} {enc : TypeId × Value → H} {W : World} {base : Nat} {v1 : Value} {d1 : DataW H} {p1 : List MemPlace} (hval : Value.okWide Tryz.prog W .any base 72 v1) (h1 : DataW.Trod enc Tryz.prog W 0 (fun _ => true) true 72 v1 d1 p1) :
    ∃ (b : List UInt8) (a : Option Addr) (c : Nat), v1 = .slice a b.length c ∧ Reads W (.slice a b.length c) b.length 1 (byts b) ∧ (∀ ad, a = some ad → 0 < b.length → ad.block < W.heap.size) ∧ b.length ≤ maxLen := by
  obtain ⟨a1, len, cap, rfl⟩ := okWide_slice Tryz.underlying72 hval
  obtain ⟨fuel, hf⟩ := h1
  have hlt := DataW.trod_lt fuel _ _ _ hf
  rcases open_ints Tryz.underlying72 Tryz.underlying5 cellsU8 hf with ⟨hcs, hx⟩ | ⟨a, len', cap', zs, hcs, _, hl, hm, hz, hx, hcell, hwz⟩
  · simp [Value.cells] at hcs
    obtain ⟨rfl, rfl, rfl⟩ := hcs
    exact ⟨[], none, 0, rfl, Reads.nil _ _, (fun ad h _ => by cases h), Nat.zero_le _⟩
  · simp [Value.cells] at hcs
    obtain ⟨rfl, rfl, rfl⟩ := hcs
    simp only [if_true] at hz
    have hlen : ((zs.take len).map fun n => UInt8.ofNat n.toNat).length = len := by simp; omega
    have hrd : Reads W (.slice (some a) len cap) len 1 (byts ((zs.take len).map fun n => UInt8.ofNat n.toNat)) := by
      refine ⟨by rw [byts_length, hlen, Nat.mul_one], _, cap, rfl, hl, (fun h => by cases h), fun ad had j u hu => ?_⟩
      cases had
      have hj : j < len := by have := (List.getElem?_eq_some_iff.1 hu).1; rw [byts_length, hlen] at this; exact this
      rw [hcell j (by omega), ← hu, byts, List.getElem?_map, List.getElem?_map, List.getElem?_take_of_lt hj, List.getElem?_eq_getElem (show j < zs.length by omega)]
      have hb := range_u8 hwz j
      rw [List.getElem?_eq_getElem (show j < zs.length by omega)] at hb
      simp only [Option.getD_some] at hb
      simp only [Option.map_some, u8v, List.getD_eq_getElem?_getD, List.getElem?_eq_getElem (show j < zs.length by omega), Option.getD_some]
      congr 2
      simp only [UInt8.toNat_ofNat']
      omega
    refine ⟨(zs.take len).map fun n => UInt8.ofNat n.toNat, some a, cap, by rw [hlen], by rw [hlen]; exact hrd, fun ad had h0 => ?_, by rw [hlen]; omega⟩
    cases had
    rw [hlen] at h0
    exact World.block_lt_of_cell? W a (by have := hcell 0 (by omega); simpa [Addr.add] using this)
end Go.Proofs.YtgdmdbdljmlkkaaGreatDoor
namespace Go.Proofs.YtgdmdbdljmlkkaaGreatDoor
open Go.RowKit
section
variable {w0 w w' : World} {bl bx B : Nat} {L M : LS} {a : Option Addr} {c : Nat} {R : List RF} {S T : Nat → Prop} {s q : Nat}
theorem DuelL.later (h : DuelL w0 w bl bx B L M a c R S T s q) (hb : Below w.heap.size w w') : DuelL w0 w' bl bx B L M a c R S T s q :=
  ⟨h.d.later hb, (hb.block _ (lt_of_heap h.blk)).trans h.blk, h.bS, h.bT, h.bB⟩
end
end Go.Proofs.YtgdmdbdljmlkkaaGreatDoor
namespace Go.Proofs.YtgdmdbdljmlkkaaGreatDoor
open Go.RowKit
theorem DuelR.disk {w0 w w' : World} {bl bx : Nat} {L M : LS} {a : Option Addr} {c : Nat} {R : List RF} {S T : Nat → Prop} {s q : Nat} (h : DuelR w0 w bl bx L M a c R S T s q) {D' : DS} (hd : DRep w' (.pointer (some ⟨bx, 0, none⟩)) D' (fun k => S k ∧ k ≠ bl)) (hc : Chg (fun k => S k ∧ k ≠ bl) w w') (hrel : Rel D' M.D) (hb : Bnd D' s (q + 1)) :
    DuelR w0 w' bl bx { L with D := D' } M a c R S T s q := by
  have h1 := hc.size
  exact ⟨⟨(hc.block bl (lt_of_heap h.log.blk) (fun e => e.2 rfl)).trans h.log.blk, hd, h.log.own⟩, h.lst.frame (fun k hk hl => hc.block k hl (fun e => (h.sT k hk).2.2 e.1)), h.files, ⟨h.rel.n, h.rel.size, h.rel.waiting, h.rel.most, hrel⟩, ⟨hb, h.bnd.n0, h.bnd.size, h.bnd.waiting⟩, h.bel.trans (hc.toBelow h.bel.size (fun k hk e => by have := (h.sS k e.1).1; omega)), fun k hk => ⟨(h.sS k hk).1, by have := (h.sS k hk).2; omega⟩, fun k hk => ⟨(h.sT k hk).1, by have := (h.sT k hk).2.1; omega, (h.sT k hk).2.2⟩, h.most⟩
theorem DuelL.disk {w0 w w' : World} {bl bx B : Nat} {L M : LS} {a : Option Addr} {c : Nat} {R : List RF} {S T : Nat → Prop} {s q : Nat} (h : DuelL w0 w bl bx B L M a c R S T s q) {D' : DS} (hd : DRep w' (.pointer (some ⟨bx, 0, none⟩)) D' (fun k => S k ∧ k ≠ bl)) (hc : Chg (fun k => S k ∧ k ≠ bl) w w') (hrel : Rel D' M.D) (hb : Bnd D' s (q + 1)) :
    DuelL w0 w' bl bx B { L with D := D' } M a c R S T s q :=
  ⟨h.d.disk hd hc hrel hb, hc.heap h.blk (fun e => h.bS e.1), h.bS, h.bT, h.bB⟩
theorem crash_segK (room : Int) (n : Nat) (P : List (List UInt8)) : (⟨room, crashF (segK n P).files [], 0, false⟩ : DS) = segD room (segK n P) := by
  unfold segD
  rw [segK_files]
  have e : cutF (⟨nameI ((n : Int) + 1), framesB ([] :: P), (framesB ([] :: P)).length⟩ : DF) none = ⟨nameI ((n : Int) + 1), framesB ([] :: P), (framesB ([] :: P)).length⟩ := cutF_same rfl none
  have e2 : crashF [(⟨nameI ((n : Int) + 1), framesB ([] :: P), (framesB ([] :: P)).length⟩ : DF)] [] = [cutF ⟨nameI ((n : Int) + 1), framesB ([] :: P), (framesB ([] :: P)).length⟩ none] := rfl
  rw [e2, e]
theorem belh_end {w w1 w2 : World} (h0 : Hid (Below w.heap.size w w1)) (h1 : Hid (Below w1.heap.size w1 w2)) : Below w.heap.size w w2 := h0.out.trans (h1.out.mono h0.out.size)
end Go.Proofs.YtgdmdbdljmlkkaaGreatDoor
