/- The reference of an inbox: Take, when there is no value. -/
import Derived.Test.YtbofbboogmeneaaRef22g
namespace Go.Proofs.Ytbofbboogmeneaa
set_option linter.unusedVariables false
set_option linter.unusedSimpArgs false
open Go.RowKit

section
variable {wd w1 : World} {T : TypeId} {sz n : Nat} {v1 : Value} {xs : List Value} {E : Obj}
/-- The same where no order is drawn. -/
theorem row_first (hr : Row w1 T sz v1 (0 + n) ([] ++ xs) (fun k => k = wd.heap.size ∨ (wd.alloc E).heap.size ≤ k)) (hc : Chg (fun k => k = wd.heap.size) (wd.alloc E) w1) :
    Row w1 T sz v1 n xs (fun k => wd.heap.size ≤ k) ∧ Below wd.heap.size wd w1 := by
  rw [Nat.zero_add, List.nil_append] at hr
  refine ⟨hr.mono (fun k hk => ?_), ((Below.refl wd.heap.size wd).alloc (Nat.le_refl _) _).trans (hc.toBelow (by simp) (fun j hj e => by have e2 : j = wd.heap.size := e; omega))⟩
  simp only [World.size_alloc] at hk; omega
end
theorem place_in {l : List Nat} {k : Nat} (h : k ∈ l) : ∃ m : Nat, placeZ l k = (m : Int) := by
  unfold placeZ
  cases he : l.idxOf? k with
  | none => exact absurd h (List.idxOf?_eq_none_iff.1 he)
  | some m => exact ⟨m, rfl⟩

set_option maxRecDepth 100000 in
set_option maxHeartbeats 1000000 in
theorem rtake_zero (lv wv : Value) (L : List (ByteArray × VV)) (Ws : List (ByteArray × Nat)) (R : Nat → Prop) (name : ByteArray) (id : Nat) (w : World) (h' : LRow w lv L R) (h : WRow w wv Ws R) (hLL : L.length ≤ 300) (hL : Ws.length ≤ 300) (hlow : ∀ j (hj : j < L.length), L[j].1 ≠ name) (h0 : id = 0) :
    Calls Try.prog 48 #[.agg #[lv, wv], .string name, .int .u64 id] w fun e w' => e = .returned (.tuple #[.agg #[lv, wv], .agg #[.int .i64 0, .int .i64 0, .float .f64 0, .string ⟨#[]⟩, .slice none 0 0], .bool false]) ∧ Below w.heap.size w w' := by
  have HL0 := Lib.hid h'.reads
  have HW0 := Lib.hid h.reads
  have HWAITS : Hid (∀ w', Below w.heap.size w w' → Calls Try.prog 64 #[.agg #[lv, wv], .int .u64 id] w' fun e w'' => e = .returned (.int .i64 (placeZ (Ws.map (·.2)) id)) ∧ Below w'.heap.size w' w'') := fun w' hb =>
    rwaits_any lv wv Ws R id w' (h.frame (fun k _ hk => hb.block k hk)) (by omega) (by obtain ⟨a, c, e⟩ := slice_form h'; exact ⟨a, _, c, e⟩)
  have HONE := Lib.hid (wcells_one Ws)
  have HONEV : Hid (∀ u ∈ wcells (name, id), u.oneCell' = true) := fun u hu => wcells_one [(name, id)] u (List.mem_flatMap.2 ⟨(name, id), by simp, hu⟩)
  have HADD : Hid ((Ws ++ [(name, id)]).length = Ws.length + 1 ∧ (Ws ++ [(name, id)]).flatMap wcells = Ws.flatMap wcells ++ wcells (name, id)) := ⟨by simp, by simp⟩
  obtain ⟨la, lc, rfl⟩ := slice_form h'
  obtain ⟨wa, wk, rfl⟩ := slice_form h
  have HLC := Lib.hid (fun hn => LRow.cells h' hn)
  obtain ⟨wn, hwn⟩ : ∃ wn, wn = Ws.length := ⟨_, rfl⟩
  obtain ⟨n, hnn⟩ : ∃ n, n = L.length := ⟨_, rfl⟩
  rw [← hnn] at HL0 hLL HWAITS ⊢
  rw [← hwn] at hL HW0 HADD HWAITS ⊢
  have HLOW := Lib.hid hlow
  have HN := Lib.hid hnn
  clear h h' hwn hnn hlow
  have h3 := heap3 w (.cells #[.slice la n lc, .slice wa wn wk] 53) (.cells #[.slice none 0 0, .slice none 0 0] 53) (.cells #[.int .i64 0, .int .i64 0, .float .f64 0, .string ⟨#[]⟩, .slice none 0 0] 31)
  have HBX : Hid ((((w.alloc (.cells #[.slice la n lc, .slice wa wn wk] 53)).alloc (.cells #[.slice none 0 0, .slice none 0 0] 53)).alloc (.cells #[.int .i64 0, .int .i64 0, .float .f64 0, .string ⟨#[]⟩, .slice none 0 0] 31)).heap[w.heap.size]? = some (.cells #[.slice la n lc, .slice wa wn wk] 53 (0, 0))) := h3.1.trans (heap_alloc_new w _)
  have HRX : Hid ((((w.alloc (.cells #[.slice la n lc, .slice wa wn wk] 53)).alloc (.cells #[.slice none 0 0, .slice none 0 0] 53)).alloc (.cells #[.int .i64 0, .int .i64 0, .float .f64 0, .string ⟨#[]⟩, .slice none 0 0] 31)).heap[w.heap.size + 1]? = some (.cells #[.slice none 0 0, .slice none 0 0] 53 (0, 0))) := h3.2.1.trans (heap_alloc_new _ _)
  have HVX : Hid ((((w.alloc (.cells #[.slice la n lc, .slice wa wn wk] 53)).alloc (.cells #[.slice none 0 0, .slice none 0 0] 53)).alloc (.cells #[.int .i64 0, .int .i64 0, .float .f64 0, .string ⟨#[]⟩, .slice none 0 0] 31)).heap[w.heap.size + 1 + 1]? = some (.cells #[.int .i64 0, .int .i64 0, .float .f64 0, .string ⟨#[]⟩, .slice none 0 0] 31 (0, 0))) := h3.2.2.trans (heap_alloc_new _ _)
  have hb3 := below3 w (.cells #[.slice la n lc, .slice wa wn wk] 53) (.cells #[.slice none 0 0, .slice none 0 0] 53) (.cells #[.int .i64 0, .int .i64 0, .float .f64 0, .string ⟨#[]⟩, .slice none 0 0] 31)
  have HBel := Lib.hid hb3.1
  have HSZ := Lib.hid hb3.2
  clear h3 hb3
  subst h0
  have e0 : ((0 : Nat) : Int) = 0 := rfl
  rw [e0]
  clear HWAITS e0 HONEV HADD
  go_enter Try.func48, Try.ntmps48
  go_wp2_with fail
  generalize (((w.alloc (.cells #[.slice la n lc, .slice wa wn wk] 53)).alloc (.cells #[.slice none 0 0, .slice none 0 0] 53)).alloc (.cells #[.int .i64 0, .int .i64 0, .float .f64 0, .string ⟨#[]⟩, .slice none 0 0] 31)) = wd at *
  go_loopw [9] (fun j w' => ∃ m : Nat, m ≤ n ∧ j = .int .i64 m ∧ w' = wd) (fun j _ => n - (RowKit.intOf j).toNat)
  case atStart => exact ⟨0, by omega, rfl, rfl⟩
  case round =>
    obtain ⟨m, hm, rfl, rfl⟩ := hrel
    have hx0 := (cells2 HBX.out).1
    have hx1 := (cells2 HBX.out).2
    have HFR := Lib.hid (fun k (hk : k < w.heap.size) => HBel.out.block k hk)
    by_cases hlt : m < n
    · obtain ⟨b, o, c, he, hcap, hb, hcell⟩ := HLC.out (by have := HN.out; omega)
      obtain ⟨rfl, rfl⟩ : la = some ⟨b, o, none⟩ ∧ lc = c := by simp only [Value.slice.injEq] at he; exact ⟨he.1, he.2.2⟩
      have hmw : m < L.length := by have := HN.out; omega
      have hc0 : wr.cell? ⟨b, o + m * 6, none⟩ = _ := (World.cell?_of_block (a := ⟨b, o + m * 6, none⟩) (HFR.out b hb)).trans (hcell m hmw).1
      have hcap2 : n ≤ lc := by have := HN.out; omega
      obtain ⟨hne, hne2⟩ := str_ne (HLOW.out m hmw)
      clear he hcell hcap
      generalize L[m].1 = key at *
      go_wp2_with fail
      go_roundw
      case rel => exact ⟨m + 1, by omega, by go_num, by first | rfl | trivial⟩
      case measure => simp [RowKit.intOf]; omega
    · obtain rfl : n = m := by omega
      obtain ⟨hr0, hr1⟩ := cells2 HRX.out
      obtain ⟨hv0, hv1, hv2, hv3, hv4⟩ := cells5 HVX.out
      have hg0 := freeAt HRX.out 0
      have hg1 := freeAt HRX.out 1
      obtain ⟨hf0, hf1, hf2, hf3, hf4⟩ := free5 HVX.out
      go_wp2
      try simp only [Exit.inBlock, Exit.then]
      rw [set5]
      have HRF := heap_store (heap_store HRX.out 0 (.slice la n lc)) 1 (.slice wa wn wk)
      have HVF := setCells_same _ _ [.int .i64 0, .int .i64 0, .float .f64 0, .string ⟨#[]⟩, .slice none 0 0] 0 ((wr.setCell ⟨w.heap.size + 1, 0, none⟩ (.slice la n lc)).setCell ⟨w.heap.size + 1, 1, none⟩ (.slice wa wn wk)) _
        ((Below.heap_setCell _ _ _ _ (by show w.heap.size + 1 + 1 ≠ w.heap.size + 1; omega)).trans ((Below.heap_setCell _ _ _ _ (by show w.heap.size + 1 + 1 ≠ w.heap.size + 1; omega)).trans HVX.out)) (by simp)
      have HRF2 := (setCells_other (w.heap.size + 1 + 1) [.int .i64 0, .int .i64 0, .float .f64 0, .string ⟨#[]⟩, .slice none 0 0] 0 ((wr.setCell ⟨w.heap.size + 1, 0, none⟩ (.slice la n lc)).setCell ⟨w.heap.size + 1, 1, none⟩ (.slice wa wn wk)) (w.heap.size + 1) (by omega)).trans HRF
      have hch : Chg (fun k => k = w.heap.size + 1 ∨ k = w.heap.size + 1 + 1) wr (((wr.setCell ⟨w.heap.size + 1, 0, none⟩ (.slice la n lc)).setCell ⟨w.heap.size + 1, 1, none⟩ (.slice wa wn wk)).setCells (w.heap.size + 1 + 1) 0 [.int .i64 0, .int .i64 0, .float .f64 0, .string ⟨#[]⟩, .slice none 0 0]) :=
        (((Chg.refl _ wr).setCell (.inl (.inl rfl)) _).setCell (.inl (.inl rfl)) _).setCells (.inl (.inr rfl)) 0 _
      generalize (((wr.setCell ⟨w.heap.size + 1, 0, none⟩ (.slice la n lc)).setCell ⟨w.heap.size + 1, 1, none⟩ (.slice wa wn wk)).setCells (w.heap.size + 1 + 1) 0 [.int .i64 0, .int .i64 0, .float .f64 0, .string ⟨#[]⟩, .slice none 0 0]) = wf at HRF2 HVF hch ⊢
      have hbel := HBel.out.trans (hch.toBelow HBel.out.size (fun j hj e => by omega))
      refine bodyPost_ret (results_row_row_tmp (P := Try.prog) rfl _ _ (w.heap.size + 1) (w.heap.size + 1 + 1) 53 31 #[.slice la n lc, (.slice wa wn wk)] #[.int .i64 0, .int .i64 0, .float .f64 0, .string ⟨#[]⟩, .slice none 0 0] (0, 0) (0, 0) _ _ rfl HRF2 rfl HVF Try.underlying53 rfl rfl Try.underlying31 rfl rfl) rfl ?_
      exact ⟨rfl, hbel⟩

set_option maxRecDepth 100000 in
set_option maxHeartbeats 1000000 in
theorem rtake_again (lv wv : Value) (L : List (ByteArray × VV)) (Ws : List (ByteArray × Nat)) (R : Nat → Prop) (name : ByteArray) (id : Nat) (w : World) (h' : LRow w lv L R) (h : WRow w wv Ws R) (hLL : L.length ≤ 300) (hL : Ws.length ≤ 300) (hlow : ∀ j (hj : j < L.length), L[j].1 ≠ name) (h0 : id ≠ 0) (hin : id ∈ Ws.map (·.2)) :
    Calls Try.prog 48 #[.agg #[lv, wv], .string name, .int .u64 id] w fun e w' => e = .returned (.tuple #[.agg #[lv, wv], .agg #[.int .i64 0, .int .i64 0, .float .f64 0, .string ⟨#[]⟩, .slice none 0 0], .bool false]) ∧ Below w.heap.size w w' := by
  have HL0 := Lib.hid h'.reads
  have HW0 := Lib.hid h.reads
  have HWAITS : Hid (∀ w', Below w.heap.size w w' → Calls Try.prog 64 #[.agg #[lv, wv], .int .u64 id] w' fun e w'' => e = .returned (.int .i64 (placeZ (Ws.map (·.2)) id)) ∧ Below w'.heap.size w' w'') := fun w' hb =>
    rwaits_any lv wv Ws R id w' (h.frame (fun k _ hk => hb.block k hk)) (by omega) (by obtain ⟨a, c, e⟩ := slice_form h'; exact ⟨a, _, c, e⟩)
  have HONE := Lib.hid (wcells_one Ws)
  have HONEV : Hid (∀ u ∈ wcells (name, id), u.oneCell' = true) := fun u hu => wcells_one [(name, id)] u (List.mem_flatMap.2 ⟨(name, id), by simp, hu⟩)
  have HADD : Hid ((Ws ++ [(name, id)]).length = Ws.length + 1 ∧ (Ws ++ [(name, id)]).flatMap wcells = Ws.flatMap wcells ++ wcells (name, id)) := ⟨by simp, by simp⟩
  obtain ⟨la, lc, rfl⟩ := slice_form h'
  obtain ⟨wa, wk, rfl⟩ := slice_form h
  have HLC := Lib.hid (fun hn => LRow.cells h' hn)
  obtain ⟨wn, hwn⟩ : ∃ wn, wn = Ws.length := ⟨_, rfl⟩
  obtain ⟨n, hnn⟩ : ∃ n, n = L.length := ⟨_, rfl⟩
  rw [← hnn] at HL0 hLL HWAITS ⊢
  rw [← hwn] at hL HW0 HADD HWAITS ⊢
  have HLOW := Lib.hid hlow
  have HN := Lib.hid hnn
  clear h h' hwn hnn hlow
  have h3 := heap3 w (.cells #[.slice la n lc, .slice wa wn wk] 53) (.cells #[.slice none 0 0, .slice none 0 0] 53) (.cells #[.int .i64 0, .int .i64 0, .float .f64 0, .string ⟨#[]⟩, .slice none 0 0] 31)
  have HBX : Hid ((((w.alloc (.cells #[.slice la n lc, .slice wa wn wk] 53)).alloc (.cells #[.slice none 0 0, .slice none 0 0] 53)).alloc (.cells #[.int .i64 0, .int .i64 0, .float .f64 0, .string ⟨#[]⟩, .slice none 0 0] 31)).heap[w.heap.size]? = some (.cells #[.slice la n lc, .slice wa wn wk] 53 (0, 0))) := h3.1.trans (heap_alloc_new w _)
  have HRX : Hid ((((w.alloc (.cells #[.slice la n lc, .slice wa wn wk] 53)).alloc (.cells #[.slice none 0 0, .slice none 0 0] 53)).alloc (.cells #[.int .i64 0, .int .i64 0, .float .f64 0, .string ⟨#[]⟩, .slice none 0 0] 31)).heap[w.heap.size + 1]? = some (.cells #[.slice none 0 0, .slice none 0 0] 53 (0, 0))) := h3.2.1.trans (heap_alloc_new _ _)
  have HVX : Hid ((((w.alloc (.cells #[.slice la n lc, .slice wa wn wk] 53)).alloc (.cells #[.slice none 0 0, .slice none 0 0] 53)).alloc (.cells #[.int .i64 0, .int .i64 0, .float .f64 0, .string ⟨#[]⟩, .slice none 0 0] 31)).heap[w.heap.size + 1 + 1]? = some (.cells #[.int .i64 0, .int .i64 0, .float .f64 0, .string ⟨#[]⟩, .slice none 0 0] 31 (0, 0))) := h3.2.2.trans (heap_alloc_new _ _)
  have hb3 := below3 w (.cells #[.slice la n lc, .slice wa wn wk] 53) (.cells #[.slice none 0 0, .slice none 0 0] 53) (.cells #[.int .i64 0, .int .i64 0, .float .f64 0, .string ⟨#[]⟩, .slice none 0 0] 31)
  have HBel := Lib.hid hb3.1
  have HSZ := Lib.hid hb3.2
  clear h3 hb3
  have hne0 : ((id : Int) != 0) = true := bne_iff_ne.2 (by omega)
  obtain ⟨pz, hpz⟩ : ∃ pz : Nat, placeZ (Ws.map (·.2)) id = (pz : Int) := place_in hin
  rw [hpz] at HWAITS
  clear HONEV HADD hpz
  go_enter Try.func48, Try.ntmps48
  go_wp2_with fail
  generalize (((w.alloc (.cells #[.slice la n lc, .slice wa wn wk] 53)).alloc (.cells #[.slice none 0 0, .slice none 0 0] 53)).alloc (.cells #[.int .i64 0, .int .i64 0, .float .f64 0, .string ⟨#[]⟩, .slice none 0 0] 31)) = wd at *
  go_loopw [9] (fun j w' => ∃ m : Nat, m ≤ n ∧ j = .int .i64 m ∧ w' = wd) (fun j _ => n - (RowKit.intOf j).toNat)
  case atStart => exact ⟨0, by omega, rfl, rfl⟩
  case round =>
    obtain ⟨m, hm, rfl, rfl⟩ := hrel
    have hx0 := (cells2 HBX.out).1
    have hx1 := (cells2 HBX.out).2
    have HFR := Lib.hid (fun k (hk : k < w.heap.size) => HBel.out.block k hk)
    by_cases hlt : m < n
    · obtain ⟨b, o, c, he, hcap, hb, hcell⟩ := HLC.out (by have := HN.out; omega)
      obtain ⟨rfl, rfl⟩ : la = some ⟨b, o, none⟩ ∧ lc = c := by simp only [Value.slice.injEq] at he; exact ⟨he.1, he.2.2⟩
      have hmw : m < L.length := by have := HN.out; omega
      have hc0 : wr.cell? ⟨b, o + m * 6, none⟩ = _ := (World.cell?_of_block (a := ⟨b, o + m * 6, none⟩) (HFR.out b hb)).trans (hcell m hmw).1
      have hcap2 : n ≤ lc := by have := HN.out; omega
      obtain ⟨hne, hne2⟩ := str_ne (HLOW.out m hmw)
      clear he hcell hcap
      generalize L[m].1 = key at *
      go_wp2_with fail
      go_roundw
      case rel => exact ⟨m + 1, by omega, by go_num, by first | rfl | trivial⟩
      case measure => simp [RowKit.intOf]; omega
    · obtain rfl : n = m := by omega
      go_wp2_with fail
      refine (HWAITS.out _ HBel.out).mono ?_
      rintro e w1 ⟨rfl, hb1⟩
      have hbr := (hb1.block _ (lt_of_heap HRX.out)).trans HRX.out
      have hbv := (hb1.block _ (lt_of_heap HVX.out)).trans HVX.out
      obtain ⟨hz0, hz1⟩ := cells2 ((hb1.block _ (lt_of_heap HBX.out)).trans HBX.out)
      have HBR := Lib.hid hbr
      have HBV := Lib.hid hbv
      have HB1 := Lib.hid (HBel.out.trans (hb1.mono HBel.out.size))
      clear hbr hbv hb1 hx0 hx1
      obtain ⟨hr0, hr1⟩ := cells2 HBR.out
      obtain ⟨hv0, hv1, hv2, hv3, hv4⟩ := cells5 HBV.out
      have hg0 := freeAt HBR.out 0
      have hg1 := freeAt HBR.out 1
      obtain ⟨hf0, hf1, hf2, hf3, hf4⟩ := free5 HBV.out
      go_wp2
      try simp only [Exit.inBlock, Exit.then]
      rw [set5]
      have HRF := heap_store (heap_store HBR.out 0 (.slice la n lc)) 1 (.slice wa wn wk)
      have HVF := setCells_same _ _ [.int .i64 0, .int .i64 0, .float .f64 0, .string ⟨#[]⟩, .slice none 0 0] 0 ((w1.setCell ⟨w.heap.size + 1, 0, none⟩ (.slice la n lc)).setCell ⟨w.heap.size + 1, 1, none⟩ (.slice wa wn wk)) _
        ((Below.heap_setCell _ _ _ _ (by show w.heap.size + 1 + 1 ≠ w.heap.size + 1; omega)).trans ((Below.heap_setCell _ _ _ _ (by show w.heap.size + 1 + 1 ≠ w.heap.size + 1; omega)).trans HBV.out)) (by simp)
      have HRF2 := (setCells_other (w.heap.size + 1 + 1) [.int .i64 0, .int .i64 0, .float .f64 0, .string ⟨#[]⟩, .slice none 0 0] 0 ((w1.setCell ⟨w.heap.size + 1, 0, none⟩ (.slice la n lc)).setCell ⟨w.heap.size + 1, 1, none⟩ (.slice wa wn wk)) (w.heap.size + 1) (by omega)).trans HRF
      have hch : Chg (fun k => k = w.heap.size + 1 ∨ k = w.heap.size + 1 + 1) w1 (((w1.setCell ⟨w.heap.size + 1, 0, none⟩ (.slice la n lc)).setCell ⟨w.heap.size + 1, 1, none⟩ (.slice wa wn wk)).setCells (w.heap.size + 1 + 1) 0 [.int .i64 0, .int .i64 0, .float .f64 0, .string ⟨#[]⟩, .slice none 0 0]) :=
        (((Chg.refl _ w1).setCell (.inl (.inl rfl)) _).setCell (.inl (.inl rfl)) _).setCells (.inl (.inr rfl)) 0 _
      generalize (((w1.setCell ⟨w.heap.size + 1, 0, none⟩ (.slice la n lc)).setCell ⟨w.heap.size + 1, 1, none⟩ (.slice wa wn wk)).setCells (w.heap.size + 1 + 1) 0 [.int .i64 0, .int .i64 0, .float .f64 0, .string ⟨#[]⟩, .slice none 0 0]) = wf at HRF2 HVF hch ⊢
      have hbel := HB1.out.trans (hch.toBelow HB1.out.size (fun j hj e => by omega))
      refine bodyPost_ret (results_row_row_tmp (P := Try.prog) rfl _ _ (w.heap.size + 1) (w.heap.size + 1 + 1) 53 31 #[.slice la n lc, (.slice wa wn wk)] #[.int .i64 0, .int .i64 0, .float .f64 0, .string ⟨#[]⟩, .slice none 0 0] (0, 0) (0, 0) _ _ rfl HRF2 rfl HVF Try.underlying53 rfl rfl Try.underlying31 rfl rfl) rfl ?_
      exact ⟨rfl, hbel⟩

set_option maxRecDepth 100000 in
set_option maxHeartbeats 1000000 in
theorem rtake_wait (lv wv : Value) (L : List (ByteArray × VV)) (Ws : List (ByteArray × Nat)) (R : Nat → Prop) (name : ByteArray) (id : Nat) (w : World) (h' : LRow w lv L R) (h : WRow w wv Ws R) (hLL : L.length ≤ 300) (hL : Ws.length ≤ 300) (hlow : ∀ j (hj : j < L.length), L[j].1 ≠ name) (h0 : id ≠ 0) (hin : id ∉ Ws.map (·.2)) :
    Calls Try.prog 48 #[.agg #[lv, wv], .string name, .int .u64 id] w fun e w' => ∃ wv', e = .returned (.tuple #[.agg #[lv, wv'], .agg #[.int .i64 0, .int .i64 0, .float .f64 0, .string ⟨#[]⟩, .slice none 0 0], .bool false]) ∧ WRow w' wv' (Ws ++ [(name, id)]) (fun k => w.heap.size ≤ k) ∧ Below w.heap.size w w' := by
  have HL0 := Lib.hid h'.reads
  have HW0 := Lib.hid h.reads
  have HWAITS : Hid (∀ w', Below w.heap.size w w' → Calls Try.prog 64 #[.agg #[lv, wv], .int .u64 id] w' fun e w'' => e = .returned (.int .i64 (placeZ (Ws.map (·.2)) id)) ∧ Below w'.heap.size w' w'') := fun w' hb =>
    rwaits_any lv wv Ws R id w' (h.frame (fun k _ hk => hb.block k hk)) (by omega) (by obtain ⟨a, c, e⟩ := slice_form h'; exact ⟨a, _, c, e⟩)
  have HONE := Lib.hid (wcells_one Ws)
  have HONEV : Hid (∀ u ∈ wcells (name, id), u.oneCell' = true) := fun u hu => wcells_one [(name, id)] u (List.mem_flatMap.2 ⟨(name, id), by simp, hu⟩)
  have HADD : Hid ((Ws ++ [(name, id)]).length = Ws.length + 1 ∧ (Ws ++ [(name, id)]).flatMap wcells = Ws.flatMap wcells ++ wcells (name, id)) := ⟨by simp, by simp⟩
  obtain ⟨la, lc, rfl⟩ := slice_form h'
  obtain ⟨wa, wk, rfl⟩ := slice_form h
  have HLC := Lib.hid (fun hn => LRow.cells h' hn)
  obtain ⟨wn, hwn⟩ : ∃ wn, wn = Ws.length := ⟨_, rfl⟩
  obtain ⟨n, hnn⟩ : ∃ n, n = L.length := ⟨_, rfl⟩
  rw [← hnn] at HL0 hLL HWAITS ⊢
  rw [← hwn] at hL HW0 HADD HWAITS ⊢
  have HLOW := Lib.hid hlow
  have HN := Lib.hid hnn
  clear h h' hwn hnn hlow
  have h3 := heap3 w (.cells #[.slice la n lc, .slice wa wn wk] 53) (.cells #[.slice none 0 0, .slice none 0 0] 53) (.cells #[.int .i64 0, .int .i64 0, .float .f64 0, .string ⟨#[]⟩, .slice none 0 0] 31)
  have HBX : Hid ((((w.alloc (.cells #[.slice la n lc, .slice wa wn wk] 53)).alloc (.cells #[.slice none 0 0, .slice none 0 0] 53)).alloc (.cells #[.int .i64 0, .int .i64 0, .float .f64 0, .string ⟨#[]⟩, .slice none 0 0] 31)).heap[w.heap.size]? = some (.cells #[.slice la n lc, .slice wa wn wk] 53 (0, 0))) := h3.1.trans (heap_alloc_new w _)
  have HRX : Hid ((((w.alloc (.cells #[.slice la n lc, .slice wa wn wk] 53)).alloc (.cells #[.slice none 0 0, .slice none 0 0] 53)).alloc (.cells #[.int .i64 0, .int .i64 0, .float .f64 0, .string ⟨#[]⟩, .slice none 0 0] 31)).heap[w.heap.size + 1]? = some (.cells #[.slice none 0 0, .slice none 0 0] 53 (0, 0))) := h3.2.1.trans (heap_alloc_new _ _)
  have HVX : Hid ((((w.alloc (.cells #[.slice la n lc, .slice wa wn wk] 53)).alloc (.cells #[.slice none 0 0, .slice none 0 0] 53)).alloc (.cells #[.int .i64 0, .int .i64 0, .float .f64 0, .string ⟨#[]⟩, .slice none 0 0] 31)).heap[w.heap.size + 1 + 1]? = some (.cells #[.int .i64 0, .int .i64 0, .float .f64 0, .string ⟨#[]⟩, .slice none 0 0] 31 (0, 0))) := h3.2.2.trans (heap_alloc_new _ _)
  have hb3 := below3 w (.cells #[.slice la n lc, .slice wa wn wk] 53) (.cells #[.slice none 0 0, .slice none 0 0] 53) (.cells #[.int .i64 0, .int .i64 0, .float .f64 0, .string ⟨#[]⟩, .slice none 0 0] 31)
  have HBel := Lib.hid hb3.1
  have HSZ := Lib.hid hb3.2
  clear h3 hb3
  have hne0 : ((id : Int) != 0) = true := bne_iff_ne.2 (by omega)
  rw [place_new hin] at HWAITS
  go_enter Try.func48, Try.ntmps48
  go_wp2_with fail
  generalize (((w.alloc (.cells #[.slice la n lc, .slice wa wn wk] 53)).alloc (.cells #[.slice none 0 0, .slice none 0 0] 53)).alloc (.cells #[.int .i64 0, .int .i64 0, .float .f64 0, .string ⟨#[]⟩, .slice none 0 0] 31)) = wd at *
  go_loopw [9] (fun j w' => ∃ m : Nat, m ≤ n ∧ j = .int .i64 m ∧ w' = wd) (fun j _ => n - (RowKit.intOf j).toNat)
  case atStart => exact ⟨0, by omega, rfl, rfl⟩
  case round =>
    obtain ⟨m, hm, rfl, rfl⟩ := hrel
    have hx0 := (cells2 HBX.out).1
    have hx1 := (cells2 HBX.out).2
    have HFR := Lib.hid (fun k (hk : k < w.heap.size) => HBel.out.block k hk)
    by_cases hlt : m < n
    · obtain ⟨b, o, c, he, hcap, hb, hcell⟩ := HLC.out (by have := HN.out; omega)
      obtain ⟨rfl, rfl⟩ : la = some ⟨b, o, none⟩ ∧ lc = c := by simp only [Value.slice.injEq] at he; exact ⟨he.1, he.2.2⟩
      have hmw : m < L.length := by have := HN.out; omega
      have hc0 : wr.cell? ⟨b, o + m * 6, none⟩ = _ := (World.cell?_of_block (a := ⟨b, o + m * 6, none⟩) (HFR.out b hb)).trans (hcell m hmw).1
      have hcap2 : n ≤ lc := by have := HN.out; omega
      obtain ⟨hne, hne2⟩ := str_ne (HLOW.out m hmw)
      clear he hcell hcap
      generalize L[m].1 = key at *
      go_wp2_with fail
      go_roundw
      case rel => exact ⟨m + 1, by omega, by go_num, by first | rfl | trivial⟩
      case measure => simp [RowKit.intOf]; omega
    · obtain rfl : n = m := by omega
      go_wp2_with fail
      refine (HWAITS.out _ HBel.out).mono ?_
      rintro e w1 ⟨rfl, hb1⟩
      have HBR := Lib.hid ((hb1.block _ (lt_of_heap HRX.out)).trans HRX.out)
      have HBV := Lib.hid ((hb1.block _ (lt_of_heap HVX.out)).trans HVX.out)
      have HBX1 := Lib.hid ((hb1.block _ (lt_of_heap HBX.out)).trans HBX.out)
      have HB1 := Lib.hid (HBel.out.trans (hb1.mono HBel.out.size))
      have HS1 := Lib.hid (show w.heap.size + 3 ≤ w1.heap.size by have := hb1.size; have := HSZ.out; omega)
      obtain ⟨hz0, hz1⟩ := cells2 HBX1.out
      have HRT := Lib.hid (HW0.out.frame_blocks (w' := w1) HB1.out.block)
      have hxa : ∀ ob, (w1.alloc ob).cell? ⟨w.heap.size, 1, none⟩ = some (.slice wa wn wk) := fun ob => cellAt ((Below.heap_alloc _ _ _ (lt_of_heap HBX1.out)).trans HBX1.out) 1 rfl
      clear hb1 hx0 hx1 HBX HRX HVX HFR HBel
      go_wp2_with (first
        | (at_builtin; refine wpList_row elemW rfl rfl (S := fun k => k = w1.heap.size) (v := .slice (some ⟨w1.heap.size, 0, none⟩) 0 0) (n := 0) (xs := []) rfl (Row.bare (heap_alloc_new w1 _)) (y := .slice wa wn wk) (m := wn) (news := Ws.flatMap wcells) rfl (HRT.out.later ((Below.refl _ _).alloc (Nat.le_refl _) _)) HONE.out ?hb ?hc ?_
           case hb => unfold maxLen; omega
           case hc => omega
           intro v2 w2 hr2 hc2
           have HR2 := Lib.hid (row_first hr2 hc2).1
           have HB2 := Lib.hid (row_first hr2 hc2).2
           have HX2 := Lib.hid ((HB2.out.block _ (lt_of_heap HBX1.out)).trans HBX1.out)
           obtain ⟨hz20, hz21⟩ := cells2 HX2.out
           clear hr2 hc2)
        | (at_builtin; refine wpList_row elemW rfl rfl (S := fun k => w1.heap.size ≤ k) (v := v2) (n := wn) (xs := Ws.flatMap wcells) rfl (HR2.out.frame (fun k _ hk => Below.heap_alloc _ _ _ hk)) (y := .slice (some ⟨w2.heap.size, 0, none⟩) 1 1) (m := 1) (news := wcells (name, id)) rfl (Reads.block (heap_alloc_new w2 _) 1 2 rfl) HONEV.out ?hb ?hc ?_
           case hb => unfold maxLen; omega
           case hc => omega
           intro v3 w3 hr3 hc3
           obtain ⟨hr3', hb3'⟩ := next_a (bel_alloc HB2.out _) hr3 hc3
           obtain ⟨a3, c3, rfl⟩ := slice_form hr3'
           have HR3 := Lib.hid hr3'
           have HB3 := Lib.hid hb3'
           have HX3 := Lib.hid ((HB3.out.block _ (lt_of_heap HBX1.out)).trans HBX1.out)
           have HY3 := Lib.hid ((HB3.out.block _ (lt_of_heap HBR.out)).trans HBR.out)
           have HV3 := Lib.hid ((HB3.out.block _ (lt_of_heap HBV.out)).trans HBV.out)
           obtain ⟨hz30, hz31⟩ := cells2 HX3.out
           have hzf := freeAt HX3.out 1
           obtain ⟨hr0, hr1⟩ := cells2 HY3.out
           obtain ⟨hw0, hw1, hw2, hw3, hw4⟩ := cells5 HV3.out
           have hg0 := freeAt HY3.out 0
           have hg1 := freeAt HY3.out 1
           obtain ⟨hk0, hk1, hk2, hk3, hk4⟩ := free5 HV3.out
           clear hr3 hc3 hr3' hb3'))
      go_wp2
      try simp only [Exit.inBlock, Exit.then]
      have HYS : Hid ((w3.setCell ⟨w.heap.size, 1, none⟩ (.slice a3 (wn + 1) c3)).heap[w.heap.size + 1]? = _) := (Below.heap_setCell _ _ _ _ (by show w.heap.size + 1 ≠ w.heap.size; omega)).trans HY3.out
      have HVS : Hid ((w3.setCell ⟨w.heap.size, 1, none⟩ (.slice a3 (wn + 1) c3)).heap[w.heap.size + 1 + 1]? = _) := (Below.heap_setCell _ _ _ _ (by show w.heap.size + 1 + 1 ≠ w.heap.size; omega)).trans HV3.out
      have HBS : Hid (Below w.heap.size w (w3.setCell ⟨w.heap.size, 1, none⟩ (.slice a3 (wn + 1) c3))) := (HB1.out.trans (HB3.out.mono HB1.out.size)).setCell (Nat.le_refl _) _
      have HRS := Lib.hid (HR3.out.store (p := ⟨w.heap.size, 1, none⟩) (by show w.heap.size < w1.heap.size; have := HS1.out; omega) (.slice a3 (wn + 1) c3))
      generalize w3.setCell ⟨w.heap.size, 1, none⟩ (.slice a3 (wn + 1) c3) = w4 at *
      rw [set5]
      have HRF := heap_store (heap_store HYS.out 0 (.slice la n lc)) 1 (.slice a3 (wn + 1) c3)
      have HVF := setCells_same _ _ [.int .i64 0, .int .i64 0, .float .f64 0, .string ⟨#[]⟩, .slice none 0 0] 0 ((w4.setCell ⟨w.heap.size + 1, 0, none⟩ (.slice la n lc)).setCell ⟨w.heap.size + 1, 1, none⟩ (.slice a3 (wn + 1) c3)) _
        ((Below.heap_setCell _ _ _ _ (by show w.heap.size + 1 + 1 ≠ w.heap.size + 1; omega)).trans ((Below.heap_setCell _ _ _ _ (by show w.heap.size + 1 + 1 ≠ w.heap.size + 1; omega)).trans HVS.out)) (by simp)
      have HRF2 := (setCells_other (w.heap.size + 1 + 1) [.int .i64 0, .int .i64 0, .float .f64 0, .string ⟨#[]⟩, .slice none 0 0] 0 ((w4.setCell ⟨w.heap.size + 1, 0, none⟩ (.slice la n lc)).setCell ⟨w.heap.size + 1, 1, none⟩ (.slice a3 (wn + 1) c3)) (w.heap.size + 1) (by omega)).trans HRF
      have hch : Chg (fun k => k = w.heap.size + 1 ∨ k = w.heap.size + 1 + 1) w4 (((w4.setCell ⟨w.heap.size + 1, 0, none⟩ (.slice la n lc)).setCell ⟨w.heap.size + 1, 1, none⟩ (.slice a3 (wn + 1) c3)).setCells (w.heap.size + 1 + 1) 0 [.int .i64 0, .int .i64 0, .float .f64 0, .string ⟨#[]⟩, .slice none 0 0]) :=
        (((Chg.refl _ w4).setCell (.inl (.inl rfl)) _).setCell (.inl (.inl rfl)) _).setCells (.inl (.inr rfl)) 0 _
      generalize (((w4.setCell ⟨w.heap.size + 1, 0, none⟩ (.slice la n lc)).setCell ⟨w.heap.size + 1, 1, none⟩ (.slice a3 (wn + 1) c3)).setCells (w.heap.size + 1 + 1) 0 [.int .i64 0, .int .i64 0, .float .f64 0, .string ⟨#[]⟩, .slice none 0 0]) = wf at HRF2 HVF hch ⊢
      have hbel := HBS.out.trans (hch.toBelow HBS.out.size (fun j hj e => by omega))
      refine bodyPost_ret (results_row_row_tmp (P := Try.prog) rfl _ _ (w.heap.size + 1) (w.heap.size + 1 + 1) 53 31 #[.slice la n lc, (.slice a3 (wn + 1) c3)] #[.int .i64 0, .int .i64 0, .float .f64 0, .string ⟨#[]⟩, .slice none 0 0] (0, 0) (0, 0) _ _ rfl HRF2 rfl HVF Try.underlying53 rfl rfl Try.underlying31 rfl rfl) rfl ?_
      refine ⟨.slice a3 (wn + 1) c3, rfl, ?_, hbel⟩
      have he := HADD.out
      show Row _ _ _ _ _ _ _
      rw [he.1, he.2]
      exact (HRS.out.frame (fun k hk hl => hch.block k hl (fun e => by have := HS1.out; omega))).mono (fun k hk => by have := HS1.out; omega)
end Go.Proofs.Ytbofbboogmeneaa
