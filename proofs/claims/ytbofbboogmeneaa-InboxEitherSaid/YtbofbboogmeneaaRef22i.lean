/- The reference of an inbox: Forget. -/
import Derived.Test.YtbofbboogmeneaaRef22h
namespace Go.Proofs.Ytbofbboogmeneaa
set_option linter.unusedVariables false
set_option linter.unusedSimpArgs false
open Go.RowKit

theorem results_row_tmp1 {P : Program} {fn : Func} {p u : Tmp} {ty : TypeId} (h : fn.results = #[.cell p ty, .tmp u]) (tmps : Array Value) (w : World) (g : Nat) (t : TypeId) (cs : Array Value) (fr : Nat × Nat) (d : TypeDesc)
    (hp : tmps.getD p undef = .pointer (some ⟨g, 0, none⟩)) (hg : w.heap[g]? = some (.cells cs t fr))
    (hu : P.underlying ty = some d) (hd : (match d with | .struct _ | .array _ _ => true | _ => false) = true) (hi : (P.info? ty).map (·.size) = some cs.size) :
    (results fn tmps).run P w = .ok (.tuple #[.agg cs, tmps.getD u undef]) w := by
  rw [results_cell_tmp h, hp]
  simp [asAddr, run_loadVar_row w g t ty cs fr d hg hu hd hi, Result.andThen]

set_option maxRecDepth 100000 in
set_option maxHeartbeats 1000000 in
theorem rforget_miss (lv wv : Value) (Ws : List (ByteArray × Nat)) (R : Nat → Prop) (id : Nat) (w : World) (h : WRow w wv Ws R) (hL : Ws.length ≤ 300) (hlv : ∃ a n c, lv = .slice a n c) (hin : id ∉ Ws.map (·.2)) :
    Calls Try.prog 49 #[.agg #[lv, wv], .int .u64 id] w fun e w' => e = .returned (.tuple #[.agg #[lv, wv], .bool false]) ∧ Below w.heap.size w w' := by
  have HWAITS : Hid (∀ w', Below w.heap.size w w' → Calls Try.prog 64 #[.agg #[lv, wv], .int .u64 id] w' fun e w'' => e = .returned (.int .i64 (placeZ (Ws.map (·.2)) id)) ∧ Below w'.heap.size w' w'') := fun w' hb =>
    rwaits_any lv wv Ws R id w' (h.frame (fun k _ hk => hb.block k hk)) (by omega) hlv
  obtain ⟨la, ln, lc, rfl⟩ := hlv
  rw [place_new hin] at HWAITS
  obtain ⟨wa, wk, rfl⟩ := slice_form h
  obtain ⟨wn, hwn⟩ : ∃ wn, wn = Ws.length := ⟨_, rfl⟩
  rw [← hwn] at hL HWAITS ⊢
  clear h hwn
  have HBX : Hid (((w.alloc (.cells #[.slice la ln lc, .slice wa wn wk] 53)).alloc (.cells #[.slice none 0 0, .slice none 0 0] 53)).heap[w.heap.size]? = some (.cells #[.slice la ln lc, .slice wa wn wk] 53 (0, 0))) := (Below.heap_alloc _ _ _ (by simp)).trans (heap_alloc_new w _)
  have HRX : Hid (((w.alloc (.cells #[.slice la ln lc, .slice wa wn wk] 53)).alloc (.cells #[.slice none 0 0, .slice none 0 0] 53)).heap[w.heap.size + 1]? = some (.cells #[.slice none 0 0, .slice none 0 0] 53 (0, 0))) := by
    have := heap_alloc_new (w.alloc (.cells #[.slice la ln lc, .slice wa wn wk] 53)) (.cells #[.slice none 0 0, .slice none 0 0] 53)
    rwa [World.size_alloc] at this
  have HBel : Hid (Below w.heap.size w ((w.alloc (.cells #[.slice la ln lc, .slice wa wn wk] 53)).alloc (.cells #[.slice none 0 0, .slice none 0 0] 53))) := ((Below.refl _ _).alloc (Nat.le_refl _) _).alloc (by simp) _
  have HSZ : Hid (((w.alloc (.cells #[.slice la ln lc, .slice wa wn wk] 53)).alloc (.cells #[.slice none 0 0, .slice none 0 0] 53)).heap.size = w.heap.size + 2) := by simp [Hid]
  obtain ⟨hx0, hx1⟩ := cells2 HBX.out
  go_enter Try.func49, Try.ntmps49
  go_wp2_with fail
  generalize ((w.alloc (.cells #[.slice la ln lc, .slice wa wn wk] 53)).alloc (.cells #[.slice none 0 0, .slice none 0 0] 53)) = wd at *
  refine (HWAITS.out _ HBel.out).mono ?_
  rintro e w1 ⟨rfl, hb1⟩
  have HBR := Lib.hid ((hb1.block _ (lt_of_heap HRX.out)).trans HRX.out)
  obtain ⟨hz0, hz1⟩ := cells2 ((hb1.block _ (lt_of_heap HBX.out)).trans HBX.out)
  obtain ⟨hr0, hr1⟩ := cells2 HBR.out
  have hg0 := freeAt HBR.out 0
  have hg1 := freeAt HBR.out 1
  have HB1 := Lib.hid (HBel.out.trans (hb1.mono HBel.out.size))
  clear hb1 hx0 hx1
  go_wp2
  try simp only [Exit.inBlock, Exit.then]
  have HRF := heap_store (heap_store HBR.out 0 (.slice la ln lc)) 1 (.slice wa wn wk)
  have hbel := (HB1.out.setCell (p := ⟨w.heap.size + 1, 0, none⟩) (by show w.heap.size ≤ w.heap.size + 1; omega) (.slice la ln lc)).setCell (p := ⟨w.heap.size + 1, 1, none⟩) (by show w.heap.size ≤ w.heap.size + 1; omega) (.slice wa wn wk)
  refine bodyPost_ret (results_row_tmp1 (P := Try.prog) rfl _ _ (w.heap.size + 1) 53 #[.slice la ln lc, .slice wa wn wk] (0, 0) _ rfl HRF Try.underlying53 rfl rfl) rfl ?_
  exact ⟨rfl, hbel⟩

set_option maxRecDepth 100000 in
set_option maxHeartbeats 1000000 in
theorem rforget_hit (lv wv : Value) (Ws : List (ByteArray × Nat)) (R : Nat → Prop) (id : Nat) (w : World) (h : WRow w wv Ws R) (hL : Ws.length ≤ 300) (hlv : ∃ a n c, lv = .slice a n c) (i : Nat) (hi : i < Ws.length) (hn : Ws[i].2 = id) (hlow : ∀ j (hj : j < i), (Ws[j]'(by omega)).2 ≠ id) :
    Calls Try.prog 49 #[.agg #[lv, wv], .int .u64 id] w fun e w' => ∃ wv', e = .returned (.tuple #[.agg #[lv, wv'], .bool true]) ∧ WRow w' wv' (Ws.eraseIdx i) (fun k => w.heap.size ≤ k) ∧ Below w.heap.size w w' := by
  have HWAITS : Hid (∀ w', Below w.heap.size w w' → Calls Try.prog 64 #[.agg #[lv, wv], .int .u64 id] w' fun e w'' => e = .returned (.int .i64 (placeZ (Ws.map (·.2)) id)) ∧ Below w'.heap.size w' w'') := fun w' hb =>
    rwaits_any lv wv Ws R id w' (h.frame (fun k _ hk => hb.block k hk)) (by omega) hlv
  obtain ⟨la, ln, lc, rfl⟩ := hlv
  have hpl : placeZ (Ws.map (·.2)) id = (i : Int) := placeZ_hit (by simpa using hi) (by simpa using hn) (fun j hj => by simpa using hlow j hj)
  rw [hpl] at HWAITS
  obtain ⟨b, o, c, rfl, hcap, hb, -⟩ := WRow.cells h (by omega)
  have HER := Lib.hid (erase_cells wcells_len Ws i hi)
  have HONE := Lib.hid (wcells_one Ws)
  have H := Lib.hid h.reads
  obtain ⟨n, hnn⟩ : ∃ n, n = Ws.length := ⟨_, rfl⟩
  rw [← hnn] at hi hL hcap H HER HWAITS ⊢
  have HNN := Lib.hid hnn
  clear h hlow hn hpl hnn
  have HBX : Hid (((w.alloc (.cells #[.slice la ln lc, .slice (some ⟨b, o, none⟩) n c] 53)).alloc (.cells #[.slice none 0 0, .slice none 0 0] 53)).heap[w.heap.size]? = some (.cells #[.slice la ln lc, .slice (some ⟨b, o, none⟩) n c] 53 (0, 0))) := (Below.heap_alloc _ _ _ (by simp)).trans (heap_alloc_new w _)
  have HRX : Hid (((w.alloc (.cells #[.slice la ln lc, .slice (some ⟨b, o, none⟩) n c] 53)).alloc (.cells #[.slice none 0 0, .slice none 0 0] 53)).heap[w.heap.size + 1]? = some (.cells #[.slice none 0 0, .slice none 0 0] 53 (0, 0))) := by
    have := heap_alloc_new (w.alloc (.cells #[.slice la ln lc, .slice (some ⟨b, o, none⟩) n c] 53)) (.cells #[.slice none 0 0, .slice none 0 0] 53)
    rwa [World.size_alloc] at this
  have HBel : Hid (Below w.heap.size w ((w.alloc (.cells #[.slice la ln lc, .slice (some ⟨b, o, none⟩) n c] 53)).alloc (.cells #[.slice none 0 0, .slice none 0 0] 53))) := ((Below.refl _ _).alloc (Nat.le_refl _) _).alloc (by simp) _
  have HSZ : Hid (((w.alloc (.cells #[.slice la ln lc, .slice (some ⟨b, o, none⟩) n c] 53)).alloc (.cells #[.slice none 0 0, .slice none 0 0] 53)).heap.size = w.heap.size + 2) := by simp [Hid]
  obtain ⟨hx0, hx1⟩ := cells2 HBX.out
  go_enter Try.func49, Try.ntmps49
  go_wp2_with fail
  generalize ((w.alloc (.cells #[.slice la ln lc, .slice (some ⟨b, o, none⟩) n c] 53)).alloc (.cells #[.slice none 0 0, .slice none 0 0] 53)) = wd at *
  refine (HWAITS.out _ HBel.out).mono ?_
  rintro e wx ⟨rfl, hb1⟩
  have HBX' := Lib.hid ((hb1.block _ (lt_of_heap HBX.out)).trans HBX.out)
  have HRX' := Lib.hid ((hb1.block _ (lt_of_heap HRX.out)).trans HRX.out)
  have HBel' := Lib.hid (HBel.out.trans (hb1.mono HBel.out.size))
  have HSX := Lib.hid (show w.heap.size + 2 ≤ wx.heap.size by have := hb1.size; have := HSZ.out; omega)
  clear hb1 hx0 hx1 HBX HRX HBel HSZ
  have HBX := HBX'
  have HRX := HRX'
  obtain ⟨hx0, hx1⟩ := cells2 HBX.out
  have hic : i ≤ c := by omega
  have hin : (i : Int) + 1 ≤ (n : Int) := by omega
  have hi0 : 0 ≤ (i : Int) + 1 := by omega
  have hw1 : IntKind.i64.wrap ((i : Int) + 1) = (i : Int) + 1 := IntWalk.i64_in _ (by omega)
  have hto : ((i : Int) + 1).toNat = i + 1 := by omega
  have HRT := Lib.hid ((Reads.takeN H.out i (by omega)).frame_blocks (w' := wx) HBel'.out.block)
  have HRD := Lib.hid ((Reads.dropN H.out (i + 1) (by omega) (if c = i + 1 then some ({ block := b, off := o } : Addr) else some { block := b, off := o + (i + 1) * 2 }) (by intro h; simp [h]) (by split <;> simp)).frame_blocks (w' := wx) HBel'.out.block)
  have hxa : ∀ ob, (wx.alloc ob).cell? ⟨w.heap.size, 1, none⟩ = some (.slice (some ⟨b, o, none⟩) n c) := fun ob => cellAt ((Below.heap_alloc _ _ _ (lt_of_heap HBX.out)).trans HBX.out) 1 rfl
  go_upto_region 4 with fail
  go_cut [24] (fun s24 wy => ∃ a2 c2, Hid (wy.heap[w.heap.size]? = some (.cells #[.slice la ln lc, .slice a2 (i + (n - (i + 1))) c2] 53 (0, 0))) ∧ Hid (Below w.heap.size w wy) ∧ Hid (wy.heap[w.heap.size + 1]? = some (.cells #[.slice none 0 0, .slice none 0 0] 53 (0, 0))) ∧ Hid (Row wy 104 2 (.slice a2 (i + (n - (i + 1))) c2) (i + (n - (i + 1))) ((Ws.flatMap wcells).take (i * 2) ++ (Ws.flatMap wcells).drop ((i + 1) * 2)) (fun k => w.heap.size + 2 ≤ k)))
  case first =>
    go_region_law
      (first
      | (refine step_row elemW rfl rfl (S := fun k => k = wx.heap.size) (v := .slice (some ⟨wx.heap.size, 0, none⟩) 0 0) (n := 0) (xs := []) rfl (Row.bare (heap_alloc_new wx.drew _)) (y := .slice (some ⟨b, o, none⟩) i c) (m := i) (news := (Ws.flatMap wcells).take (i * 2)) rfl (HRT.out.later ((Below.refl _ _).drew.alloc (Nat.le_refl _) _)) ?ha ?hb ?hc ?_
         case ha => exact fun u hu => HONE.out u (List.mem_of_mem_take hu)
         case hb => unfold maxLen; omega
         case hc => omega
         intro v1 w1 hr1 hc1
         obtain ⟨hr1', hb1'⟩ := first_a hr1 hc1
         have HR1 := Lib.hid hr1'
         have HB1 := Lib.hid hb1'
         have hz1 := (cells2 ((hb1'.block _ (lt_of_heap HBX.out)).trans HBX.out)).2
         clear hr1 hc1 hr1' hb1')
      | (refine step_row elemW rfl rfl (S := fun k => wx.heap.size ≤ k) (v := v1) (n := i) (xs := (Ws.flatMap wcells).take (i * 2)) rfl HR1.out (y := .slice (if c = i + 1 then some ({ block := b, off := o } : Addr) else some { block := b, off := o + (i + 1) * 2 }) (n - (i + 1)) (c - (i + 1))) (m := n - (i + 1)) (news := (Ws.flatMap wcells).drop ((i + 1) * 2)) rfl (HRD.out.later HB1.out) ?ha ?hb ?hc ?_
         case ha => exact fun u hu => HONE.out u (List.mem_of_mem_drop hu)
         case hb => unfold maxLen; omega
         case hc => omega
         intro v2 w2 hr2 hc2
         obtain ⟨hr2', hb2'⟩ := next_a HB1.out hr2 hc2
         obtain ⟨a2, c2, rfl⟩ := slice_form hr2'
         have HR2 := Lib.hid hr2'
         have HB2 := Lib.hid hb2'
         have HX2 := Lib.hid ((hb2'.block _ (lt_of_heap HBX.out)).trans HBX.out)
         have HY2 := Lib.hid ((hb2'.block _ (lt_of_heap HRX.out)).trans HRX.out)
         have hz20 := (cells2 HX2.out).1
         have hz21 := (cells2 HX2.out).2
         have hy20 := (cells2 HY2.out).1
         have hy21 := (cells2 HY2.out).2
         have hf20 := freeAt HX2.out 0
         have hf21 := freeAt HX2.out 1
         have hg20 := freeAt HY2.out 0
         have hg21 := freeAt HY2.out 1
         clear hr2 hc2 hr2' hb2')
      | fail)
    all_goals
      generalize (if c = i + 1 then some ({ block := b, off := o } : Addr) else some { block := b, off := o + (i + 1) * 2 }) = adr at *
      go_wp2_with fail
      go_meet
      have hX := HSX.out
      exact ⟨a2, c2, heap_store HX2.out 1 _, (HBel'.out.trans (HB2.out.mono HBel'.out.size)).setCell (Nat.le_refl _) _, (Below.heap_setCell _ _ _ _ (by show w.heap.size + 1 ≠ w.heap.size; omega)).trans HY2.out,
        (HR2.out.store (p := ⟨w.heap.size, 1, none⟩) (by show w.heap.size < wx.heap.size; omega) _).mono (fun k hk => by omega)⟩
  case rest =>
    obtain ⟨a2, c2, HB, HBl, HR, HROW⟩ := hcut
    clear hx0 hx1 hxa
    obtain ⟨hz0, hz1⟩ := cells2 HB.out
    obtain ⟨hr0, hr1⟩ := cells2 HR.out
    have hg0 := freeAt HR.out 0
    have hg1 := freeAt HR.out 1
    go_wp2
    try simp only [Exit.inBlock, Exit.then]
    have HRF := heap_store (heap_store HR.out 0 (.slice la ln lc)) 1 (.slice a2 (i + (n - (i + 1))) c2)
    have hbel := (HBl.out.setCell (p := ⟨w.heap.size + 1, 0, none⟩) (by show w.heap.size ≤ w.heap.size + 1; omega) (.slice la ln lc)).setCell (p := ⟨w.heap.size + 1, 1, none⟩) (by show w.heap.size ≤ w.heap.size + 1; omega) (.slice a2 (i + (n - (i + 1))) c2)
    have hrow := (HROW.out.store (p := ⟨w.heap.size + 1, 0, none⟩) (by show w.heap.size + 1 < w.heap.size + 2; omega) (.slice la ln lc)).store (p := ⟨w.heap.size + 1, 1, none⟩) (by show w.heap.size + 1 < w.heap.size + 2; omega) (.slice a2 (i + (n - (i + 1))) c2)
    refine bodyPost_ret (results_row_tmp1 (P := Try.prog) rfl _ _ (w.heap.size + 1) 53 #[.slice la ln lc, .slice a2 (i + (n - (i + 1))) c2] (0, 0) _ rfl HRF Try.underlying53 rfl rfl) rfl ?_
    refine ⟨.slice a2 (i + (n - (i + 1))) c2, rfl, ?_, hbel⟩
    have he := HER.out
    show Row _ _ _ _ _ _ _
    rw [he.1, he.2]
    exact hrow.mono (fun k hk => by omega)
end Go.Proofs.Ytbofbboogmeneaa
