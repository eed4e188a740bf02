/- The reference of an inbox: Put. -/
import Derived.Test.YtbofbboogmeneaaRef22d
namespace Go.Proofs.Ytbofbboogmeneaa
set_option linter.unusedVariables false
set_option linter.unusedSimpArgs false
open Go.RowKit

theorem heap3 (w : World) (x y z : Obj) : ((((w.alloc x).alloc y).alloc z).heap[w.heap.size]? = (w.alloc x).heap[w.heap.size]?) ∧ ((((w.alloc x).alloc y).alloc z).heap[w.heap.size + 1]? = ((w.alloc x).alloc y).heap[(w.alloc x).heap.size]?) ∧ ((((w.alloc x).alloc y).alloc z).heap[w.heap.size + 1 + 1]? = (((w.alloc x).alloc y).alloc z).heap[((w.alloc x).alloc y).heap.size]?) := by
  refine ⟨?_, ?_, ?_⟩
  · rw [Below.heap_alloc _ _ _ (by simp; omega), Below.heap_alloc _ _ _ (by simp)]
  · rw [Below.heap_alloc _ _ _ (by simp), World.size_alloc]
  · simp only [World.size_alloc]

theorem below3 (w : World) (x y z : Obj) : Below w.heap.size w (((w.alloc x).alloc y).alloc z) ∧ (((w.alloc x).alloc y).alloc z).heap.size = w.heap.size + 3 :=
  ⟨(((Below.refl _ _).alloc (Nat.le_refl _) _).alloc (by simp) _).alloc (by simp; omega) _, by simp⟩

theorem erase_cells {α : Type} {f : α → List Value} {k : Nat} (hf : ∀ a, (f a).length = k) (l : List α) (i : Nat) (hi : i < l.length) :
    (l.eraseIdx i).length = i + (l.length - (i + 1)) ∧ (l.eraseIdx i).flatMap f = (l.flatMap f).take (i * k) ++ (l.flatMap f).drop ((i + 1) * k) := by
  refine ⟨by rw [List.length_eraseIdx_of_lt hi]; omega, ?_⟩
  rw [erase_take_drop, List.flatMap_append, fm_take hf, fm_drop hf]

theorem Reads.frame_blocks {w w' : World} {v : Value} {n size : Nat} {xs : List Value} (h : Reads w v n size xs) (hb : ∀ k, k < w.heap.size → w'.heap[k]? = w.heap[k]?) : Reads w' v n size xs := by
  obtain ⟨hl, ao, c, rfl, hnc, hnone, hcells⟩ := h
  refine ⟨hl, ao, c, rfl, hnc, hnone, fun ad had j u hu => ?_⟩
  have hc := hcells ad had j u hu
  rw [World.cell?_of_block (hb _ (World.block_lt_of_cell? w _ hc))]
  exact hc

theorem results_row_tmp2 {P : Program} {fn : Func} {p u v : Tmp} {ty : TypeId} (h : fn.results = #[.cell p ty, .tmp u, .tmp v]) (tmps : Array Value) (w : World) (g : Nat) (t : TypeId) (cs : Array Value) (fr : Nat × Nat) (d : TypeDesc)
    (hp : tmps.getD p undef = .pointer (some ⟨g, 0, none⟩)) (hg : w.heap[g]? = some (.cells cs t fr))
    (hu : P.underlying ty = some d) (hd : (match d with | .struct _ | .array _ _ => true | _ => false) = true) (hi : (P.info? ty).map (·.size) = some cs.size) :
    (results fn tmps).run P w = .ok (.tuple #[.agg cs, tmps.getD u undef, tmps.getD v undef]) w := by
  have hl := run_loadVar_row w g t ty cs fr d hg hu hd hi
  simp only [results, h]
  simp [Sem.run_bind, Result.andThen, show tmps[p]?.getD undef = _ from by simpa [Array.getD_eq_getD_getElem?] using hp, asAddr, hl]

theorem results_row_row_tmp {P : Program} {fn : Func} {p q v : Tmp} {ty tz : TypeId} (h : fn.results = #[.cell p ty, .cell q tz, .tmp v]) (tmps : Array Value) (w : World) (g g2 : Nat) (t t2 : TypeId) (cs cs2 : Array Value) (fr fr2 : Nat × Nat) (d d2 : TypeDesc)
    (hp : tmps.getD p undef = .pointer (some ⟨g, 0, none⟩)) (hg : w.heap[g]? = some (.cells cs t fr)) (hq : tmps.getD q undef = .pointer (some ⟨g2, 0, none⟩)) (hg2 : w.heap[g2]? = some (.cells cs2 t2 fr2))
    (hu : P.underlying ty = some d) (hd : (match d with | .struct _ | .array _ _ => true | _ => false) = true) (hi : (P.info? ty).map (·.size) = some cs.size)
    (hu2 : P.underlying tz = some d2) (hd2 : (match d2 with | .struct _ | .array _ _ => true | _ => false) = true) (hi2 : (P.info? tz).map (·.size) = some cs2.size) :
    (results fn tmps).run P w = .ok (.tuple #[.agg cs, .agg cs2, tmps.getD v undef]) w := by
  have hl := run_loadVar_row w g t ty cs fr d hg hu hd hi
  have hl2 := run_loadVar_row w g2 t2 tz cs2 fr2 d2 hg2 hu2 hd2 hi2
  simp only [results, h]
  simp [Sem.run_bind, Result.andThen, show tmps[p]?.getD undef = _ from by simpa [Array.getD_eq_getD_getElem?] using hp, show tmps[q]?.getD undef = _ from by simpa [Array.getD_eq_getD_getElem?] using hq, asAddr, hl, hl2]

theorem Row.store {w : World} {e : TypeId} {size : Nat} {v : Value} {n B : Nat} {xs : List Value} (h : Row w e size v n xs (fun k => B ≤ k)) {p : Addr} (hp : p.block < B) (u : Value) : Row (w.setCell p u) e size v n xs (fun k => B ≤ k) :=
  h.frame (fun k hk _ => Below.heap_setCell _ _ _ _ (by omega))

set_option maxRecDepth 100000 in
set_option maxHeartbeats 4000000 in
theorem rput_hit (lv wv : Value) (Ws : List (ByteArray × Nat)) (R : Nat → Prop) (name : ByteArray) (v : VV) (w : World) (h : WRow w wv Ws R) (hL : Ws.length ≤ 300) (hlv : ∃ a n c, lv = .slice a n c) (i : Nat) (hi : i < Ws.length) (hn : Ws[i].1 = name) (hlow : ∀ j (hj : j < i), (Ws[j]'(by omega)).1 ≠ name) :
    Calls Try.prog 47 #[.agg #[lv, wv], .string name, v.val] w fun e w' => ∃ wv', e = .returned (.tuple #[.agg #[lv, wv'], .int .u64 Ws[i].2, .bool true]) ∧ WRow w' wv' (Ws.eraseIdx i) (fun k => w.heap.size ≤ k) ∧ Below w.heap.size w w' := by
  obtain ⟨la, ln, lc, rfl⟩ := hlv
  obtain ⟨b, o, c, rfl, hcap, hb, hcell⟩ := WRow.cells h (by omega)
  have HER := Lib.hid (erase_cells wcells_len Ws i hi)
  have HONE := Lib.hid (wcells_one Ws)
  have HCELL := Lib.hid hcell
  have H := Lib.hid h.reads
  subst hn
  have HLOW := Lib.hid hlow
  have HIN := Lib.hid (hcell i hi)
  generalize hid : Ws[i].2 = id at *
  generalize hkey : Ws[i].1 = name at *
  obtain ⟨n, hnn⟩ : ∃ n, n = Ws.length := ⟨_, rfl⟩
  rw [← hnn] at hi hL hcap H HER ⊢
  have HNN := Lib.hid hnn
  clear h hcell hlow hid hkey hnn
  simp only [VV.val]
  have h3 := heap3 w (.cells #[.slice la ln lc, .slice (some ⟨b, o, none⟩) n c] 53) (.cells #[.int .i64 v.k, .int .i64 v.n, .float .f64 v.f, .string v.s, .slice v.a v.l v.c] 31) (.cells #[.slice none 0 0, .slice none 0 0] 53)
  have HBX : Hid ((((w.alloc (.cells #[.slice la ln lc, .slice (some ⟨b, o, none⟩) n c] 53)).alloc (.cells #[.int .i64 v.k, .int .i64 v.n, .float .f64 v.f, .string v.s, .slice v.a v.l v.c] 31)).alloc (.cells #[.slice none 0 0, .slice none 0 0] 53)).heap[w.heap.size]? = some (.cells #[.slice la ln lc, .slice (some ⟨b, o, none⟩) n c] 53 (0, 0))) := h3.1.trans (heap_alloc_new w _)
  have HRX : Hid ((((w.alloc (.cells #[.slice la ln lc, .slice (some ⟨b, o, none⟩) n c] 53)).alloc (.cells #[.int .i64 v.k, .int .i64 v.n, .float .f64 v.f, .string v.s, .slice v.a v.l v.c] 31)).alloc (.cells #[.slice none 0 0, .slice none 0 0] 53)).heap[w.heap.size + 1 + 1]? = some (.cells #[.slice none 0 0, .slice none 0 0] 53 (0, 0))) := h3.2.2.trans (heap_alloc_new _ _)
  have hb3 := below3 w (.cells #[.slice la ln lc, .slice (some ⟨b, o, none⟩) n c] 53) (.cells #[.int .i64 v.k, .int .i64 v.n, .float .f64 v.f, .string v.s, .slice v.a v.l v.c] 31) (.cells #[.slice none 0 0, .slice none 0 0] 53)
  have HBel := Lib.hid hb3.1
  have HSZ := Lib.hid hb3.2
  clear h3 hb3
  go_enter Try.func47, Try.ntmps47
  go_wp2_with fail
  generalize (((w.alloc (.cells #[.slice la ln lc, .slice (some ⟨b, o, none⟩) n c] 53)).alloc (.cells #[.int .i64 v.k, .int .i64 v.n, .float .f64 v.f, .string v.s, .slice v.a v.l v.c] 31)).alloc (.cells #[.slice none 0 0, .slice none 0 0] 53)) = wd at *
  go_loopw [9] (fun j w' => ∃ m : Nat, m ≤ i ∧ j = .int .i64 m ∧ w' = wd) (fun j _ => i - (RowKit.intOf j).toNat)
  case atStart => exact ⟨0, by omega, rfl, rfl⟩
  case round =>
    obtain ⟨m, hm, rfl, rfl⟩ := hrel
    have hx0 := (cells2 HBX.out).1
    have hx1 := (cells2 HBX.out).2
    have HFR := Lib.hid (fun k (hk : k < w.heap.size) => HBel.out.block k hk)
    by_cases hlt : m < i
    · have hc0 : wr.cell? ⟨b, o + m * 2, none⟩ = _ := (World.cell?_of_block (a := ⟨b, o + m * 2, none⟩) (HFR.out b hb)).trans (HCELL.out m (by have := HNN.out; omega)).1
      obtain ⟨hne, hne2⟩ := str_ne (HLOW.out m hlt)
      have hlt2 : m < n := by omega
      generalize (Ws[m]'(by have := HNN.out; omega)).1 = key at *
      go_wp2_with fail
      go_roundw
      case rel => exact ⟨m + 1, by omega, by go_num, by first | rfl | trivial⟩
      case measure => simp [RowKit.intOf]; omega
    · obtain rfl : i = m := by omega
      have hc0 : wr.cell? ⟨b, o + i * 2, none⟩ = _ := (World.cell?_of_block (a := ⟨b, o + i * 2, none⟩) (HFR.out b hb)).trans HIN.out.1
      have hc1 : wr.cell? ⟨b, o + i * 2 + 1, none⟩ = _ := (World.cell?_of_block (a := ⟨b, o + i * 2 + 1, none⟩) (HFR.out b hb)).trans HIN.out.2
      have hic : i ≤ c := by omega
      have hin : (i : Int) + 1 ≤ (n : Int) := by omega
      have hi0 : 0 ≤ (i : Int) + 1 := by omega
      have hw1 : IntKind.i64.wrap ((i : Int) + 1) = (i : Int) + 1 := IntWalk.i64_in _ (by omega)
      have hto : ((i : Int) + 1).toNat = i + 1 := by omega
      have HRT := Lib.hid ((Reads.takeN H.out i (by omega)).frame_blocks (w' := wr) HFR.out)
      have HRD := Lib.hid ((Reads.dropN H.out (i + 1) (by omega) (if c = i + 1 then some ({ block := b, off := o } : Addr) else some { block := b, off := o + (i + 1) * 2 }) (by intro h; simp [h]) (by split <;> simp)).frame_blocks (w' := wr) HFR.out)
      have hxa : ∀ ob, (wr.alloc ob).cell? ⟨w.heap.size, 1, none⟩ = some (.slice (some ⟨b, o, none⟩) n c) := fun ob => cellAt ((Below.heap_alloc _ _ _ (lt_of_heap HBX.out)).trans HBX.out) 1 rfl
      go_wp2
      go_region_law
        (first
        | (refine step_row elemW rfl rfl (S := fun k => k = wr.heap.size) (v := .slice (some ⟨wr.heap.size, 0, none⟩) 0 0) (n := 0) (xs := []) rfl (Row.bare (heap_alloc_new wr.drew _)) (y := .slice (some ⟨b, o, none⟩) i c) (m := i) (news := (Ws.flatMap wcells).take (i * 2)) rfl (HRT.out.later ((Below.refl _ _).drew.alloc (Nat.le_refl _) _)) ?ha ?hb ?hc ?_
           case ha => exact fun u hu => HONE.out u (List.mem_of_mem_take hu)
           case hb => unfold maxLen; omega
           case hc => omega
           intro v1 w1 hr1 hc1
           obtain ⟨hr1', hb1'⟩ := first_a hr1 hc1
           have HR1 := Lib.hid hr1'
           have HB1 := Lib.hid hb1'
           have hz1 := (cells2 ((hb1'.block _ (lt_of_heap HBX.out)).trans HBX.out)).2
           clear hr1 hc1 hr1' hb1')
        | (refine step_row elemW rfl rfl (S := fun k => wr.heap.size ≤ k) (v := v1) (n := i) (xs := (Ws.flatMap wcells).take (i * 2)) rfl HR1.out (y := .slice (if c = i + 1 then some ({ block := b, off := o } : Addr) else some { block := b, off := o + (i + 1) * 2 }) (n - (i + 1)) (c - (i + 1))) (m := n - (i + 1)) (news := (Ws.flatMap wcells).drop ((i + 1) * 2)) rfl (HRD.out.later HB1.out) ?ha ?hb ?hc ?_
           case ha => exact fun u hu => HONE.out u (List.mem_of_mem_drop hu)
           case hb => unfold maxLen; omega
           case hc => omega
           intro v2 w2 hr2 hc2
           obtain ⟨hr2', hb2'⟩ := next_a HB1.out hr2 hc2
           obtain ⟨a2, c2, rfl⟩ := slice_form hr2'
           have HR2 := Lib.hid hr2'
           have HB2 := Lib.hid hb2'
           have HX2 := Lib.hid ((hb2'.block _ (lt_of_heap HBX.out)).trans HBX.out)
           have HY2 := Lib.hid ((hb2'.block _ (lt_of_heap HRX.out)).trans HRX.out)
           have hz20 := (cells2 HX2.out).1
           have hz21 := (cells2 HX2.out).2
           have hy20 := (cells2 HY2.out).1
           have hy21 := (cells2 HY2.out).2
           have hf20 := freeAt HX2.out 0
           have hf21 := freeAt HX2.out 1
           have hg20 := freeAt HY2.out 0
           have hg21 := freeAt HY2.out 1
           clear hr2 hc2 hr2' hb2')
        | fail)
      all_goals
        generalize (if c = i + 1 then some ({ block := b, off := o } : Addr) else some { block := b, off := o + (i + 1) * 2 }) = adr at *
        go_wp2
        try simp only [Exit.inBlock, Exit.then]
        have hle := HSZ.out
        have HYF := heap_store (heap_store ((Below.heap_setCell w2 ⟨w.heap.size, 1, none⟩ (.slice a2 (i + (n - (i + 1))) c2) (w.heap.size + 1 + 1) (by show w.heap.size + 1 + 1 ≠ w.heap.size; omega)).trans HY2.out) 0 (.slice la ln lc)) 1 (.slice a2 (i + (n - (i + 1))) c2)
        have hrow := ((HR2.out.store (p := ⟨w.heap.size, 1, none⟩) (by show w.heap.size < wr.heap.size; omega) (.slice a2 (i + (n - (i + 1))) c2)).store (p := ⟨w.heap.size + 1 + 1, 0, none⟩) (by show w.heap.size + 1 + 1 < wr.heap.size; omega) (.slice la ln lc)).store (p := ⟨w.heap.size + 1 + 1, 1, none⟩) (by show w.heap.size + 1 + 1 < wr.heap.size; omega) (.slice a2 (i + (n - (i + 1))) c2)
        have hbel := ((((HBel.out.trans (HB2.out.mono HBel.out.size)).setCell (p := ⟨w.heap.size, 1, none⟩) (Nat.le_refl _) (.slice a2 (i + (n - (i + 1))) c2)).setCell (p := ⟨w.heap.size + 1 + 1, 0, none⟩) (by show w.heap.size ≤ w.heap.size + 1 + 1; omega) (.slice la ln lc)).setCell (p := ⟨w.heap.size + 1 + 1, 1, none⟩) (by show w.heap.size ≤ w.heap.size + 1 + 1; omega) (.slice a2 (i + (n - (i + 1))) c2))
        refine bodyPost_ret (results_row_tmp2 (P := Try.prog) rfl _ _ (w.heap.size + 1 + 1) 53 #[.slice la ln lc, .slice a2 (i + (n - (i + 1))) c2] (0, 0) _ rfl HYF Try.underlying53 rfl rfl) rfl ?_
        refine ⟨.slice a2 (i + (n - (i + 1))) c2, rfl, ?_, hbel⟩
        have he := HER.out
        show Row _ _ _ _ _ _ _
        rw [he.1, he.2]
        exact hrow.mono (fun k hk => Nat.le_trans HBel.out.size hk)
end Go.Proofs.Ytbofbboogmeneaa
