/- The reference of an inbox: Put, when nobody waits. -/
import Derived.Test.YtbofbboogmeneaaRef22e
import Derived.Test.YtbofbboogmeneaaVClone
namespace Go.Proofs.Ytbofbboogmeneaa
set_option linter.unusedVariables false
set_option linter.unusedSimpArgs false
open Go.RowKit

set_option maxRecDepth 100000 in
set_option maxHeartbeats 4000000 in
theorem rput_miss (lv wv : Value) (L : List (ByteArray × VV)) (Ws : List (ByteArray × Nat)) (R : Nat → Prop) (name : ByteArray) (v : VV) (w : World) (h' : LRow w lv L R) (h : WRow w wv Ws R) (hLL : L.length ≤ 300) (hL : Ws.length ≤ 300) (hlow : ∀ j (hj : j < Ws.length), Ws[j].1 ≠ name) :
    Calls Try.prog 47 #[.agg #[lv, wv], .string name, v.val] w fun e w' => ∃ lv', e = .returned (.tuple #[.agg #[lv', wv], .int .u64 0, .bool false]) ∧ LRow w' lv' (L ++ [(name, v)]) (fun k => w.heap.size ≤ k) ∧ Below w.heap.size w w' := by
  have HADD : Hid ((L ++ [(name, v)]).length = L.length + 1 ∧ (L ++ [(name, v)]).flatMap lcells = L.flatMap lcells ++ lcells (name, v)) := ⟨by simp, by simp⟩
  have HONE := Lib.hid (lcells_one L)
  have HONEV : Hid (∀ u ∈ lcells (name, v), u.oneCell' = true) := fun u hu => lcells_one [(name, v)] u (List.mem_flatMap.2 ⟨(name, v), by simp, hu⟩)
  have HL0 := Lib.hid h'.reads
  obtain ⟨la, lc, rfl⟩ := slice_form h'
  obtain ⟨wa, wc, rfl⟩ := slice_form h
  obtain ⟨wn, hwn⟩ : ∃ wn, wn = Ws.length := ⟨_, rfl⟩
  obtain ⟨n, hnn⟩ : ∃ n, n = L.length := ⟨_, rfl⟩
  have HW := Lib.hid (fun hn => WRow.cells h hn)
  rw [← hnn] at HL0 HADD hLL ⊢
  rw [← hwn] at hL ⊢
  have HLOW := Lib.hid hlow
  have HWN := Lib.hid hwn
  clear h h' hwn hnn hlow
  simp only [VV.val]
  have h3 := heap3 w (.cells #[.slice la n lc, .slice wa wn wc] 53) (.cells #[.int .i64 v.k, .int .i64 v.n, .float .f64 v.f, .string v.s, .slice v.a v.l v.c] 31) (.cells #[.slice none 0 0, .slice none 0 0] 53)
  have HBX : Hid ((((w.alloc (.cells #[.slice la n lc, .slice wa wn wc] 53)).alloc (.cells #[.int .i64 v.k, .int .i64 v.n, .float .f64 v.f, .string v.s, .slice v.a v.l v.c] 31)).alloc (.cells #[.slice none 0 0, .slice none 0 0] 53)).heap[w.heap.size]? = some (.cells #[.slice la n lc, .slice wa wn wc] 53 (0, 0))) := h3.1.trans (heap_alloc_new w _)
  have HVX : Hid ((((w.alloc (.cells #[.slice la n lc, .slice wa wn wc] 53)).alloc (.cells #[.int .i64 v.k, .int .i64 v.n, .float .f64 v.f, .string v.s, .slice v.a v.l v.c] 31)).alloc (.cells #[.slice none 0 0, .slice none 0 0] 53)).heap[w.heap.size + 1]? = some (.cells #[.int .i64 v.k, .int .i64 v.n, .float .f64 v.f, .string v.s, .slice v.a v.l v.c] 31 (0, 0))) := h3.2.1.trans (heap_alloc_new _ _)
  have HRX : Hid ((((w.alloc (.cells #[.slice la n lc, .slice wa wn wc] 53)).alloc (.cells #[.int .i64 v.k, .int .i64 v.n, .float .f64 v.f, .string v.s, .slice v.a v.l v.c] 31)).alloc (.cells #[.slice none 0 0, .slice none 0 0] 53)).heap[w.heap.size + 1 + 1]? = some (.cells #[.slice none 0 0, .slice none 0 0] 53 (0, 0))) := h3.2.2.trans (heap_alloc_new _ _)
  have hb3 := below3 w (.cells #[.slice la n lc, .slice wa wn wc] 53) (.cells #[.int .i64 v.k, .int .i64 v.n, .float .f64 v.f, .string v.s, .slice v.a v.l v.c] 31) (.cells #[.slice none 0 0, .slice none 0 0] 53)
  have HBel := Lib.hid hb3.1
  have HSZ := Lib.hid hb3.2
  clear h3 hb3
  go_enter Try.func47, Try.ntmps47
  go_wp2_with fail
  generalize (((w.alloc (.cells #[.slice la n lc, .slice wa wn wc] 53)).alloc (.cells #[.int .i64 v.k, .int .i64 v.n, .float .f64 v.f, .string v.s, .slice v.a v.l v.c] 31)).alloc (.cells #[.slice none 0 0, .slice none 0 0] 53)) = wd at *
  go_loopw [9] (fun j w' => ∃ m : Nat, m ≤ wn ∧ j = .int .i64 m ∧ w' = wd) (fun j _ => wn - (RowKit.intOf j).toNat)
  case atStart => exact ⟨0, by omega, rfl, rfl⟩
  case round =>
    obtain ⟨m, hm, rfl, rfl⟩ := hrel
    have hx0 := (cells2 HBX.out).1
    have hx1 := (cells2 HBX.out).2
    have HFR := Lib.hid (fun k (hk : k < w.heap.size) => HBel.out.block k hk)
    by_cases hlt : m < wn
    · obtain ⟨b, o, c, he, hcap, hb, hcell⟩ := HW.out (by have := HWN.out; omega)
      obtain ⟨rfl, rfl⟩ : wa = some ⟨b, o, none⟩ ∧ wc = c := by simp only [Value.slice.injEq] at he; exact ⟨he.1, he.2.2⟩
      have hmw : m < Ws.length := by have := HWN.out; omega
      have hc0 : wr.cell? ⟨b, o + m * 2, none⟩ = _ := (World.cell?_of_block (a := ⟨b, o + m * 2, none⟩) (HFR.out b hb)).trans (hcell m hmw).1
      have hcap2 : wn ≤ wc := by have := HWN.out; omega
      obtain ⟨hne, hne2⟩ := str_ne (HLOW.out m hmw)
      clear he hcell hcap
      generalize Ws[m].1 = key at *
      go_wp2_with fail
      go_roundw
      case rel => exact ⟨m + 1, by omega, by go_num, by first | rfl | trivial⟩
      case measure => simp [RowKit.intOf]; omega
    · have HRT := Lib.hid (HL0.out.frame_blocks (w' := wr) HFR.out)
      have hxa : ∀ ob, (wr.alloc ob).cell? ⟨w.heap.size, 0, none⟩ = some (.slice la n lc) := fun ob => cellAt ((Below.heap_alloc _ _ _ (lt_of_heap HBX.out)).trans HBX.out) 0 rfl
      have hxb : ∀ ob oc, ((wr.alloc ob).alloc oc).cell? ⟨w.heap.size, 0, none⟩ = some (.slice la n lc) := fun ob oc => cellAt ((Below.heap_alloc _ _ _ (by have := lt_of_heap HBX.out; simp; omega)).trans ((Below.heap_alloc _ _ _ (lt_of_heap HBX.out)).trans HBX.out)) 0 rfl
      obtain ⟨hq0, hq1, hq2, hq3, hq4⟩ := cells5 HVX.out
      have hv0 : ∀ ob, (wr.alloc ob).cell? ⟨w.heap.size + 1, 0, none⟩ = _ := fun ob => (cells5 ((Below.heap_alloc wr ob _ (lt_of_heap HVX.out)).trans HVX.out)).1
      have hv1 : ∀ ob, (wr.alloc ob).cell? ⟨w.heap.size + 1, 1, none⟩ = _ := fun ob => (cells5 ((Below.heap_alloc wr ob _ (lt_of_heap HVX.out)).trans HVX.out)).2.1
      have hv2 : ∀ ob, (wr.alloc ob).cell? ⟨w.heap.size + 1, 2, none⟩ = _ := fun ob => (cells5 ((Below.heap_alloc wr ob _ (lt_of_heap HVX.out)).trans HVX.out)).2.2.1
      have hv3 : ∀ ob, (wr.alloc ob).cell? ⟨w.heap.size + 1, 3, none⟩ = _ := fun ob => (cells5 ((Below.heap_alloc wr ob _ (lt_of_heap HVX.out)).trans HVX.out)).2.2.2.1
      have hv4 : ∀ ob, (wr.alloc ob).cell? ⟨w.heap.size + 1, 4, none⟩ = _ := fun ob => (cells5 ((Below.heap_alloc wr ob _ (lt_of_heap HVX.out)).trans HVX.out)).2.2.2.2
      go_wp2
      go_region_law
        (first
        | (refine step_row elemL rfl rfl (S := fun k => k = wr.heap.size) (v := .slice (some ⟨wr.heap.size, 0, none⟩) 0 0) (n := 0) (xs := []) rfl (Row.bare (heap_alloc_new wr.drew _)) (y := .slice la n lc) (m := n) (news := L.flatMap lcells) rfl (HRT.out.later ((Below.refl _ _).drew.alloc (Nat.le_refl _) _)) ?ha ?hb ?hc ?_
           case ha => exact HONE.out
           case hb => unfold maxLen; omega
           case hc => omega
           intro v1 w1 hr1 hc1
           obtain ⟨hr1', hb1'⟩ := first_a hr1 hc1
           have HR1 := Lib.hid hr1'
           have HB1 := Lib.hid hb1'
           have hz1 := (cells2 ((hb1'.block _ (lt_of_heap HBX.out)).trans HBX.out)).1
           obtain ⟨hp0, hp1, hp2, hp3, hp4⟩ := cells5 ((hb1'.block _ (lt_of_heap HVX.out)).trans HVX.out)
           clear hr1 hc1 hr1' hb1')
        | (refine step_row elemL rfl rfl (S := fun k => k = wr.heap.size) (v := .slice (some ⟨wr.heap.size, 0, none⟩) 0 0) (n := 0) (xs := []) rfl (Row.bare ((alloc2_low wr.drew _ _).trans (heap_alloc_new wr.drew _))) (y := .slice la n lc) (m := n) (news := L.flatMap lcells) rfl (HRT.out.later (((Below.refl _ _).drew.alloc (Nat.le_refl _) _).alloc (by simp) _)) ?ha ?hb ?hc ?_
           case ha => exact HONE.out
           case hb => unfold maxLen; omega
           case hc => omega
           intro v1 w1 hr1 hc1
           obtain ⟨hr1', hb1', ho1'⟩ := first_b hr1 hc1
           have HR1 := Lib.hid hr1'
           have HB1 := Lib.hid hb1'
           have HO1 : Hid (w1.heap[wr.heap.size + 1]? = some (.cells #[.string name, .int .i64 v.k, .int .i64 v.n, .float .f64 v.f, .string v.s, .slice v.a v.l v.c] 102 (0, 0))) := ho1'.trans (alloc2_high wr.drew _ _ (heap_alloc_new _ _))
           clear ho1'
           have hz1 := (cells2 ((hb1'.block _ (lt_of_heap HBX.out)).trans HBX.out)).1
           obtain ⟨hp0, hp1, hp2, hp3, hp4⟩ := cells5 ((hb1'.block _ (lt_of_heap HVX.out)).trans HVX.out)
           clear hr1 hc1 hr1' hb1')
        | (refine step_row elemL rfl rfl (S := fun k => k = wr.heap.size + 1) (v := .slice (some ⟨wr.heap.size + 1, 0, none⟩) 0 0) (n := 0) (xs := []) rfl (Row.bare (alloc2_high wr.drew _ _ (heap_alloc_new _ _))) (y := .slice la n lc) (m := n) (news := L.flatMap lcells) rfl (HRT.out.later (((Below.refl _ _).drew.alloc (Nat.le_refl _) _).alloc (by simp) _)) ?ha ?hb ?hc ?_
           case ha => exact HONE.out
           case hb => unfold maxLen; omega
           case hc => omega
           intro v1 w1 hr1 hc1
           obtain ⟨hr1', hb1', ho1'⟩ := first_c hr1 hc1
           have HR1 := Lib.hid hr1'
           have HB1 := Lib.hid hb1'
           have HO1 : Hid (w1.heap[wr.heap.size]? = some (.cells #[.string name, .int .i64 v.k, .int .i64 v.n, .float .f64 v.f, .string v.s, .slice v.a v.l v.c] 102 (0, 0))) := ho1'.trans ((alloc2_low wr.drew _ _).trans (heap_alloc_new wr.drew _))
           clear ho1'
           have hz1 := (cells2 ((hb1'.block _ (lt_of_heap HBX.out)).trans HBX.out)).1
           obtain ⟨hp0, hp1, hp2, hp3, hp4⟩ := cells5 ((hb1'.block _ (lt_of_heap HVX.out)).trans HVX.out)
           clear hr1 hc1 hr1' hb1')
        | (refine step_row elemL rfl rfl (S := fun k => wr.heap.size ≤ k) (v := v1) (n := n) (xs := L.flatMap lcells) rfl (HR1.out.frame (fun k _ hk => Below.heap_alloc _ _ _ hk)) (y := .slice (some ⟨w1.heap.size, 0, none⟩) 1 1) (m := 1) (news := lcells (name, v)) rfl (Reads.block (heap_alloc_new w1 _) 1 6 rfl) ?ha ?hb ?hc ?_
           case ha => exact HONEV.out
           case hb => unfold maxLen; omega
           case hc => omega
           intro v2 w2 hr2 hc2
           obtain ⟨hr2', hb2'⟩ := next_a (bel_alloc HB1.out _) hr2 hc2
           obtain ⟨a2, c2, rfl⟩ := slice_form hr2'
           have HR2 := Lib.hid hr2'
           have HB2 := Lib.hid hb2'
           have HX2 := Lib.hid ((hb2'.block _ (lt_of_heap HBX.out)).trans HBX.out)
           have HY2 := Lib.hid ((hb2'.block _ (lt_of_heap HRX.out)).trans HRX.out)
           have hz20 := (cells2 HX2.out).1
           have hz21 := (cells2 HX2.out).2
           have hy20 := (cells2 HY2.out).1
           have hy21 := (cells2 HY2.out).2
           have hf20 := freeAt HX2.out 0
           have hf21 := freeAt HX2.out 1
           have hg20 := freeAt HY2.out 0
           have hg21 := freeAt HY2.out 1
           clear hr2 hc2 hr2' hb2')
        | (refine step_row elemL rfl rfl (S := fun k => wr.heap.size ≤ k ∧ k ≠ wr.heap.size + 1) (v := v1) (n := n) (xs := L.flatMap lcells) rfl HR1.out (y := .slice (some ⟨wr.heap.size + 1, 0, none⟩) 1 1) (m := 1) (news := lcells (name, v)) rfl (Reads.single HO1.out) ?ha ?hb ?hc ?_
           case ha => exact HONEV.out
           case hb => unfold maxLen; omega
           case hc => omega
           intro v2 w2 hr2 hc2
           obtain ⟨hr2', hb2'⟩ := next_b HB1.out hr2 hc2
           obtain ⟨a2, c2, rfl⟩ := slice_form hr2'
           have HR2 := Lib.hid hr2'
           have HB2 := Lib.hid hb2'
           have HX2 := Lib.hid ((hb2'.block _ (lt_of_heap HBX.out)).trans HBX.out)
           have HY2 := Lib.hid ((hb2'.block _ (lt_of_heap HRX.out)).trans HRX.out)
           have hz20 := (cells2 HX2.out).1
           have hz21 := (cells2 HX2.out).2
           have hy20 := (cells2 HY2.out).1
           have hy21 := (cells2 HY2.out).2
           have hf20 := freeAt HX2.out 0
           have hf21 := freeAt HX2.out 1
           have hg20 := freeAt HY2.out 0
           have hg21 := freeAt HY2.out 1
           clear hr2 hc2 hr2' hb2')
        | (refine step_row elemL rfl rfl (S := fun k => wr.heap.size ≤ k ∧ k ≠ wr.heap.size) (v := v1) (n := n) (xs := L.flatMap lcells) rfl HR1.out (y := .slice (some ⟨wr.heap.size, 0, none⟩) 1 1) (m := 1) (news := lcells (name, v)) rfl (Reads.single HO1.out) ?ha ?hb ?hc ?_
           case ha => exact HONEV.out
           case hb => unfold maxLen; omega
           case hc => omega
           intro v2 w2 hr2 hc2
           obtain ⟨hr2', hb2'⟩ := next_b HB1.out hr2 hc2
           obtain ⟨a2, c2, rfl⟩ := slice_form hr2'
           have HR2 := Lib.hid hr2'
           have HB2 := Lib.hid hb2'
           have HX2 := Lib.hid ((hb2'.block _ (lt_of_heap HBX.out)).trans HBX.out)
           have HY2 := Lib.hid ((hb2'.block _ (lt_of_heap HRX.out)).trans HRX.out)
           have hz20 := (cells2 HX2.out).1
           have hz21 := (cells2 HX2.out).2
           have hy20 := (cells2 HY2.out).1
           have hy21 := (cells2 HY2.out).2
           have hf20 := freeAt HX2.out 0
           have hf21 := freeAt HX2.out 1
           have hg20 := freeAt HY2.out 0
           have hg21 := freeAt HY2.out 1
           clear hr2 hc2 hr2' hb2')
        | fail)
      all_goals
        go_wp2
        try simp only [Exit.inBlock, Exit.then]
        have hle := HSZ.out
        have HYF := heap_store (heap_store ((Below.heap_setCell w2 ⟨w.heap.size, 0, none⟩ (.slice a2 (n + 1) c2) (w.heap.size + 1 + 1) (by show w.heap.size + 1 + 1 ≠ w.heap.size; omega)).trans HY2.out) 0 (.slice a2 (n + 1) c2)) 1 (.slice wa wn wc)
        have hrow := ((HR2.out.store (p := ⟨w.heap.size, 0, none⟩) (by show w.heap.size < wr.heap.size; omega) (.slice a2 (n + 1) c2)).store (p := ⟨w.heap.size + 1 + 1, 0, none⟩) (by show w.heap.size + 1 + 1 < wr.heap.size; omega) (.slice a2 (n + 1) c2)).store (p := ⟨w.heap.size + 1 + 1, 1, none⟩) (by show w.heap.size + 1 + 1 < wr.heap.size; omega) (.slice wa wn wc)
        have hbel := ((((HBel.out.trans (HB2.out.mono HBel.out.size)).setCell (p := ⟨w.heap.size, 0, none⟩) (Nat.le_refl _) (.slice a2 (n + 1) c2)).setCell (p := ⟨w.heap.size + 1 + 1, 0, none⟩) (by show w.heap.size ≤ w.heap.size + 1 + 1; omega) (.slice a2 (n + 1) c2)).setCell (p := ⟨w.heap.size + 1 + 1, 1, none⟩) (by show w.heap.size ≤ w.heap.size + 1 + 1; omega) (.slice wa wn wc))
        refine bodyPost_ret (results_row_tmp2 (P := Try.prog) rfl _ _ (w.heap.size + 1 + 1) 53 #[(.slice a2 (n + 1) c2), .slice wa wn wc] (0, 0) _ rfl HYF Try.underlying53 rfl rfl) rfl ?_
        refine ⟨(.slice a2 (n + 1) c2), rfl, ?_, hbel⟩
        have he := HADD.out
        show Row _ _ _ _ _ _ _
        rw [he.1, he.2]
        exact hrow.mono (fun k hk => Nat.le_trans HBel.out.size hk)
end Go.Proofs.Ytbofbboogmeneaa
