/- The reference of an inbox: Take, when there is a value. -/
import Derived.Test.YtbofbboogmeneaaRef22f
import Derived.Deep.DeepCutAuto
import Derived.Deep.CutRange
namespace Go.Proofs.Ytbofbboogmeneaa
set_option linter.unusedVariables false
set_option linter.unusedSimpArgs false
open Go.RowKit

theorem set5 (w : World) (g : Nat) (a b c d e : Value) : ((((w.setCell ⟨g, 0, none⟩ a).setCell ⟨g, 1, none⟩ b).setCell ⟨g, 2, none⟩ c).setCell ⟨g, 3, none⟩ d).setCell ⟨g, 4, none⟩ e = w.setCells g 0 [a, b, c, d, e] := rfl

set_option maxRecDepth 100000 in
set_option maxHeartbeats 1000000 in
theorem rtake_hit (lv wv : Value) (L : List (ByteArray × VV)) (R : Nat → Prop) (name : ByteArray) (id : Nat) (w : World) (h : LRow w lv L R) (hL : L.length ≤ 300) (hwv : ∃ a n c, wv = .slice a n c) (i : Nat) (hi : i < L.length) (hn : L[i].1 = name) (hlow : ∀ j (hj : j < i), (L[j]'(by omega)).1 ≠ name) :
    Calls Try.prog 48 #[.agg #[lv, wv], .string name, .int .u64 id] w fun e w' => ∃ lv', e = .returned (.tuple #[.agg #[lv', wv], L[i].2.val, .bool true]) ∧ LRow w' lv' (L.eraseIdx i) (fun k => w.heap.size ≤ k) ∧ Below w.heap.size w w' := by
  obtain ⟨wa, wn, wk, rfl⟩ := hwv
  obtain ⟨b, o, c, rfl, hcap, hb, hcell⟩ := LRow.cells h (by omega)
  have HER := Lib.hid (erase_cells lcells_len L i hi)
  have HONE := Lib.hid (lcells_one L)
  have HCELL := Lib.hid (fun j (hj : j < L.length) => (hcell j hj).1)
  have H := Lib.hid h.reads
  subst hn
  have HLOW := Lib.hid hlow
  have HIN := Lib.hid (hcell i hi)
  generalize hid : L[i].2 = v at *
  generalize hkey : L[i].1 = name at *
  obtain ⟨n, hnn⟩ : ∃ n, n = L.length := ⟨_, rfl⟩
  rw [← hnn] at hi hL hcap H HER ⊢
  have HNN := Lib.hid hnn
  obtain ⟨vk, vn, vf, vs, va, vl, vc⟩ := v
  clear h hcell hlow hid hkey hnn
  simp only [VV.val] at *
  have h3 := heap3 w (.cells #[.slice (some ⟨b, o, none⟩) n c, .slice wa wn wk] 53) (.cells #[.slice none 0 0, .slice none 0 0] 53) (.cells #[.int .i64 0, .int .i64 0, .float .f64 0, .string ⟨#[]⟩, .slice none 0 0] 31)
  have HBX : Hid ((((w.alloc (.cells #[.slice (some ⟨b, o, none⟩) n c, .slice wa wn wk] 53)).alloc (.cells #[.slice none 0 0, .slice none 0 0] 53)).alloc (.cells #[.int .i64 0, .int .i64 0, .float .f64 0, .string ⟨#[]⟩, .slice none 0 0] 31)).heap[w.heap.size]? = some (.cells #[.slice (some ⟨b, o, none⟩) n c, .slice wa wn wk] 53 (0, 0))) := h3.1.trans (heap_alloc_new w _)
  have HRX : Hid ((((w.alloc (.cells #[.slice (some ⟨b, o, none⟩) n c, .slice wa wn wk] 53)).alloc (.cells #[.slice none 0 0, .slice none 0 0] 53)).alloc (.cells #[.int .i64 0, .int .i64 0, .float .f64 0, .string ⟨#[]⟩, .slice none 0 0] 31)).heap[w.heap.size + 1]? = some (.cells #[.slice none 0 0, .slice none 0 0] 53 (0, 0))) := h3.2.1.trans (heap_alloc_new _ _)
  have HVX : Hid ((((w.alloc (.cells #[.slice (some ⟨b, o, none⟩) n c, .slice wa wn wk] 53)).alloc (.cells #[.slice none 0 0, .slice none 0 0] 53)).alloc (.cells #[.int .i64 0, .int .i64 0, .float .f64 0, .string ⟨#[]⟩, .slice none 0 0] 31)).heap[w.heap.size + 1 + 1]? = some (.cells #[.int .i64 0, .int .i64 0, .float .f64 0, .string ⟨#[]⟩, .slice none 0 0] 31 (0, 0))) := h3.2.2.trans (heap_alloc_new _ _)
  have hb3 := below3 w (.cells #[.slice (some ⟨b, o, none⟩) n c, .slice wa wn wk] 53) (.cells #[.slice none 0 0, .slice none 0 0] 53) (.cells #[.int .i64 0, .int .i64 0, .float .f64 0, .string ⟨#[]⟩, .slice none 0 0] 31)
  have HBel := Lib.hid hb3.1
  have HSZ := Lib.hid hb3.2
  clear h3 hb3
  go_enter Try.func48, Try.ntmps48
  go_wp2_with fail
  generalize (((w.alloc (.cells #[.slice (some ⟨b, o, none⟩) n c, .slice wa wn wk] 53)).alloc (.cells #[.slice none 0 0, .slice none 0 0] 53)).alloc (.cells #[.int .i64 0, .int .i64 0, .float .f64 0, .string ⟨#[]⟩, .slice none 0 0] 31)) = wd at *
  go_loopw [9] (fun j w' => ∃ m : Nat, m ≤ i ∧ j = .int .i64 m ∧ w' = wd) (fun j _ => i - (RowKit.intOf j).toNat)
  case atStart => exact ⟨0, by omega, rfl, rfl⟩
  case round =>
    obtain ⟨m, hm, rfl, rfl⟩ := hrel
    have hx0 := (cells2 HBX.out).1
    have hx1 := (cells2 HBX.out).2
    have HFR := Lib.hid (fun k (hk : k < w.heap.size) => HBel.out.block k hk)
    by_cases hlt : m < i
    · have hc0 : wr.cell? ⟨b, o + m * 6, none⟩ = _ := (World.cell?_of_block (a := ⟨b, o + m * 6, none⟩) (HFR.out b hb)).trans (HCELL.out m (by have := HNN.out; omega))
      obtain ⟨hne, hne2⟩ := str_ne (HLOW.out m hlt)
      have hlt2 : m < n := by omega
      generalize (L[m]'(by have := HNN.out; omega)).1 = key at *
      go_wp2_with fail
      go_roundw
      case rel => exact ⟨m + 1, by omega, by go_num, by first | rfl | trivial⟩
      case measure => simp [RowKit.intOf]; omega
    · obtain rfl : i = m := by omega
      have hcc : ∀ j u, w.cell? ⟨b, j, none⟩ = some u → wr.cell? ⟨b, j, none⟩ = some u := fun j u hu => (World.cell?_of_block (a := ⟨b, j, none⟩) (HFR.out b hb)).trans hu
      obtain ⟨hi0', hi1', hi2', hi3', hi4', hi5'⟩ := HIN.out
      have hc0 := hcc _ _ hi0'
      have hc1 := hcc _ _ hi1'
      have hc2 := hcc _ _ hi2'
      have hc3 := hcc _ _ hi3'
      have hc4 := hcc _ _ hi4'
      have hc5 := hcc _ _ hi5'
      have hic : i ≤ c := by omega
      have hin : (i : Int) + 1 ≤ (n : Int) := by omega
      have hi0 : 0 ≤ (i : Int) + 1 := by omega
      have hw1 : IntKind.i64.wrap ((i : Int) + 1) = (i : Int) + 1 := IntWalk.i64_in _ (by omega)
      have hto : ((i : Int) + 1).toNat = i + 1 := by omega
      clear hcc hi0' hi1' hi2' hi3' hi4' hi5'
      have HRT0 := Lib.hid ((Reads.takeN H.out i (by omega)).frame_blocks (w' := wr) HFR.out)
      have HRD0 := Lib.hid ((Reads.dropN H.out (i + 1) (by omega) (if c = i + 1 then some ({ block := b, off := o } : Addr) else some { block := b, off := o + (i + 1) * 6 }) (by intro h; simp [h]) (by split <;> simp)).frame_blocks (w' := wr) HFR.out)
      have hal : ∀ ob, Below wr.heap.size wr (wr.alloc ob) := fun ob => (Below.refl _ _).alloc (Nat.le_refl _) _
      have HRT := Lib.hid (HRT0.out.later (hal (.cells #[.int .i64 vk, .int .i64 vn, .float .f64 vf, .string vs, .slice va vl vc] 31)))
      have HRD := Lib.hid (HRD0.out.later (hal (.cells #[.int .i64 vk, .int .i64 vn, .float .f64 vf, .string vs, .slice va vl vc] 31)))
      have HBX' : Hid ((wr.alloc (.cells #[.int .i64 vk, .int .i64 vn, .float .f64 vf, .string vs, .slice va vl vc] 31)).heap[w.heap.size]? = _) := (Below.heap_alloc _ _ _ (lt_of_heap HBX.out)).trans HBX.out
      have HRX' : Hid ((wr.alloc (.cells #[.int .i64 vk, .int .i64 vn, .float .f64 vf, .string vs, .slice va vl vc] 31)).heap[w.heap.size + 1]? = _) := (Below.heap_alloc _ _ _ (lt_of_heap HRX.out)).trans HRX.out
      have HVX' : Hid ((wr.alloc (.cells #[.int .i64 vk, .int .i64 vn, .float .f64 vf, .string vs, .slice va vl vc] 31)).heap[w.heap.size + 1 + 1]? = _) := (Below.heap_alloc _ _ _ (lt_of_heap HVX.out)).trans HVX.out
      have HTX' : Hid ((wr.alloc (.cells #[.int .i64 vk, .int .i64 vn, .float .f64 vf, .string vs, .slice va vl vc] 31)).heap[wr.heap.size]? = some (.cells #[.int .i64 vk, .int .i64 vn, .float .f64 vf, .string vs, .slice va vl vc] 31 (0, 0))) := heap_alloc_new wr _
      have HBel' := Lib.hid (HBel.out.alloc HBel.out.size (.cells #[.int .i64 vk, .int .i64 vn, .float .f64 vf, .string vs, .slice va vl vc] 31))
      have HSZ' : Hid (w.heap.size + 3 = wr.heap.size ∧ (wr.alloc (.cells #[.int .i64 vk, .int .i64 vn, .float .f64 vf, .string vs, .slice va vl vc] 31)).heap.size = wr.heap.size + 1) := ⟨HSZ.out.symm, by simp⟩
      clear HRT0 HRD0 hal HBel
      go_wp2
      generalize wr.alloc (.cells #[.int .i64 vk, .int .i64 vn, .float .f64 vf, .string vs, .slice va vl vc] 31) = wx at *
      clear HBX HRX HVX HSZ hx0 hx1 hc0 hc1 hc2 hc3 hc4 hc5
      generalize wr.heap.size = X at *
      clear HFR
      have HBX := HBX'
      have HRX := HRX'
      have hx0 := (cells2 HBX.out).1
      have hxa : ∀ ob, (wx.alloc ob).cell? ⟨w.heap.size, 0, none⟩ = some (.slice (some ⟨b, o, none⟩) n c) := fun ob => cellAt ((Below.heap_alloc _ _ _ (lt_of_heap HBX.out)).trans HBX.out) 0 rfl
      go_upto_region 6 with fail
      go_cut [43] from 11 to 46 (fun s43 wy => ∃ a2 c2, Hid (wy.heap[w.heap.size]? = some (.cells #[.slice a2 (i + (n - (i + 1))) c2, .slice wa wn wk] 53 (0, 0))) ∧ Hid (Below w.heap.size w wy) ∧ Hid (wy.heap[w.heap.size + 1]? = some (.cells #[.slice none 0 0, .slice none 0 0] 53 (0, 0))) ∧ Hid (wy.heap[w.heap.size + 1 + 1]? = some (.cells #[.int .i64 0, .int .i64 0, .float .f64 0, .string ⟨#[]⟩, .slice none 0 0] 31 (0, 0))) ∧ Hid (wy.heap[X]? = some (.cells #[.int .i64 vk, .int .i64 vn, .float .f64 vf, .string vs, .slice va vl vc] 31 (0, 0))) ∧ Hid (Row wy 102 6 (.slice a2 (i + (n - (i + 1))) c2) (i + (n - (i + 1))) ((L.flatMap lcells).take (i * 6) ++ (L.flatMap lcells).drop ((i + 1) * 6)) (fun k => w.heap.size + 4 ≤ k)))
      case first =>
        go_region_law
          (first
          | (refine step_row elemL rfl rfl (S := fun k => k = wx.heap.size) (v := .slice (some ⟨wx.heap.size, 0, none⟩) 0 0) (n := 0) (xs := []) rfl (Row.bare (heap_alloc_new wx.drew _)) (y := .slice (some ⟨b, o, none⟩) i c) (m := i) (news := (L.flatMap lcells).take (i * 6)) rfl (HRT.out.later ((Below.refl _ _).drew.alloc (Nat.le_refl _) _)) ?ha ?hb ?hc ?_
             case ha => exact fun u hu => HONE.out u (List.mem_of_mem_take hu)
             case hb => unfold maxLen; omega
             case hc => omega
             intro v1 w1 hr1 hc1
             obtain ⟨hr1', hb1'⟩ := first_a hr1 hc1
             have HR1 := Lib.hid hr1'
             have HB1 := Lib.hid hb1'
             have hz1 := (cells2 ((hb1'.block _ (lt_of_heap HBX.out)).trans HBX.out)).1
             clear hr1 hc1 hr1' hb1')
          | (refine step_row elemL rfl rfl (S := fun k => wx.heap.size ≤ k) (v := v1) (n := i) (xs := (L.flatMap lcells).take (i * 6)) rfl HR1.out (y := .slice (if c = i + 1 then some ({ block := b, off := o } : Addr) else some { block := b, off := o + (i + 1) * 6 }) (n - (i + 1)) (c - (i + 1))) (m := n - (i + 1)) (news := (L.flatMap lcells).drop ((i + 1) * 6)) rfl (HRD.out.later HB1.out) ?ha ?hb ?hc ?_
             case ha => exact fun u hu => HONE.out u (List.mem_of_mem_drop hu)
             case hb => unfold maxLen; omega
             case hc => omega
             intro v2 w2 hr2 hc2
             obtain ⟨hr2', hb2'⟩ := next_a HB1.out hr2 hc2
             obtain ⟨a2, c2, rfl⟩ := slice_form hr2'
             have HR2 := Lib.hid hr2'
             have HB2 := Lib.hid hb2'
             have HX2 := Lib.hid ((hb2'.block _ (lt_of_heap HBX.out)).trans HBX.out)
             have HY2 := Lib.hid ((hb2'.block _ (lt_of_heap HRX.out)).trans HRX.out)
             have hz20 := (cells2 HX2.out).1
             have hz21 := (cells2 HX2.out).2
             have hy20 := (cells2 HY2.out).1
             have hy21 := (cells2 HY2.out).2
             have hf20 := freeAt HX2.out 0
             have hf21 := freeAt HX2.out 1
             have hg20 := freeAt HY2.out 0
             have hg21 := freeAt HY2.out 1
             clear hr2 hc2 hr2' hb2')
          | fail)
        all_goals
          generalize (if c = i + 1 then some ({ block := b, off := o } : Addr) else some { block := b, off := o + (i + 1) * 6 }) = adr at *
          go_wp2_with fail
          go_meet
          have hX := HSZ'.out
          have hs2 := HB2.out.size
          exact ⟨a2, c2, heap_store HX2.out 0 _, (HBel'.out.trans (HB2.out.mono HBel'.out.size)).setCell (Nat.le_refl _) _, (Below.heap_setCell _ _ _ _ (by show w.heap.size + 1 ≠ w.heap.size; omega)).trans HY2.out,
            (Below.heap_setCell _ _ _ _ (by show w.heap.size + 1 + 1 ≠ w.heap.size; omega)).trans ((HB2.out.block _ (lt_of_heap HVX'.out)).trans HVX'.out), (Below.heap_setCell _ _ _ _ (by show X ≠ w.heap.size; omega)).trans ((HB2.out.block _ (lt_of_heap HTX'.out)).trans HTX'.out),
            (HR2.out.store (p := ⟨w.heap.size, 0, none⟩) (by show w.heap.size < wx.heap.size; omega) _).mono (fun k hk => by omega)⟩
      case rest =>
        obtain ⟨a2, c2, HB, HBl, HR, HV, HT, HROW⟩ := hcut
        have hX := HSZ'.out.1
        obtain rfl : w.heap.size + 1 + 1 + 1 = X := by omega
        clear hX hx0 hxa
        obtain ⟨hz0, hz1⟩ := cells2 HB.out
        obtain ⟨hq0, hq1, hq2, hq3, hq4⟩ := cells5 HT.out
        obtain ⟨hr0, hr1⟩ := cells2 HR.out
        obtain ⟨hv0, hv1, hv2, hv3, hv4⟩ := cells5 HV.out
        have hg0 := freeAt HR.out 0
        have hg1 := freeAt HR.out 1
        obtain ⟨hf0, hf1, hf2, hf3, hf4⟩ := free5 HV.out
        go_wp2
        go_region
        go_wp2
        try simp only [Exit.inBlock, Exit.then]
        have HRF := heap_store (heap_store HR.out 0 (.slice a2 (i + (n - (i + 1))) c2)) 1 (.slice wa wn wk)
        have HVF := setCells_same _ _ [.int .i64 vk, .int .i64 vn, .float .f64 vf, .string vs, .slice va vl vc] 0 ((wc.setCell ⟨w.heap.size + 1, 0, none⟩ (.slice a2 (i + (n - (i + 1))) c2)).setCell ⟨w.heap.size + 1, 1, none⟩ (.slice wa wn wk)) _
          ((Below.heap_setCell _ _ _ _ (by show w.heap.size + 1 + 1 ≠ w.heap.size + 1; omega)).trans ((Below.heap_setCell _ _ _ _ (by show w.heap.size + 1 + 1 ≠ w.heap.size + 1; omega)).trans HV.out)) (by simp)
        have HRF2 := (setCells_other (w.heap.size + 1 + 1) [.int .i64 vk, .int .i64 vn, .float .f64 vf, .string vs, .slice va vl vc] 0 ((wc.setCell ⟨w.heap.size + 1, 0, none⟩ (.slice a2 (i + (n - (i + 1))) c2)).setCell ⟨w.heap.size + 1, 1, none⟩ (.slice wa wn wk)) (w.heap.size + 1) (by omega)).trans HRF
        have hch : Chg (fun k => k = w.heap.size + 1 ∨ k = w.heap.size + 1 + 1) wc (((wc.setCell ⟨w.heap.size + 1, 0, none⟩ (.slice a2 (i + (n - (i + 1))) c2)).setCell ⟨w.heap.size + 1, 1, none⟩ (.slice wa wn wk)).setCells (w.heap.size + 1 + 1) 0 [.int .i64 vk, .int .i64 vn, .float .f64 vf, .string vs, .slice va vl vc]) :=
          (((Chg.refl _ wc).setCell (.inl (.inl rfl)) _).setCell (.inl (.inl rfl)) _).setCells (.inl (.inr rfl)) 0 _
        rw [set5]
        generalize (((wc.setCell ⟨w.heap.size + 1, 0, none⟩ (.slice a2 (i + (n - (i + 1))) c2)).setCell ⟨w.heap.size + 1, 1, none⟩ (.slice wa wn wk)).setCells (w.heap.size + 1 + 1) 0 [.int .i64 vk, .int .i64 vn, .float .f64 vf, .string vs, .slice va vl vc]) = wf at HRF2 HVF hch ⊢
        have hchd := hch.drew
        have hbel := HBl.out.trans (hchd.toBelow HBl.out.size (fun j hj e => by omega))
        have hrow := (HROW.out.frame (w' := wf.drew) (fun k hk hl => hchd.block k hl (fun e => by omega))).mono (T := fun k => w.heap.size ≤ k) (fun k hk => by omega)
        have HRF3 : wf.drew.heap[w.heap.size + 1]? = _ := HRF2
        have HVF3 : wf.drew.heap[w.heap.size + 1 + 1]? = _ := HVF
        clear HRF2 HVF hch hchd
        generalize wf.drew = wf at *
        refine bodyPost_ret (results_row_row_tmp (P := Try.prog) rfl _ _ (w.heap.size + 1) (w.heap.size + 1 + 1) 53 31 #[.slice a2 (i + (n - (i + 1))) c2, .slice wa wn wk] #[.int .i64 vk, .int .i64 vn, .float .f64 vf, .string vs, .slice va vl vc] (0, 0) (0, 0) _ _ rfl HRF3 rfl HVF3 Try.underlying53 rfl rfl Try.underlying31 rfl rfl) rfl ?_
        refine ⟨.slice a2 (i + (n - (i + 1))) c2, rfl, ?_, hbel⟩
        have he := HER.out
        show Row _ _ _ _ _ _ _
        rw [he.1, he.2]
        exact hrow
end Go.Proofs.Ytbofbboogmeneaa
