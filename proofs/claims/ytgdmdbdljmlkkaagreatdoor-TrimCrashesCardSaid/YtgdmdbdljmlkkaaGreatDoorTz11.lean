/- Rf4 -/
import Derived.Test.YtgdmdbdljmlkkaaGreatDoorTz10
import Derived.Sort.Walk0
set_option maxRecDepth 100000
set_option linter.unusedVariables false
set_option linter.unusedSimpArgs false
namespace Go.Proofs.YtgdmdbdljmlkkaaGreatDoor
open Go.RowKit
def insR : List RF → RF → List RF
 | [], r => [r]
 | a :: l, r => if a.f.name.toList < r.f.name.toList then a :: insR l r else r :: a :: l
def putR (R : List RF) (r : RF) : List RF := insR (outR R r.f.name) r
theorem insR_step (l : List RF) (r : RF) (m : Nat) (hm : m < l.length) (h : insR l r = l.take m ++ insR (l.drop m) r) (hlt : l[m].f.name.toList < r.f.name.toList) : insR l r = l.take (m + 1) ++ insR (l.drop (m + 1)) r := by
 rw [h, List.drop_eq_getElem_cons hm, insR, if_pos hlt, List.take_succ_eq_append_getElem hm, List.append_assoc]; rfl
theorem insR_here (l : List RF) (r : RF) (m : Nat) (hm : m ≤ l.length) (h : insR l r = l.take m ++ insR (l.drop m) r) (hn : ∀ h : m < l.length, ¬ l[m].f.name.toList < r.f.name.toList) : insR l r = l.take m ++ r :: l.drop m := by
 rw [h]
 rcases Nat.lt_or_ge m l.length with hlt | hge
 · rw [List.drop_eq_getElem_cons hlt, insR, if_neg (hn hlt)]
 · rw [List.drop_of_length_le hge]; rfl
theorem insR_mem (l : List RF) (r x : RF) : x ∈ insR l r ↔ x = r ∨ x ∈ l := by
 induction l with
 | nil => simp [insR]
 | cons a l ih =>
   rw [insR]
   split
   · rw [List.mem_cons, ih, List.mem_cons]
     constructor
     · rintro (h | h | h)
       · exact .inr (.inl h)
       · exact .inl h
       · exact .inr (.inr h)
     · rintro (h | h | h)
       · exact .inr (.inl h)
       · exact .inl h
       · exact .inr (.inr h)
   · exact List.mem_cons
theorem Reads.frame_blocks' {w w' : World} {v : Value} {n size : Nat} {xs : List Value} (h : Reads w v n size xs) (hb : ∀ k, k < w.heap.size → w'.heap[k]? = w.heap[k]?) : Reads w' v n size xs := by
 obtain ⟨hl, ao, c, rfl, hnc, hnone, hcells⟩ := h
 refine ⟨hl, ao, c, rfl, hnc, hnone, fun ad had j u hu => ?_⟩
 have hc := hcells ad had j u hu
 rw [World.cell?_of_block (hb _ (World.block_lt_of_cell? w _ hc))]
 exact hc
set_option maxHeartbeats 4000000 in
theorem rput_any (v : Value) (R : List RF) (T : Nat → Prop) (r : RF) (w : World) (h : RLi w v R T) (hL : R.length ≤ 10000) (hr : okR w T r) :
   Calls Tryz.prog 121 #[v, .agg #[.string r.f.name, .slice r.a r.f.b.length r.c, .int .i64 r.f.d]] w fun e w' => ∃ v', e = .returned v' ∧ RLi w' v' (putR R r) (fun k => T k ∨ w.heap.size ≤ k) ∧ Below w.heap.size w w' := by
 have H := Lib.hid h
 have HRK := Lib.hid hr
 obtain ⟨ra, hra⟩ : ∃ x, x = r.a := ⟨_, rfl⟩
 obtain ⟨rc, hrc⟩ : ∃ x, x = r.c := ⟨_, rfl⟩
 obtain ⟨rl, hrl⟩ : ∃ x, x = r.f.b.length := ⟨_, rfl⟩
 obtain ⟨rd, hrd⟩ : ∃ x, x = r.f.d := ⟨_, rfl⟩
 obtain ⟨key, hkey⟩ : ∃ x, x = r.f.name := ⟨_, rfl⟩
 have HCE : Hid (rcells r = [.string key, .slice ra rl rc, .int .i64 rd]) := by rw [Hid, hra, hrc, hrl, hrd, hkey]
 have HKEY := Lib.hid hkey
 rw [← hra, ← hrc, ← hrl, ← hrd, ← hkey]
 clear h hr hra hrc hrl hrd hkey
 have HBX0 : Hid ((w.alloc (.cells #[.string key, .slice ra rl rc, .int .i64 rd] 120)).heap[w.heap.size]? = some (.cells #[.string key, .slice ra rl rc, .int .i64 rd] 120 (0, 0))) := heap_alloc_new w _
 have HBel : Hid (Below w.heap.size w (w.alloc (.cells #[.string key, .slice ra rl rc, .int .i64 rd] 120))) := (Below.refl _ _).alloc (Nat.le_refl _) _
 have HWO := Lib.hid (rwithout_any v R T key _ (H.out.below HBel.out) (by omega))
 obtain ⟨hx0, hx1, hx2⟩ := cells3 HBX0.out
 obtain ⟨va, vl, vc, rfl⟩ : ∃ a l c, v = .slice a l c := by obtain ⟨a, c, h⟩ := slice_form H.out.row; exact ⟨a, _, c, h⟩
 go_enter Tryz.func121, Tryz.ntmps121
 go_wp2_with fail
 generalize w.alloc (.cells #[.string key, .slice ra rl rc, .int .i64 rd] 120) = wa at *
 refine HWO.out.mono ?_
 rintro e w1 ⟨v1, rfl, hli, hb1⟩
 have HBO := Lib.hid (HBel.out.trans (hb1.mono HBel.out.size))
 have HBX := Lib.hid ((hb1.block _ (lt_of_heap HBX0.out)).trans HBX0.out)
 have HLI : Hid (RLi w1 v1 (outR R key) (fun k => T k ∨ w.heap.size ≤ k)) := hli.mono (fun k hk => by have := HBel.out.size; exact hk.imp_right (fun h => by omega))
 have HLL : Hid ((outR R key).length ≤ 10000) := by have := outR_len R key; show _ ≤ _; omega
 have HPU : Hid (putR R r = insR (outR R key) r) := by rw [Hid, putR, HKEY.out]
 clear hli hb1 HWO hx0 hx1 hx2 HBX0
 generalize outR R key = L at *
 have hll := HLL.out
 have HSP : Hid (v1 = .slice none 0 0 ∧ L.length = 0 ∨ ∃ b o cap, v1 = .slice (some ⟨b, o, none⟩) L.length cap) := by
   rcases HLI.out.row.2 with h | ⟨g, off, cap, _, h, _⟩
   · exact .inl h
   · exact .inr ⟨g, off, cap, h⟩
 obtain ⟨hlr, la, lc, rfl, hlc, hln, -⟩ := HLI.out.row.reads
 have hlm : lc ≤ 9223372036854775807 := by
   rcases HLI.out.row.2 with ⟨h, -⟩ | ⟨g, off, cap, _, h, _, _, h1, h2, _⟩
   · simp only [Value.slice.injEq] at h; omega
   · simp only [Value.slice.injEq] at h; unfold maxLen at h2; omega
 have HEN : Hid (∀ m, m ≤ L.length → insR L r = L.take m ++ r :: L.drop m → (insR L r).length = m + 1 + (L.length - m) ∧ (insR L r).flatMap rcells = (L.flatMap rcells).take (m * 3) ++ [.string key, .slice ra rl rc, .int .i64 rd] ++ (L.flatMap rcells).drop (m * 3)) := fun m hm he => by
   rw [he]
   refine ⟨by simp; omega, ?_⟩
   rw [List.flatMap_append, List.flatMap_cons, fm_take rcells_len, fm_drop rcells_len, HCE.out, List.append_assoc]
 have HFIN : Hid (∀ w' v' n, Row w' 120 3 v' n ((insR L r).flatMap rcells) (fun k => w.heap.size ≤ k) → n = (insR L r).length → Below w.heap.size w w' → (∀ k, k < w1.heap.size → w'.heap[k]? = w1.heap[k]?) → RLi w' v' (putR R r) (fun k => T k ∨ w.heap.size ≤ k)) := fun w' v' n hrow hn hb hbb => by
   subst hn
   rw [HPU.out]
   refine ⟨hrow.mono (fun k hk => .inr hk), fun x hx => ?_⟩
   rcases (insR_mem L r x).1 hx with rfl | hx
   · exact ⟨(HRK.out.1.mono (T := fun k => T k ∧ True) (fun k hk => ⟨hk, trivial⟩) |>.frame (fun k _ hk => hb.block k hk)).mono (fun k hk => .inl hk.1), HRK.out.2⟩
   · exact ⟨((HLI.out.byt x hx).1.frame (fun k _ hk => hbb k hk)), (HLI.out.byt x hx).2⟩
 have HCELL : Hid (∀ j (hj : j < L.length), ∃ b o, la = some ⟨b, o, none⟩ ∧ w1.cell? ⟨b, o + j * 3, none⟩ = some (.string L[j].f.name)) := fun j hj => by
   obtain ⟨b', o', c', he, h1, h2, h3⟩ := HLI.out.cells (by omega)
   cases he
   exact ⟨b', o', rfl, (h3 j hj).1⟩
 clear hlr hln
 go_wp2_with fail
 go_loopw [5] (fun i w' => ∃ m : Nat, m ≤ L.length ∧ i = .int .i64 m ∧ Hid (insR L r = L.take m ++ insR (L.drop m) r) ∧ Hid (w'.heap = w1.heap ∧ Below w1.heap.size w1 w')) (fun i _ => L.length - (RowKit.intOf i).toNat)
 case atStart => exact ⟨0, by omega, rfl, by simp [Hid], rfl, Below.refl _ _⟩
 case round =>
   obtain ⟨m, hm, rfl, HI, HW⟩ := hrel
   have HBXr : Hid (wr.heap[w.heap.size]? = some (.cells #[.string key, .slice ra rl rc, .int .i64 rd] 120 (0, 0))) := by rw [Hid, HW.out.1]; exact HBX.out
   obtain ⟨hx0, hx1, hx2⟩ := cells3 HBXr.out
   by_cases hlt : m < L.length
   · obtain ⟨b, o, rfl, hc0'⟩ := HCELL.out m hlt
     have hc0 : wr.cell? ⟨b, o + m * 3, none⟩ = some (.string L[m].f.name) := (World.cell?_of_block (a := ⟨b, o + m * 3, none⟩) (by rw [HW.out.1])).trans hc0'
     have hmc : m ≤ lc := by omega
     by_cases hl : L[m].f.name.toList < r.f.name.toList
     · have hbl : Op.bytesLess L[m].f.name.toList key.toList = true := by rw [bytesLess_eq, HKEY.out]; simpa using hl
       have HN := Lib.hid (insR_step L r m hlt HI.out hl)
       clear hl hc0'
       generalize L[m].f.name = nm at *
       go_wp2_with fail
       go_quiet (fail)
       have HWN : Hid ((wr.drewN nq).heap = w1.heap ∧ Below w1.heap.size w1 (wr.drewN nq)) := ⟨HW.out.1, ⟨HW.out.2.os, HW.out.2.tape, HW.out.2.output, HW.out.2.size, HW.out.2.block⟩⟩
       go_wp2
       go_roundw
       case rel => exact ⟨m + 1, by omega, by go_num, HN, HWN⟩
       case measure => simp [RowKit.intOf]; omega
     · have hbl : Op.bytesLess L[m].f.name.toList key.toList = false := by rw [bytesLess_eq, HKEY.out]; simpa using hl
       have HN := Lib.hid (HEN.out m (by omega) (insR_here L r m (by omega) HI.out (fun _ => hl)))
       clear hl hc0'
       generalize L[m].f.name = nm at *
       go_wp2_with fail
       go_quiet (fail)
       have HWN : Hid ((wr.drewN nq).heap = w1.heap ∧ Below w1.heap.size w1 (wr.drewN nq)) := ⟨HW.out.1, ⟨HW.out.2.os, HW.out.2.tape, HW.out.2.output, HW.out.2.size, HW.out.2.block⟩⟩
       clear hc0 hbl hx0 hx1 hx2 HBXr HW
       generalize wr.drewN nq = wq at *
       have HBXq : Hid (wq.heap[w.heap.size]? = some (.cells #[.string key, .slice ra rl rc, .int .i64 rd] 120 (0, 0))) := by rw [Hid, HWN.out.1]; exact HBX.out
       obtain ⟨hx0, hx1, hx2⟩ := cells3 HBXq.out
       have hxa := fun ob => cells3 ((Below.heap_alloc wq ob _ (lt_of_heap HBXq.out)).trans HBXq.out)
       have hxa0 := fun ob => (hxa ob).1
       have hxa1 := fun ob => (hxa ob).2.1
       have hxa2 := fun ob => (hxa ob).2.2
       clear hxa
       have HLQ : Hid (Reads wq (.slice (some ⟨b, o, none⟩) L.length lc) L.length 3 (L.flatMap rcells)) := HLI.out.row.reads.frame_blocks' (fun k _ => by rw [HWN.out.1])
       have HRT := Lib.hid (Reads.takeN HLQ.out m (by omega))
       have HRD := Lib.hid (Reads.dropN HLQ.out m (by omega) (if lc = m then some ({ block := b, off := o } : Addr) else some { block := b, off := o + m * 3 }) (by intro h; simp [h]) (by split <;> simp))
       go_wp2_with fail
       go_region_law
         (first
         | (refine step_row elemR rfl rfl (S := fun k => k = wq.heap.size) (v := .slice (some ⟨wq.heap.size, 0, none⟩) 0 0) (n := 0) (xs := []) rfl (Row.bare (heap_alloc_new wq.drew _)) (y := .slice (some ⟨b, o, none⟩) m lc) (m := m) (news := (L.flatMap rcells).take (m * 3)) rfl (HRT.out.later ((Below.refl _ _).drew.alloc (Nat.le_refl _) _)) ?ha ?hb ?hc ?_
            case ha => exact fun u hu => rcells_one L u (List.mem_of_mem_take hu)
            case hb => unfold maxLen; omega
            case hc => omega
            intro v1 w1 hr1 hc1
            obtain ⟨hr1', hb1'⟩ := first_a hr1 hc1
            have HR1 := Lib.hid hr1'
            have HB1 := Lib.hid hb1'
            obtain ⟨hz0, hz1, hz2⟩ := cells3 ((hb1'.block _ (lt_of_heap HBXq.out)).trans HBXq.out)
            clear hr1 hc1 hr1' hb1')
         | (refine step_row elemR rfl rfl (S := fun k => k = wq.heap.size) (v := .slice (some ⟨wq.heap.size, 0, none⟩) 0 0) (n := 0) (xs := []) rfl (Row.bare ((alloc2_low wq.drew _ _).trans (heap_alloc_new wq.drew _))) (y := .slice (some ⟨b, o, none⟩) m lc) (m := m) (news := (L.flatMap rcells).take (m * 3)) rfl (HRT.out.later (((Below.refl _ _).drew.alloc (Nat.le_refl _) _).alloc (by simp) _)) ?ha ?hb ?hc ?_
            case ha => exact fun u hu => rcells_one L u (List.mem_of_mem_take hu)
            case hb => unfold maxLen; omega
            case hc => omega
            intro v1 w1 hr1 hc1
            obtain ⟨hr1', hb1', ho1'⟩ := first_b hr1 hc1
            have HR1 := Lib.hid hr1'
            have HB1 := Lib.hid hb1'
            have HO1 : Hid (w1.heap[wq.heap.size + 1]? = some (.cells #[.string key, .slice ra rl rc, .int .i64 rd] 120 (0, 0))) := ho1'.trans (alloc2_high wq.drew _ _ (heap_alloc_new _ _))
            clear ho1' hr1 hc1 hr1' hb1')
         | (refine step_row elemR rfl rfl (S := fun k => k = wq.heap.size + 1) (v := .slice (some ⟨wq.heap.size + 1, 0, none⟩) 0 0) (n := 0) (xs := []) rfl (Row.bare (alloc2_high wq.drew _ _ (heap_alloc_new _ _))) (y := .slice (some ⟨b, o, none⟩) m lc) (m := m) (news := (L.flatMap rcells).take (m * 3)) rfl (HRT.out.later (((Below.refl _ _).drew.alloc (Nat.le_refl _) _).alloc (by simp) _)) ?ha ?hb ?hc ?_
            case ha => exact fun u hu => rcells_one L u (List.mem_of_mem_take hu)
            case hb => unfold maxLen; omega
            case hc => omega
            intro v1 w1 hr1 hc1
            obtain ⟨hr1', hb1', ho1'⟩ := first_c hr1 hc1
            have HR1 := Lib.hid hr1'
            have HB1 := Lib.hid hb1'
            have HO1 : Hid (w1.heap[wq.heap.size]? = some (.cells #[.string key, .slice ra rl rc, .int .i64 rd] 120 (0, 0))) := ho1'.trans ((alloc2_low wq.drew _ _).trans (heap_alloc_new wq.drew _))
            clear ho1' hr1 hc1 hr1' hb1')
         | (refine step_row elemR rfl rfl (S := fun k => wq.heap.size ≤ k) (v := v1) (n := m) (xs := (L.flatMap rcells).take (m * 3)) rfl (HR1.out.frame (fun k _ hk => Below.heap_alloc _ _ _ hk)) (y := .slice (some ⟨w1.heap.size, 0, none⟩) 1 1) (m := 1) (news := [.string key, .slice ra rl rc, .int .i64 rd]) rfl (Reads.single (heap_alloc_new w1 _)) ?ha ?hb ?hc ?_
            case ha => exact by intro u hu; simp only [List.mem_cons, List.not_mem_nil, or_false] at hu; rcases hu with rfl | rfl | rfl <;> rfl
            case hb => unfold maxLen; omega
            case hc => omega
            intro v2 w2 hr2 hc2
            obtain ⟨hr2', hb2'⟩ := next_a (bel_alloc HB1.out _) hr2 hc2
            have HR2 := Lib.hid hr2'
            have HB2 := Lib.hid hb2'
            clear hr2 hc2 hr2' hb2')
         | (refine step_row elemR rfl rfl (S := fun k => wq.heap.size ≤ k ∧ k ≠ wq.heap.size + 1) (v := v1) (n := m) (xs := (L.flatMap rcells).take (m * 3)) rfl HR1.out (y := .slice (some ⟨wq.heap.size + 1, 0, none⟩) 1 1) (m := 1) (news := [.string key, .slice ra rl rc, .int .i64 rd]) rfl (Reads.single HO1.out) ?ha ?hb ?hc ?_
            case ha => exact by intro u hu; simp only [List.mem_cons, List.not_mem_nil, or_false] at hu; rcases hu with rfl | rfl | rfl <;> rfl
            case hb => unfold maxLen; omega
            case hc => omega
            intro v2 w2 hr2 hc2
            obtain ⟨hr2', hb2'⟩ := next_b HB1.out hr2 hc2
            have HR2 := Lib.hid hr2'
            have HB2 := Lib.hid hb2'
            clear hr2 hc2 hr2' hb2')
         | (refine step_row elemR rfl rfl (S := fun k => wq.heap.size ≤ k ∧ k ≠ wq.heap.size) (v := v1) (n := m) (xs := (L.flatMap rcells).take (m * 3)) rfl HR1.out (y := .slice (some ⟨wq.heap.size, 0, none⟩) 1 1) (m := 1) (news := [.string key, .slice ra rl rc, .int .i64 rd]) rfl (Reads.single HO1.out) ?ha ?hb ?hc ?_
            case ha => exact by intro u hu; simp only [List.mem_cons, List.not_mem_nil, or_false] at hu; rcases hu with rfl | rfl | rfl <;> rfl
            case hb => unfold maxLen; omega
            case hc => omega
            intro v2 w2 hr2 hc2
            obtain ⟨hr2', hb2'⟩ := next_b HB1.out hr2 hc2
            have HR2 := Lib.hid hr2'
            have HB2 := Lib.hid hb2'
            clear hr2 hc2 hr2' hb2')
         | (refine step_row elemR rfl rfl (S := fun k => wq.heap.size ≤ k) (v := v2) (n := m + 1) (xs := (L.flatMap rcells).take (m * 3) ++ [.string key, .slice ra rl rc, .int .i64 rd]) rfl HR2.out (y := .slice (if lc = m then some ({ block := b, off := o } : Addr) else some { block := b, off := o + m * 3 }) (L.length - m) (lc - m)) (m := L.length - m) (news := (L.flatMap rcells).drop (m * 3)) rfl (HRD.out.later (HB2.out)) ?ha ?hb ?hc ?_
            case ha => exact fun u hu => rcells_one L u (List.mem_of_mem_drop hu)
            case hb => unfold maxLen; omega
            case hc => omega
            intro v3 w3 hr3 hc3
            obtain ⟨hr3', hb3'⟩ := next_a HB2.out hr3 hc3
            have HR3 := Lib.hid hr3'
            have HB3 := Lib.hid hb3'
            clear hr3 hc3 hr3' hb3')
         | fail)
       all_goals
         generalize (if lc = m then some ({ block := b, off := o } : Addr) else some { block := b, off := o + m * 3 }) = adr at *
         go_wp2
         go_ret
         have hbq := HWN.out.2.trans (HB3.out.mono HWN.out.2.size)
         exact ⟨_, rfl, HFIN.out _ _ _ (by rw [HN.out.2]; exact HR3.out.mono (fun k hk => Nat.le_trans (Nat.le_trans HBO.out.size HWN.out.2.size) hk)) (by rw [HN.out.1] <;> omega) (HBO.out.trans (hbq.mono HBO.out.size)) (fun k hk => hbq.block k hk), HBO.out.trans (hbq.mono HBO.out.size)⟩
   · obtain rfl : m = L.length := by omega
     have HN := Lib.hid (HEN.out L.length (by omega) (insR_here L r L.length (by omega) HI.out (fun h => absurd h (by omega))))
     go_wp2_with fail
     go_quiet (fail)
     have HWN : Hid ((wr.drewN nq).heap = w1.heap ∧ Below w1.heap.size w1 (wr.drewN nq)) := ⟨HW.out.1, ⟨HW.out.2.os, HW.out.2.tape, HW.out.2.output, HW.out.2.size, HW.out.2.block⟩⟩
     clear hx0 hx1 hx2 HBXr HW
     generalize wr.drewN nq = wq at *
     rcases HSP.out with ⟨hs1, hs2⟩ | ⟨b, o, cap, hs1⟩
     · obtain ⟨rfl, rfl⟩ : la = none ∧ lc = 0 := by simp only [Value.slice.injEq] at hs1; exact ⟨hs1.1, hs1.2.2⟩
       obtain rfl : L = [] := List.eq_nil_of_length_eq_zero hs2
       clear hs1 hs2
       simp only [List.length_nil] at *
       have HBXq : Hid (wq.heap[w.heap.size]? = some (.cells #[.string key, .slice ra rl rc, .int .i64 rd] 120 (0, 0))) := by rw [Hid, HWN.out.1]; exact HBX.out
       obtain ⟨hx0, hx1, hx2⟩ := cells3 HBXq.out
       have hxa := fun ob => cells3 ((Below.heap_alloc wq ob _ (lt_of_heap HBXq.out)).trans HBXq.out)
       have hxa0 := fun ob => (hxa ob).1
       have hxa1 := fun ob => (hxa ob).2.1
       have hxa2 := fun ob => (hxa ob).2.2
       clear hxa
       go_wp2_with fail
       go_region_law
         (first
         | (refine step_row elemR rfl rfl (S := fun k => k = wq.heap.size) (v := .slice (some ⟨wq.heap.size, 0, none⟩) 0 0) (n := 0) (xs := []) rfl (Row.bare ((alloc2_low wq.drew _ _).trans (heap_alloc_new wq.drew _))) (y := .slice (some ⟨wq.heap.size + 1, 0, none⟩) 1 1) (m := 1) (news := [.string key, .slice ra rl rc, .int .i64 rd]) rfl (Reads.single (alloc2_high wq.drew _ _ (heap_alloc_new _ _))) ?ha ?hb ?hc ?_
            case ha => exact by intro u hu; simp only [List.mem_cons, List.not_mem_nil, or_false] at hu; rcases hu with rfl | rfl | rfl <;> rfl
            case hb => unfold maxLen; omega
            case hc => omega
            intro v2 w2 hr2 hc2
            obtain ⟨hr2', hb2'⟩ := only_b hr2 hc2
            have HR2 := Lib.hid hr2'
            have HB2 := Lib.hid hb2'
            clear hr2 hc2 hr2' hb2')
         | (refine step_row elemR rfl rfl (S := fun k => k = wq.heap.size + 1) (v := .slice (some ⟨wq.heap.size + 1, 0, none⟩) 0 0) (n := 0) (xs := []) rfl (Row.bare (alloc2_high wq.drew _ _ (heap_alloc_new _ _))) (y := .slice (some ⟨wq.heap.size, 0, none⟩) 1 1) (m := 1) (news := [.string key, .slice ra rl rc, .int .i64 rd]) rfl (Reads.single ((alloc2_low wq.drew _ _).trans (heap_alloc_new wq.drew _))) ?ha ?hb ?hc ?_
            case ha => exact by intro u hu; simp only [List.mem_cons, List.not_mem_nil, or_false] at hu; rcases hu with rfl | rfl | rfl <;> rfl
            case hb => unfold maxLen; omega
            case hc => omega
            intro v2 w2 hr2 hc2
            obtain ⟨hr2', hb2'⟩ := only_c hr2 hc2
            have HR2 := Lib.hid hr2'
            have HB2 := Lib.hid hb2'
            clear hr2 hc2 hr2' hb2')
         | (refine step_row elemR rfl rfl (S := fun k => wq.heap.size ≤ k) (v := v2) (n := 1) (xs := [.string key, .slice ra rl rc, .int .i64 rd]) rfl HR2.out (y := .slice none 0 0) (m := 0) (news := []) rfl (Reads.nil _ _) ?ha ?hb ?hc ?_
            case ha => exact fun u hu => by cases hu
            case hb => unfold maxLen; omega
            case hc => omega
            intro v3 w3 hr3 hc3
            obtain ⟨hr3', hb3'⟩ := next_a HB2.out hr3 hc3
            have HR3 := Lib.hid hr3'
            have HB3 := Lib.hid hb3'
            clear hr3 hc3 hr3' hb3')
         | fail)
       all_goals
         go_wp2
         go_ret
         have hbq := HWN.out.2.trans (HB3.out.mono HWN.out.2.size)
         exact ⟨_, rfl, HFIN.out _ _ _ (by rw [HN.out.2]; exact HR3.out.mono (fun k hk => Nat.le_trans (Nat.le_trans HBO.out.size HWN.out.2.size) hk)) (by rw [HN.out.1] <;> omega) (HBO.out.trans (hbq.mono HBO.out.size)) (fun k hk => hbq.block k hk), HBO.out.trans (hbq.mono HBO.out.size)⟩
     · obtain rfl : la = some ⟨b, o, none⟩ := by simp only [Value.slice.injEq] at hs1; exact hs1.1
       clear hs1
       have hmc : L.length ≤ lc := by omega
       have HBXq : Hid (wq.heap[w.heap.size]? = some (.cells #[.string key, .slice ra rl rc, .int .i64 rd] 120 (0, 0))) := by rw [Hid, HWN.out.1]; exact HBX.out
       obtain ⟨hx0, hx1, hx2⟩ := cells3 HBXq.out
       have hxa := fun ob => cells3 ((Below.heap_alloc wq ob _ (lt_of_heap HBXq.out)).trans HBXq.out)
       have hxa0 := fun ob => (hxa ob).1
       have hxa1 := fun ob => (hxa ob).2.1
       have hxa2 := fun ob => (hxa ob).2.2
       clear hxa
       have HLQ : Hid (Reads wq (.slice (some ⟨b, o, none⟩) L.length lc) L.length 3 (L.flatMap rcells)) := HLI.out.row.reads.frame_blocks' (fun k _ => by rw [HWN.out.1])
       have HRT := Lib.hid (Reads.takeN HLQ.out L.length (by omega))
       have HRD := Lib.hid (Reads.dropN HLQ.out L.length (by omega) (if lc = L.length then some ({ block := b, off := o } : Addr) else some { block := b, off := o + L.length * 3 }) (by intro h; simp [h]) (by split <;> simp))
       rw [Nat.sub_self] at HRD
       go_wp2_with fail
       go_region_law
         (first
         | (refine step_row elemR rfl rfl (S := fun k => k = wq.heap.size) (v := .slice (some ⟨wq.heap.size, 0, none⟩) 0 0) (n := 0) (xs := []) rfl (Row.bare (heap_alloc_new wq.drew _)) (y := .slice (some ⟨b, o, none⟩) L.length lc) (m := L.length) (news := (L.flatMap rcells).take (L.length * 3)) rfl (HRT.out.later ((Below.refl _ _).drew.alloc (Nat.le_refl _) _)) ?ha ?hb ?hc ?_
            case ha => exact fun u hu => rcells_one L u (List.mem_of_mem_take hu)
            case hb => unfold maxLen; omega
            case hc => omega
            intro v1 w1 hr1 hc1
            obtain ⟨hr1', hb1'⟩ := first_a hr1 hc1
            have HR1 := Lib.hid hr1'
            have HB1 := Lib.hid hb1'
            obtain ⟨hz0, hz1, hz2⟩ := cells3 ((hb1'.block _ (lt_of_heap HBXq.out)).trans HBXq.out)
            clear hr1 hc1 hr1' hb1')
         | (refine step_row elemR rfl rfl (S := fun k => k = wq.heap.size) (v := .slice (some ⟨wq.heap.size, 0, none⟩) 0 0) (n := 0) (xs := []) rfl (Row.bare ((alloc2_low wq.drew _ _).trans (heap_alloc_new wq.drew _))) (y := .slice (some ⟨b, o, none⟩) L.length lc) (m := L.length) (news := (L.flatMap rcells).take (L.length * 3)) rfl (HRT.out.later (((Below.refl _ _).drew.alloc (Nat.le_refl _) _).alloc (by simp) _)) ?ha ?hb ?hc ?_
            case ha => exact fun u hu => rcells_one L u (List.mem_of_mem_take hu)
            case hb => unfold maxLen; omega
            case hc => omega
            intro v1 w1 hr1 hc1
            obtain ⟨hr1', hb1', ho1'⟩ := first_b hr1 hc1
            have HR1 := Lib.hid hr1'
            have HB1 := Lib.hid hb1'
            have HO1 : Hid (w1.heap[wq.heap.size + 1]? = some (.cells #[.string key, .slice ra rl rc, .int .i64 rd] 120 (0, 0))) := ho1'.trans (alloc2_high wq.drew _ _ (heap_alloc_new _ _))
            clear ho1' hr1 hc1 hr1' hb1')
         | (refine step_row elemR rfl rfl (S := fun k => k = wq.heap.size + 1) (v := .slice (some ⟨wq.heap.size + 1, 0, none⟩) 0 0) (n := 0) (xs := []) rfl (Row.bare (alloc2_high wq.drew _ _ (heap_alloc_new _ _))) (y := .slice (some ⟨b, o, none⟩) L.length lc) (m := L.length) (news := (L.flatMap rcells).take (L.length * 3)) rfl (HRT.out.later (((Below.refl _ _).drew.alloc (Nat.le_refl _) _).alloc (by simp) _)) ?ha ?hb ?hc ?_
            case ha => exact fun u hu => rcells_one L u (List.mem_of_mem_take hu)
            case hb => unfold maxLen; omega
            case hc => omega
            intro v1 w1 hr1 hc1
            obtain ⟨hr1', hb1', ho1'⟩ := first_c hr1 hc1
            have HR1 := Lib.hid hr1'
            have HB1 := Lib.hid hb1'
            have HO1 : Hid (w1.heap[wq.heap.size]? = some (.cells #[.string key, .slice ra rl rc, .int .i64 rd] 120 (0, 0))) := ho1'.trans ((alloc2_low wq.drew _ _).trans (heap_alloc_new wq.drew _))
            clear ho1' hr1 hc1 hr1' hb1')
         | (refine step_row elemR rfl rfl (S := fun k => wq.heap.size ≤ k) (v := v1) (n := L.length) (xs := (L.flatMap rcells).take (L.length * 3)) rfl (HR1.out.frame (fun k _ hk => Below.heap_alloc _ _ _ hk)) (y := .slice (some ⟨w1.heap.size, 0, none⟩) 1 1) (m := 1) (news := [.string key, .slice ra rl rc, .int .i64 rd]) rfl (Reads.single (heap_alloc_new w1 _)) ?ha ?hb ?hc ?_
            case ha => exact by intro u hu; simp only [List.mem_cons, List.not_mem_nil, or_false] at hu; rcases hu with rfl | rfl | rfl <;> rfl
            case hb => unfold maxLen; omega
            case hc => omega
            intro v2 w2 hr2 hc2
            obtain ⟨hr2', hb2'⟩ := next_a (bel_alloc HB1.out _) hr2 hc2
            have HR2 := Lib.hid hr2'
            have HB2 := Lib.hid hb2'
            clear hr2 hc2 hr2' hb2')
         | (refine step_row elemR rfl rfl (S := fun k => wq.heap.size ≤ k ∧ k ≠ wq.heap.size + 1) (v := v1) (n := L.length) (xs := (L.flatMap rcells).take (L.length * 3)) rfl HR1.out (y := .slice (some ⟨wq.heap.size + 1, 0, none⟩) 1 1) (m := 1) (news := [.string key, .slice ra rl rc, .int .i64 rd]) rfl (Reads.single HO1.out) ?ha ?hb ?hc ?_
            case ha => exact by intro u hu; simp only [List.mem_cons, List.not_mem_nil, or_false] at hu; rcases hu with rfl | rfl | rfl <;> rfl
            case hb => unfold maxLen; omega
            case hc => omega
            intro v2 w2 hr2 hc2
            obtain ⟨hr2', hb2'⟩ := next_b HB1.out hr2 hc2
            have HR2 := Lib.hid hr2'
            have HB2 := Lib.hid hb2'
            clear hr2 hc2 hr2' hb2')
         | (refine step_row elemR rfl rfl (S := fun k => wq.heap.size ≤ k ∧ k ≠ wq.heap.size) (v := v1) (n := L.length) (xs := (L.flatMap rcells).take (L.length * 3)) rfl HR1.out (y := .slice (some ⟨wq.heap.size, 0, none⟩) 1 1) (m := 1) (news := [.string key, .slice ra rl rc, .int .i64 rd]) rfl (Reads.single HO1.out) ?ha ?hb ?hc ?_
            case ha => exact by intro u hu; simp only [List.mem_cons, List.not_mem_nil, or_false] at hu; rcases hu with rfl | rfl | rfl <;> rfl
            case hb => unfold maxLen; omega
            case hc => omega
            intro v2 w2 hr2 hc2
            obtain ⟨hr2', hb2'⟩ := next_b HB1.out hr2 hc2
            have HR2 := Lib.hid hr2'
            have HB2 := Lib.hid hb2'
            clear hr2 hc2 hr2' hb2')
         | (refine step_row elemR rfl rfl (S := fun k => wq.heap.size ≤ k) (v := v2) (n := L.length + 1) (xs := (L.flatMap rcells).take (L.length * 3) ++ [.string key, .slice ra rl rc, .int .i64 rd]) rfl HR2.out (y := .slice (if lc = L.length then some ({ block := b, off := o } : Addr) else some { block := b, off := o + L.length * 3 }) 0 (lc - L.length)) (m := 0) (news := (L.flatMap rcells).drop (L.length * 3)) rfl (HRD.out.later (HB2.out)) ?ha ?hb ?hc ?_
            case ha => exact fun u hu => rcells_one L u (List.mem_of_mem_drop hu)
            case hb => unfold maxLen; omega
            case hc => omega
            intro v3 w3 hr3 hc3
            obtain ⟨hr3', hb3'⟩ := next_a HB2.out hr3 hc3
            have HR3 := Lib.hid hr3'
            have HB3 := Lib.hid hb3'
            clear hr3 hc3 hr3' hb3')
         | fail)
       all_goals
         generalize (if lc = L.length then some ({ block := b, off := o } : Addr) else some { block := b, off := o + L.length * 3 }) = adr at *
         go_wp2
         go_ret
         have hbq := HWN.out.2.trans (HB3.out.mono HWN.out.2.size)
         exact ⟨_, rfl, HFIN.out _ _ _ (by rw [HN.out.2]; exact HR3.out.mono (fun k hk => Nat.le_trans (Nat.le_trans HBO.out.size HWN.out.2.size) hk)) (by rw [HN.out.1] <;> omega) (HBO.out.trans (hbq.mono HBO.out.size)) (fun k hk => hbq.block k hk), HBO.out.trans (hbq.mono HBO.out.size)⟩
def rangeC (n : Nat) : Bool := (decide (97 ≤ n) && decide (n ≤ 122)) || (decide (48 ≤ n) && decide (n ≤ 57)) || decide (n = 45) || decide (n = 46)
theorem okC_all : ∀ n : Fin 256, okC (UInt8.ofNat n.val) = rangeC n.val := by decide +kernel
theorem okC_range (c : UInt8) : okC c = rangeC c.toNat := by
 have h := okC_all ⟨c.toNat, c.toNat_lt⟩
 simpa using h
set_option maxHeartbeats 1000000 in
theorem rnamed_any (n : ByteArray) (w : World) (hn : n.size ≤ 100000) :
   Calls Tryz.prog 120 #[.string n] w fun e w' => e = .returned (.bool (namedB n)) ∧ w' = w := by
 have HN : Hid (namedB n = (decide (1 ≤ n.size ∧ n.size ≤ 100) && n.data.toList.all okC)) := rfl
 generalize namedB n = nb at *
 go_enter Tryz.func120, Tryz.ntmps120
 go_wp2
 go_loop [3] (fun i => ∃ m : Nat, m ≤ n.size ∧ i = .int .i64 m ∧ Hid (∀ j (hj : j < n.size), j < m → okC n[j] = true)) (fun i => n.size - (RowKit.intOf i).toNat)
 case atStart => exact ⟨0, by omega, rfl, fun j _ h => by omega⟩
 case round =>
   obtain ⟨m, hm, rfl, HLOW⟩ := hrel
   by_cases hlt : m < n.size
   · have hget : n.data[m]? = some n[m] := by
       have : m < n.data.size := hlt
       rw [Array.getElem?_eq_getElem this]; rfl
     have hkk := okC_range n[m]
     have hlow : okC n[m] = true → Hid (∀ j (hj : j < n.size), j < m + 1 → okC n[j] = true) := fun h j hj hjm => by
       rcases Nat.lt_or_ge j m with h1 | h1
       · exact HLOW.out j hj h1
       · have : j = m := by omega
         subst this; exact h
     have hbad : okC n[m] = false → Hid (nb = false) := fun h => by
       rw [Hid, HN.out]
       have : n.data.toList.all okC = false := by
         rw [List.all_eq_false]
         refine ⟨n[m], List.mem_iff_getElem.2 ⟨m, by simpa using hlt, by rw [Array.getElem_toList]; rfl⟩, by simp [h]⟩
       rw [this, Bool.and_false]
     have hr : okC n[m] = rangeC n[m].toNat := okC_range _
     have hk256 : n[m].toNat < 256 := n[m].toNat_lt
     clear hget hkk
     obtain ⟨k, hk⟩ : ∃ k, k = n[m].toNat := ⟨_, rfl⟩
     rw [← hk] at hr hk256
     have HK := Lib.hid hk
     have hcases : (97 ≤ k ∧ k ≤ 122) ∨ (48 ≤ k ∧ k ≤ 57) ∨ k = 45 ∨ k = 46 ∨ k ≤ 44 ∨ k = 47 ∨ (58 ≤ k ∧ k ≤ 96) ∨ 123 ≤ k := by omega
     rcases hcases with ⟨h1, h2⟩ | ⟨h1, h2⟩ | h1 | h1 | h1 | h1 | ⟨h1, h2⟩ | h1
     · have HG := hlow (by rw [hr]; simp [rangeC]; omega)
       clear hlow hbad hr hk256
       have f0 : 97 ≤ (n[m].toNat : Int) := by omega
       have f1 : (n[m].toNat : Int) ≤ 122 := by omega
       clear hk
       go_wp2
       go_round
       case rel => exact ⟨m + 1, by omega, by go_num, HG⟩
       case measure => simp [RowKit.intOf]; omega
     · have HG := hlow (by rw [hr]; simp [rangeC]; omega)
       clear hlow hbad hr hk256
       have f0 : ¬ 97 ≤ (n[m].toNat : Int) := by omega
       have f1 : 48 ≤ (n[m].toNat : Int) := by omega
       have f2 : (n[m].toNat : Int) ≤ 57 := by omega
       clear hk
       go_wp2
       go_round
       case rel => exact ⟨m + 1, by omega, by go_num, HG⟩
       case measure => simp [RowKit.intOf]; omega
     · have HG := hlow (by rw [hr]; simp [rangeC]; omega)
       clear hlow hbad hr hk256
       have f0 : (n[m].toNat : Int) = 45 := by omega
       clear hk
       go_wp2
       go_round
       case rel => exact ⟨m + 1, by omega, by go_num, HG⟩
       case measure => simp [RowKit.intOf]; omega
     · have HG := hlow (by rw [hr]; simp [rangeC]; omega)
       clear hlow hbad hr hk256
       have f0 : (n[m].toNat : Int) = 46 := by omega
       clear hk
       go_wp2
       go_round
       case rel => exact ⟨m + 1, by omega, by go_num, HG⟩
       case measure => simp [RowKit.intOf]; omega
     · have HG := hbad (by rw [hr]; simp [rangeC]; omega)
       clear hlow hbad hr hk256
       have f0 : ¬ 97 ≤ (n[m].toNat : Int) := by omega
       have f1 : ¬ 48 ≤ (n[m].toNat : Int) := by omega
       have f2 : ((n[m].toNat : Int) == 45) = false := by simp only [beq_eq_false_iff_ne, ne_eq]; omega
       have f3 : ((n[m].toNat : Int) == 46) = false := by simp only [beq_eq_false_iff_ne, ne_eq]; omega
       clear hk
       go_wp2
       go_ret
       exact ⟨by rw [HG.out]; rfl, rfl⟩
     · have HG := hbad (by rw [hr]; simp [rangeC]; omega)
       clear hlow hbad hr hk256
       have f0 : (n[m].toNat : Int) = 47 := by omega
       clear hk
       go_wp2
       go_ret
       exact ⟨by rw [HG.out]; rfl, rfl⟩
     · have HG := hbad (by rw [hr]; simp [rangeC]; omega)
       clear hlow hbad hr hk256
       have f0 : ¬ 97 ≤ (n[m].toNat : Int) := by omega
       have f1 : 48 ≤ (n[m].toNat : Int) := by omega
       have f2 : ¬ (n[m].toNat : Int) ≤ 57 := by omega
       have f3 : ((n[m].toNat : Int) == 45) = false := by simp only [beq_eq_false_iff_ne, ne_eq]; omega
       have f4 : ((n[m].toNat : Int) == 46) = false := by simp only [beq_eq_false_iff_ne, ne_eq]; omega
       clear hk
       go_wp2
       go_ret
       exact ⟨by rw [HG.out]; rfl, rfl⟩
     · have HG := hbad (by rw [hr]; simp [rangeC]; omega)
       clear hlow hbad hr hk256
       have f0 : 97 ≤ (n[m].toNat : Int) := by omega
       have f1 : ¬ (n[m].toNat : Int) ≤ 122 := by omega
       have f2 : 48 ≤ (n[m].toNat : Int) := by omega
       have f3 : ¬ (n[m].toNat : Int) ≤ 57 := by omega
       have f4 : ((n[m].toNat : Int) == 45) = false := by simp only [beq_eq_false_iff_ne, ne_eq]; omega
       have f5 : ((n[m].toNat : Int) == 46) = false := by simp only [beq_eq_false_iff_ne, ne_eq]; omega
       clear hk
       go_wp2
       go_ret
       exact ⟨by rw [HG.out]; rfl, rfl⟩
   · obtain rfl : m = n.size := by omega
     have HA : Hid (n.data.toList.all okC = true) := by
       rw [Hid, List.all_eq_true]
       intro c hc
       obtain ⟨j, hj, rfl⟩ := List.mem_iff_getElem.1 hc
       have hj' : j < n.size := by simpa using hj
       have := HLOW.out j hj' hj'
       rw [Array.getElem_toList]; exact this
     have HNB : Hid (nb = (decide (1 ≤ (n.size : Int)) && decide ((n.size : Int) ≤ 100))) := by
       rw [Hid, HN.out, HA.out, Bool.and_true]
       by_cases a : 1 ≤ n.size
       · by_cases b : n.size ≤ 100
         · rw [decide_eq_true (by omega), decide_eq_true (by omega), decide_eq_true (by omega)]; rfl
         · rw [decide_eq_false (by omega), decide_eq_true (by omega), decide_eq_false (by omega)]; rfl
       · rw [decide_eq_false (by omega), decide_eq_false (by omega)]; rfl
     by_cases a : 1 ≤ (n.size : Int)
     · rw [decide_eq_true a, Bool.true_and] at HNB
       go_wp2
       go_ret
       exact ⟨by rw [HNB.out]; rfl, rfl⟩
     · rw [decide_eq_false a, Bool.false_and] at HNB
       go_wp2
       go_ret
       exact ⟨by rw [HNB.out]; rfl, rfl⟩
end Go.Proofs.YtgdmdbdljmlkkaaGreatDoor
