/- The reference's insert. -/
import Derived.Test.YtccnmoicckjfbaaGreatDoorPRef1
import Derived.Test.YtccnmoicckjfbaaGreatDoorInsert
import Derived.Test.YtccnmoicckjfbaaGreatDoorArms
import Derived.IntWalk
namespace Go.Proofs.YtccnmoicckjfbaaGreatDoor
set_option linter.unusedVariables false
set_option linter.unusedSimpArgs false
open Go.RowKit

theorem toList_mk (l : Str) : (⟨l.toArray⟩ : ByteArray).toList = l := by rw [ByteArray.toList_eq]

theorem ba_toList2 {a b : ByteArray} (h : a.toList = b.toList) : a = b := by
  have h2 := ba_beq a b
  rw [beq_toListBytes, h] at h2
  simpa using h2

theorem strV_take (l : List Str) (i : Nat) : strV (l.take i) = (strV l).take i := List.map_take
theorem strV_drop (l : List Str) (i : Nat) : strV (l.drop i) = (strV l).drop i := List.map_drop


set_option maxRecDepth 100000 in
set_option maxHeartbeats 1000000 in
theorem rinsert_any (lv : Value) (ss : List Str) (s : Str) (B : Nat) (w : World) (h0 : Row w 9 1 lv ss.length (strV ss) (fun k => B ≤ k)) (hB0 : B ≤ w.heap.size) (hL : ss.length ≤ 4398046600000) :
    Calls Tryz.prog 12 #[lv, .string ⟨s.toArray⟩] w fun e w' => ∃ v, e = .returned v ∧ Row w' 9 1 v (insS ss s).length (strV (insS ss s)) (fun k => B ≤ k) ∧ Below w.heap.size w w' := by
  have HR0 := Lib.hid h0
  have H := Lib.hid h0.reads
  have hsp : lv = .slice none 0 0 ∧ ss.length = 0 ∨ ∃ g off cap, lv = .slice (some ⟨g, off, none⟩) ss.length cap := by
    rcases h0.2 with h | ⟨g, off, cap, _, h, _⟩
    · exact .inl h
    · exact .inr ⟨g, off, cap, h⟩
  obtain ⟨-, la, lc, rfl, hlc, hln, -⟩ := h0.reads
  have HSP := Lib.hid hsp
  clear h0 hsp
  obtain ⟨sb, hsb⟩ : ∃ sb : ByteArray, sb = ⟨s.toArray⟩ := ⟨_, rfl⟩
  rw [← hsb]
  have HSB : Hid (sb.toList = s) := by rw [hsb]; exact toList_mk s
  have HSV : Hid (strV (s :: []) = [.string sb]) := by rw [Hid, hsb]; rfl
  have HLN := Lib.hid hln
  have HEN : Hid (∀ m, m ≤ ss.length → insS ss s = ss.take m ++ s :: ss.drop m → (insS ss s).length = m + 1 + (ss.length - m) ∧ strV (insS ss s) = (strV ss).take m ++ [.string sb] ++ (strV ss).drop m) := fun m hm he => by
    rw [he]
    refine ⟨by simp; omega, ?_⟩
    rw [strV, List.map_append, List.map_cons, List.map_take, List.map_drop, hsb]; simp
  clear hsb hln
  go_enter Tryz.func12, Tryz.ntmps12
  go_wp2
  go_loop [5] (fun i => ∃ m : Nat, m ≤ ss.length ∧ i = .int .i64 m ∧ Hid (insS ss s = ss.take m ++ insS (ss.drop m) s)) (fun i => ss.length - (RowKit.intOf i).toNat)
  case atStart => exact ⟨0, by omega, rfl, by simp [Hid]⟩
  case round =>
    obtain ⟨m, hm, rfl, HI⟩ := hrel
    by_cases hlt : m < ss.length
    · obtain ⟨b, o, c, he, hcap, hb, hcell⟩ := H.out.at (by omega)
      obtain ⟨rfl, rfl⟩ : la = some ⟨b, o, none⟩ ∧ lc = c := by cases he; exact ⟨rfl, rfl⟩
      have hc := hcell m (.string ⟨ss[m].toArray⟩) (by simp [hlt])
      obtain ⟨kb, hkb⟩ : ∃ kb : ByteArray, kb = ⟨ss[m].toArray⟩ := ⟨_, rfl⟩
      rw [← hkb] at hc
      have hkl : kb.toList = ss[m] := by rw [hkb]; exact toList_mk _
      by_cases hl : ss[m] < s
      · have hbl : Op.bytesLess kb.toList sb.toList = true := by rw [bytesLess_eq, hkl, HSB.out]; simpa using hl
        have HN := Lib.hid (insS_step ss s m hlt HI.out hl)
        clear hcell he hkb hkl hl
        go_wp2
        go_round
        case rel => exact ⟨m + 1, by omega, by go_num, HN.out⟩
        case measure => simp [RowKit.intOf]; omega
      · have hbl : Op.bytesLess kb.toList sb.toList = false := by rw [bytesLess_eq, hkl, HSB.out]; simpa using hl
        by_cases heq : ss[m] = s
        · have hne : kb.toList = sb.toList := by rw [hkl, HSB.out]; exact heq
          obtain rfl : kb = sb := ba_toList2 hne
          have HN := Lib.hid (insS_there ss s m hlt HI.out heq)
          clear hcell he hkb hkl hl heq hne
          go_wp2
          go_ret
          exact ⟨_, rfl, by rw [HN.out]; exact HR0.out, Below.refl _ _⟩
        · obtain ⟨hne, hne2⟩ := str_ne (a := kb) (b := sb) (fun e => heq (by rw [← hkl, ← HSB.out, e]))
          have HN := Lib.hid (HEN.out m (by omega) (insS_here ss s m (by omega) HI.out (fun _ => ⟨hl, heq⟩)))
          clear hcell he hkb hkl hl heq
          have hmc : m ≤ lc := by omega
          have hrt := Reads.takeN H.out m (by omega)
          rw [Nat.mul_one] at hrt
          have HRT := Lib.hid hrt
          clear hrt
          have hdr := Reads.dropN H.out m (by omega) (if lc = m then some ({ block := b, off := o } : Addr) else some { block := b, off := o + m }) (by intro h; simp [h]) (by split <;> simp)
          simp only [Nat.mul_one] at hdr
          have HRD := Lib.hid hdr
          clear hdr
          go_wp2_with fail
          go_region_law
            (first
            | (refine step_row elemStr rfl rfl (S := fun k => k = w.heap.size) (v := .slice (some ⟨w.heap.size, 0, none⟩) 0 0) (n := 0) (xs := []) rfl (Row.bare (heap_alloc_new w.drew _)) (y := .slice (some ⟨b, o, none⟩) m lc) (m := m) (news := (strV ss).take m) rfl (HRT.out.later ((Below.refl _ _).drew.alloc (Nat.le_refl _) _)) ?ha ?hb ?hc ?_
               case ha => exact fun u hu => strV_one ss u (List.mem_of_mem_take hu)
               case hb => unfold maxLen; omega
               case hc => omega
               intro v1 w1 hr1 hc1
               obtain ⟨hr1', hb1'⟩ := first_a hr1 hc1
               have HR1 := Lib.hid hr1'
               have HB1 := Lib.hid hb1'
               clear hr1 hc1 hr1' hb1')
            | (refine step_row elemStr rfl rfl (S := fun k => k = w.heap.size) (v := .slice (some ⟨w.heap.size, 0, none⟩) 0 0) (n := 0) (xs := []) rfl (Row.bare ((alloc2_low w.drew _ _).trans (heap_alloc_new w.drew _))) (y := .slice (some ⟨b, o, none⟩) m lc) (m := m) (news := (strV ss).take m) rfl (HRT.out.later (((Below.refl _ _).drew.alloc (Nat.le_refl _) _).alloc (by simp) _)) ?ha ?hb ?hc ?_
               case ha => exact fun u hu => strV_one ss u (List.mem_of_mem_take hu)
               case hb => unfold maxLen; omega
               case hc => omega
               intro v1 w1 hr1 hc1
               obtain ⟨hr1', hb1', ho1'⟩ := first_b hr1 hc1
               have HR1 := Lib.hid hr1'
               have HB1 := Lib.hid hb1'
               have HO1 : Hid (w1.heap[w.heap.size + 1]? = some (.cells #[.string sb] 9 (0, 0))) := ho1'.trans (alloc2_high w.drew _ _ (heap_alloc_new _ _))
               clear ho1'
               clear hr1 hc1 hr1' hb1')
            | (refine step_row elemStr rfl rfl (S := fun k => k = w.heap.size + 1) (v := .slice (some ⟨w.heap.size + 1, 0, none⟩) 0 0) (n := 0) (xs := []) rfl (Row.bare (alloc2_high w.drew _ _ (heap_alloc_new _ _))) (y := .slice (some ⟨b, o, none⟩) m lc) (m := m) (news := (strV ss).take m) rfl (HRT.out.later (((Below.refl _ _).drew.alloc (Nat.le_refl _) _).alloc (by simp) _)) ?ha ?hb ?hc ?_
               case ha => exact fun u hu => strV_one ss u (List.mem_of_mem_take hu)
               case hb => unfold maxLen; omega
               case hc => omega
               intro v1 w1 hr1 hc1
               obtain ⟨hr1', hb1', ho1'⟩ := first_c hr1 hc1
               have HR1 := Lib.hid hr1'
               have HB1 := Lib.hid hb1'
               have HO1 : Hid (w1.heap[w.heap.size]? = some (.cells #[.string sb] 9 (0, 0))) := ho1'.trans ((alloc2_low w.drew _ _).trans (heap_alloc_new w.drew _))
               clear ho1'
               clear hr1 hc1 hr1' hb1')
            | (refine step_row elemStr rfl rfl (S := fun k => w.heap.size ≤ k) (v := v1) (n := m) (xs := (strV ss).take m) rfl (HR1.out.frame (fun k _ hk => Below.heap_alloc _ _ _ hk)) (y := .slice (some ⟨w1.heap.size, 0, none⟩) 1 1) (m := 1) (news := [.string sb]) rfl (reads_one w1 _ _) ?ha ?hb ?hc ?_
               case ha => exact one_of rfl
               case hb => unfold maxLen; omega
               case hc => omega
               intro v2 w2 hr2 hc2
               obtain ⟨hr2', hb2'⟩ := next_a (bel_alloc HB1.out _) hr2 hc2
               have HR2 := Lib.hid hr2'
               have HB2 := Lib.hid hb2'
               clear hr2 hc2 hr2' hb2')
            | (refine step_row elemStr rfl rfl (S := fun k => w.heap.size ≤ k ∧ k ≠ w.heap.size + 1) (v := v1) (n := m) (xs := (strV ss).take m) rfl HR1.out (y := .slice (some ⟨w.heap.size + 1, 0, none⟩) 1 1) (m := 1) (news := [.string sb]) rfl (Reads.single HO1.out) ?ha ?hb ?hc ?_
               case ha => exact one_of rfl
               case hb => unfold maxLen; omega
               case hc => omega
               intro v2 w2 hr2 hc2
               obtain ⟨hr2', hb2'⟩ := next_b HB1.out hr2 hc2
               have HR2 := Lib.hid hr2'
               have HB2 := Lib.hid hb2'
               clear hr2 hc2 hr2' hb2')
            | (refine step_row elemStr rfl rfl (S := fun k => w.heap.size ≤ k ∧ k ≠ w.heap.size) (v := v1) (n := m) (xs := (strV ss).take m) rfl HR1.out (y := .slice (some ⟨w.heap.size, 0, none⟩) 1 1) (m := 1) (news := [.string sb]) rfl (Reads.single HO1.out) ?ha ?hb ?hc ?_
               case ha => exact one_of rfl
               case hb => unfold maxLen; omega
               case hc => omega
               intro v2 w2 hr2 hc2
               obtain ⟨hr2', hb2'⟩ := next_b HB1.out hr2 hc2
               have HR2 := Lib.hid hr2'
               have HB2 := Lib.hid hb2'
               clear hr2 hc2 hr2' hb2')
            | (refine step_row elemStr rfl rfl (S := fun k => w.heap.size ≤ k) (v := v2) (n := m + 1) (xs := (strV ss).take m ++ [.string sb]) rfl HR2.out (y := .slice (if lc = m then some ({ block := b, off := o } : Addr) else some { block := b, off := o + m }) (ss.length - m) (lc - m)) (m := ss.length - m) (news := (strV ss).drop m) rfl (HRD.out.later (HB2.out)) ?ha ?hb ?hc ?_
               case ha => exact fun u hu => strV_one ss u (List.mem_of_mem_drop hu)
               case hb => unfold maxLen; omega
               case hc => omega
               intro v3 w3 hr3 hc3
               obtain ⟨hr3', hb3'⟩ := next_a HB2.out hr3 hc3
               have HR3 := Lib.hid hr3'
               have HB3 := Lib.hid hb3'
               clear hr3 hc3 hr3' hb3')
            | fail)
          all_goals
            go_wp2
            go_ret
            exact ⟨_, rfl, by rw [HN.out.1, HN.out.2]; exact HR3.out.mono (fun k hk => Nat.le_trans hB0 hk), HB3.out⟩
    · obtain rfl : m = ss.length := by omega
      have HN := Lib.hid (HEN.out ss.length (by omega) (insS_here ss s ss.length (by omega) HI.out (fun h => absurd h (by omega))))
      have hmc : ss.length ≤ lc := by omega
      have hrt := Reads.takeN H.out ss.length (by omega)
      rw [Nat.mul_one] at hrt
      have HRT := Lib.hid hrt
      clear hrt hlt hm
      rcases HSP.out with ⟨hs1, hs2⟩ | ⟨b, o, cap, hs1⟩
      · obtain ⟨rfl, rfl⟩ : la = none ∧ lc = 0 := by simp only [Value.slice.injEq] at hs1; exact ⟨hs1.1, hs1.2.2⟩
        obtain rfl : ss = [] := List.eq_nil_of_length_eq_zero hs2
        clear hs1 hs2 hlc
        simp only [List.length_nil] at *
        go_wp2_with fail
        go_region_law
          (first
          | (refine step_row elemStr rfl rfl (S := fun k => k = w.heap.size) (v := .slice (some ⟨w.heap.size, 0, none⟩) 0 0) (n := 0) (xs := []) rfl (Row.bare ((alloc2_low w.drew _ _).trans (heap_alloc_new w.drew _))) (y := .slice (some ⟨w.heap.size + 1, 0, none⟩) 1 1) (m := 1) (news := [.string sb]) rfl (Reads.single (alloc2_high w.drew _ _ (heap_alloc_new _ _))) ?ha ?hb ?hc ?_
             case ha => exact one_of rfl
             case hb => unfold maxLen; omega
             case hc => omega
             intro v2 w2 hr2 hc2
             obtain ⟨hr2', hb2'⟩ := only_b hr2 hc2
             have HR2 := Lib.hid hr2'
             have HB2 := Lib.hid hb2'
             clear hr2 hc2 hr2' hb2')
          | (refine step_row elemStr rfl rfl (S := fun k => k = w.heap.size + 1) (v := .slice (some ⟨w.heap.size + 1, 0, none⟩) 0 0) (n := 0) (xs := []) rfl (Row.bare (alloc2_high w.drew _ _ (heap_alloc_new _ _))) (y := .slice (some ⟨w.heap.size, 0, none⟩) 1 1) (m := 1) (news := [.string sb]) rfl (Reads.single ((alloc2_low w.drew _ _).trans (heap_alloc_new w.drew _))) ?ha ?hb ?hc ?_
             case ha => exact one_of rfl
             case hb => unfold maxLen; omega
             case hc => omega
             intro v2 w2 hr2 hc2
             obtain ⟨hr2', hb2'⟩ := only_c hr2 hc2
             have HR2 := Lib.hid hr2'
             have HB2 := Lib.hid hb2'
             clear hr2 hc2 hr2' hb2')
          | (refine step_row elemStr rfl rfl (S := fun k => w.heap.size ≤ k) (v := v2) (n := 1) (xs := [.string sb]) rfl HR2.out (y := .slice none 0 0) (m := 0) (news := []) rfl (Reads.nil _ _) ?ha ?hb ?hc ?_
             case ha => exact fun u hu => by cases hu
             case hb => unfold maxLen; omega
             case hc => omega
             intro v3 w3 hr3 hc3
             obtain ⟨hr3', hb3'⟩ := next_a HB2.out hr3 hc3
             have HR3 := Lib.hid hr3'
             have HB3 := Lib.hid hb3'
             clear hr3 hc3 hr3' hb3')
          | fail)
        all_goals
          go_wp2
          go_ret
          exact ⟨_, rfl, by rw [HN.out.1, HN.out.2]; exact HR3.out.mono (fun k hk => Nat.le_trans hB0 hk), HB3.out⟩
      · obtain ⟨rfl, rfl⟩ : la = some ⟨b, o, none⟩ ∧ lc = cap := by cases hs1; exact ⟨rfl, rfl⟩
        clear hs1
        have hdr := Reads.dropN H.out ss.length (by omega) (if lc = ss.length then some ({ block := b, off := o } : Addr) else some { block := b, off := o + ss.length }) (by intro h; simp [h]) (by split <;> simp)
        simp only [Nat.mul_one, Nat.sub_self] at hdr
        have HRD := Lib.hid hdr
        clear hdr
        go_wp2_with fail
        go_region_law
          (first
          | (refine step_row elemStr rfl rfl (S := fun k => k = w.heap.size) (v := .slice (some ⟨w.heap.size, 0, none⟩) 0 0) (n := 0) (xs := []) rfl (Row.bare (heap_alloc_new w.drew _)) (y := .slice (some ⟨b, o, none⟩) ss.length lc) (m := ss.length) (news := (strV ss).take ss.length) rfl (HRT.out.later ((Below.refl _ _).drew.alloc (Nat.le_refl _) _)) ?ha ?hb ?hc ?_
             case ha => exact fun u hu => strV_one ss u (List.mem_of_mem_take hu)
             case hb => unfold maxLen; omega
             case hc => omega
             intro v1 w1 hr1 hc1
             obtain ⟨hr1', hb1'⟩ := first_a hr1 hc1
             have HR1 := Lib.hid hr1'
             have HB1 := Lib.hid hb1'
             clear hr1 hc1 hr1' hb1')
          | (refine step_row elemStr rfl rfl (S := fun k => k = w.heap.size) (v := .slice (some ⟨w.heap.size, 0, none⟩) 0 0) (n := 0) (xs := []) rfl (Row.bare ((alloc2_low w.drew _ _).trans (heap_alloc_new w.drew _))) (y := .slice (some ⟨b, o, none⟩) ss.length lc) (m := ss.length) (news := (strV ss).take ss.length) rfl (HRT.out.later (((Below.refl _ _).drew.alloc (Nat.le_refl _) _).alloc (by simp) _)) ?ha ?hb ?hc ?_
             case ha => exact fun u hu => strV_one ss u (List.mem_of_mem_take hu)
             case hb => unfold maxLen; omega
             case hc => omega
             intro v1 w1 hr1 hc1
             obtain ⟨hr1', hb1', ho1'⟩ := first_b hr1 hc1
             have HR1 := Lib.hid hr1'
             have HB1 := Lib.hid hb1'
             have HO1 : Hid (w1.heap[w.heap.size + 1]? = some (.cells #[.string sb] 9 (0, 0))) := ho1'.trans (alloc2_high w.drew _ _ (heap_alloc_new _ _))
             clear ho1'
             clear hr1 hc1 hr1' hb1')
          | (refine step_row elemStr rfl rfl (S := fun k => k = w.heap.size + 1) (v := .slice (some ⟨w.heap.size + 1, 0, none⟩) 0 0) (n := 0) (xs := []) rfl (Row.bare (alloc2_high w.drew _ _ (heap_alloc_new _ _))) (y := .slice (some ⟨b, o, none⟩) ss.length lc) (m := ss.length) (news := (strV ss).take ss.length) rfl (HRT.out.later (((Below.refl _ _).drew.alloc (Nat.le_refl _) _).alloc (by simp) _)) ?ha ?hb ?hc ?_
             case ha => exact fun u hu => strV_one ss u (List.mem_of_mem_take hu)
             case hb => unfold maxLen; omega
             case hc => omega
             intro v1 w1 hr1 hc1
             obtain ⟨hr1', hb1', ho1'⟩ := first_c hr1 hc1
             have HR1 := Lib.hid hr1'
             have HB1 := Lib.hid hb1'
             have HO1 : Hid (w1.heap[w.heap.size]? = some (.cells #[.string sb] 9 (0, 0))) := ho1'.trans ((alloc2_low w.drew _ _).trans (heap_alloc_new w.drew _))
             clear ho1'
             clear hr1 hc1 hr1' hb1')
          | (refine step_row elemStr rfl rfl (S := fun k => w.heap.size ≤ k) (v := v1) (n := ss.length) (xs := (strV ss).take ss.length) rfl (HR1.out.frame (fun k _ hk => Below.heap_alloc _ _ _ hk)) (y := .slice (some ⟨w1.heap.size, 0, none⟩) 1 1) (m := 1) (news := [.string sb]) rfl (reads_one w1 _ _) ?ha ?hb ?hc ?_
             case ha => exact one_of rfl
             case hb => unfold maxLen; omega
             case hc => omega
             intro v2 w2 hr2 hc2
             obtain ⟨hr2', hb2'⟩ := next_a (bel_alloc HB1.out _) hr2 hc2
             have HR2 := Lib.hid hr2'
             have HB2 := Lib.hid hb2'
             clear hr2 hc2 hr2' hb2')
          | (refine step_row elemStr rfl rfl (S := fun k => w.heap.size ≤ k ∧ k ≠ w.heap.size + 1) (v := v1) (n := ss.length) (xs := (strV ss).take ss.length) rfl HR1.out (y := .slice (some ⟨w.heap.size + 1, 0, none⟩) 1 1) (m := 1) (news := [.string sb]) rfl (Reads.single HO1.out) ?ha ?hb ?hc ?_
             case ha => exact one_of rfl
             case hb => unfold maxLen; omega
             case hc => omega
             intro v2 w2 hr2 hc2
             obtain ⟨hr2', hb2'⟩ := next_b HB1.out hr2 hc2
             have HR2 := Lib.hid hr2'
             have HB2 := Lib.hid hb2'
             clear hr2 hc2 hr2' hb2')
          | (refine step_row elemStr rfl rfl (S := fun k => w.heap.size ≤ k ∧ k ≠ w.heap.size) (v := v1) (n := ss.length) (xs := (strV ss).take ss.length) rfl HR1.out (y := .slice (some ⟨w.heap.size, 0, none⟩) 1 1) (m := 1) (news := [.string sb]) rfl (Reads.single HO1.out) ?ha ?hb ?hc ?_
             case ha => exact one_of rfl
             case hb => unfold maxLen; omega
             case hc => omega
             intro v2 w2 hr2 hc2
             obtain ⟨hr2', hb2'⟩ := next_b HB1.out hr2 hc2
             have HR2 := Lib.hid hr2'
             have HB2 := Lib.hid hb2'
             clear hr2 hc2 hr2' hb2')
          | (refine step_row elemStr rfl rfl (S := fun k => w.heap.size ≤ k) (v := v2) (n := ss.length + 1) (xs := (strV ss).take ss.length ++ [.string sb]) rfl HR2.out (y := .slice (if lc = ss.length then some ({ block := b, off := o } : Addr) else some { block := b, off := o + ss.length }) 0 (lc - ss.length)) (m := 0) (news := (strV ss).drop ss.length) rfl (HRD.out.later (HB2.out)) ?ha ?hb ?hc ?_
             case ha => exact fun u hu => strV_one ss u (List.mem_of_mem_drop hu)
             case hb => unfold maxLen; omega
             case hc => omega
             intro v3 w3 hr3 hc3
             obtain ⟨hr3', hb3'⟩ := next_a HB2.out hr3 hc3
             have HR3 := Lib.hid hr3'
             have HB3 := Lib.hid hb3'
             clear hr3 hc3 hr3' hb3')
          | fail)
        all_goals
          go_wp2
        all_goals
          go_ret
          exact ⟨_, rfl, by rw [HN.out.1, HN.out.2, Nat.sub_self]; exact HR3.out.mono (fun k hk => Nat.le_trans hB0 hk), HB3.out⟩

theorem mk_toList (b : ByteArray) : (⟨b.toList.toArray⟩ : ByteArray) = b := ba_toList2 (toList_mk b.toList)

theorem rinsert_b (lv : Value) (ss : List Str) (sb : ByteArray) (B : Nat) (w : World) (h0 : Row w 9 1 lv ss.length (strV ss) (fun k => B ≤ k)) (hB0 : B ≤ w.heap.size) (hL : ss.length ≤ 4398046600000) :
    Calls Tryz.prog 12 #[lv, .string sb] w fun e w' => ∃ v, e = .returned v ∧ Row w' 9 1 v (insS ss sb.toList).length (strV (insS ss sb.toList)) (fun k => B ≤ k) ∧ Below w.heap.size w w' := by
  have := rinsert_any lv ss sb.toList B w h0 hB0 hL
  rwa [mk_toList] at this

/-- Names, put into a sorted list one by one. -/
def addN (ss : List Str) (l : List ByteArray) : List Str := l.foldl (fun a n => insS a n.toList) ss
theorem addN_len (l : List ByteArray) : ∀ ss : List Str, (addN ss l).length ≤ ss.length + l.length := by
  induction l with
  | nil => intro ss; exact Nat.le_refl _
  | cons a l ih => intro ss; have h1 := ih (insS ss a.toList); have h2 := insS_len ss a.toList; show (addN (insS ss a.toList) l).length ≤ _; simp only [List.length_cons]; omega
theorem addN_sorted (l : List ByteArray) : ∀ ss : List Str, ss.Pairwise (· < ·) → (addN ss l).Pairwise (· < ·) := by
  induction l with
  | nil => intro ss h; exact h
  | cons a l ih => intro ss h; exact ih _ (insS_sorted ss a.toList h)
theorem addN_mem (l : List ByteArray) : ∀ (ss : List Str) (x : Str), x ∈ addN ss l ↔ x ∈ ss ∨ ∃ n ∈ l, n.toList = x := by
  induction l with
  | nil => intro ss x; simp [addN]
  | cons a l ih =>
    intro ss x
    show x ∈ addN (insS ss a.toList) l ↔ _
    rw [ih, insS_mem]
    constructor
    · rintro ((h | h) | ⟨n, h1, h2⟩)
      · exact .inl h
      · exact .inr ⟨a, List.mem_cons_self, h.symm⟩
      · exact .inr ⟨n, List.mem_cons_of_mem _ h1, h2⟩
    · rintro (h | ⟨n, h1, h2⟩)
      · exact .inl (.inl h)
      · rcases List.mem_cons.1 h1 with e | e
        · exact .inl (.inr (by rw [← h2, e]))
        · exact .inr ⟨n, e, h2⟩
theorem addN_snoc (ss : List Str) (l : List ByteArray) (n : ByteArray) : addN ss (l ++ [n]) = insS (addN ss l) n.toList := by
  unfold addN; rw [List.foldl_append]; rfl
theorem addN_take {α : Type} (ss : List Str) (l : List α) (f : α → ByteArray) (m : Nat) (hm : m < l.length) : addN ss ((l.take (m + 1)).map f) = insS (addN ss ((l.take m).map f)) (f l[m]).toList := by
  rw [List.take_succ_eq_append_getElem hm, List.map_append]
  exact addN_snoc _ _ _

end Go.Proofs.YtccnmoicckjfbaaGreatDoor
