/- DiskDurable: bytes that are durable survive a crash. -/
import Derived.Test.YtjhhmljebflanaaDoorDPlans
import Derived.Test.YtjhhmljebflanaaDoorDConcat
namespace Go.Proofs.YtjhhmljebflanaaDoor
set_option linter.unusedVariables false
set_option linter.unusedSimpArgs false
open Go.RowKit

set_option maxRecDepth 100000 in
set_option maxHeartbeats 2000000 in
theorem durable_any (la lb : List UInt8) (aa ab : Option Addr) (ca cb : Nat) (keep : Int) (w : World) (hra : Reads w (.slice aa la.length ca) la.length 1 (byts la)) (hrb : Reads w (.slice ab lb.length cb) lb.length 1 (byts lb))
    (haa : ∀ ad, aa = some ad → 0 < la.length → ad.block < w.heap.size) (hab : ∀ ad, ab = some ad → 0 < lb.length → ad.block < w.heap.size) (hal : la.length ≤ maxLen) (hbl : lb.length ≤ maxLen) :
    Calls Tryd.prog 7 #[.slice aa la.length ca, .slice ab lb.length cb, .int .i64 keep] w fun e w' => e = .returned (.bool true) ∧ Below w.heap.size w w' := by
  have HRA := Lib.hid hra
  have HRB := Lib.hid hrb
  have HAA := Lib.hid haa
  have HAB := Lib.hid hab
  have HCB : Hid (lb.length ≤ cb ∧ (ab = none → lb.length = 0 ∧ cb = 0)) := by
    obtain ⟨-, ao, c, hv, h1, h2, -⟩ := hrb
    cases hv
    exact ⟨h1, h2⟩
  unfold maxLen at hal hbl
  clear hra hrb haa hab
  go_enter Tryd.func7, Tryd.ntmps7
  go_wp2_with fail
  refine (live_new 10000 w).mono ?_
  rintro e w1 ⟨x, rfl, ⟨bx, rfl⟩, hl⟩
  have HL := Lib.hid (show Live w w1 (.pointer (some ⟨bx, 0, none⟩)) ⟨10000, [], 0, false⟩ from hl)
  clear hl
  by_cases hbig : 1000 < la.length
  · go_wp2_with fail
    refine (alive_any _).mono ?_
    rintro e w2 ⟨rfl, hb⟩
    have HB := Lib.hid ((HL.out.below hb).2)
    clear hb
    go_wp2
    go_ret
    exact ⟨rfl, HB.out⟩
  · by_cases hbig2 : 1000 < lb.length
    · go_wp2_with fail
      refine (alive_any _).mono ?_
      rintro e w2 ⟨rfl, hb⟩
      have HB := Lib.hid ((HL.out.below hb).2)
      clear hb
      go_wp2
      go_ret
      exact ⟨rfl, HB.out⟩
    · go_wp2_with fail
      have h2 := live_create HL.out nX (by decide)
      rw [create_one nX_ok (by decide)] at h2
      refine h2.mono ?_
      rintro e w2 ⟨rfl, hl⟩
      have HL2 := Lib.hid (show Live w w2 (.pointer (some ⟨bx, 0, none⟩)) ⟨10000, [⟨nX, [], 0⟩], 0, false⟩ from hl)
      clear hl h2 HL
      go_wp2_with fail
      have h3 := live_append HL2.out nX la aa ca (by decide) (by simp only [sum_one]; simp) (by omega) (HRA.out.later HL2.out.2) HAA.out
      rw [append_one nX_ok (by decide) (by simp only [List.length_nil]; omega)] at h3
      refine h3.mono ?_
      rintro e w3 ⟨rfl, hl⟩
      have HL3 := Lib.hid (show Live w w3 (.pointer (some ⟨bx, 0, none⟩)) ⟨10000, [⟨nX, la, 0⟩], 0, false⟩ from hl)
      clear hl h3 HL2
      go_wp2_with fail
      have h4 := live_sync HL3.out nX (by constructor <;> simp)
      rw [sync_one nX_ok (by decide)] at h4
      refine h4.mono ?_
      rintro e w4 ⟨rfl, hl⟩
      have HL4 := Lib.hid (show Live w w4 (.pointer (some ⟨bx, 0, none⟩)) ⟨10000, [⟨nX, la, la.length⟩], 0, false⟩ from hl)
      clear hl h4 HL3
      go_wp2_with fail
      have h5 := live_append HL4.out nX lb ab cb (by constructor <;> simp) (by simp only [sum_one]; omega) (by omega) (HRB.out.later HL4.out.2) HAB.out
      rw [append_one nX_ok (by decide) (by omega)] at h5
      refine h5.mono ?_
      rintro e w5 ⟨rfl, hl⟩
      have HL5 := Lib.hid (show Live w w5 (.pointer (some ⟨bx, 0, none⟩)) ⟨10000, [⟨nX, la ++ lb, la.length⟩], 0, false⟩ from hl)
      clear hl h5 HL4
      obtain ⟨n, hn⟩ : ∃ n : Nat, n = (min (max keep 0) (lb.length : Int)).toNat := ⟨_, rfl⟩
      have HN : Hid (min (max keep 0) (lb.length : Int) = (n : Int)) := show _ = _ by omega
      have hnl : n ≤ lb.length := by omega
      have HCU : Hid (cutN ⟨nX, la ++ lb, la.length⟩ (some keep) = n) := by
        show (min (max keep 0) (((la ++ lb).length : Int) - (la.length : Int))).toNat = n
        rw [hn, List.length_append]; omega
      clear hn
      go_wp2_with fail
      have hWB : Below w5.heap.size w5 (w5.alloc (.cells #[.int .i64 keep] 3)) := (Below.refl _ _).alloc (Nat.le_refl _) _
      have h6 := live_crash_new HL5.out hWB (some ⟨w5.heap.size, 0, none⟩) 1 [keep] (by simp) (fun f hf => by simp at hf; subst hf; show (1 : Nat) ≤ maxLen; unfold maxLen; decide) (Reads.block (heap_alloc_new w5 _) 1 1 rfl) (by simp) (fun ad h => by cases h; exact Nat.le_refl _)
      refine h6.mono ?_
      rintro e w6 ⟨ss, ⟨hs1, hs2⟩, rfl, hl⟩
      rw [crash_one hs1 hs2] at hl
      have HL6 : Hid (Live w w6 (.pointer (some ⟨bx, 0, none⟩)) ⟨10000, [⟨nX, la ++ lb.take n, la.length + n⟩], 0, false⟩) := by
        simp only [List.getElem?_cons_zero, HCU.out] at hl
        rwa [List.take_append, List.take_of_length_le (by omega), Nat.add_sub_cancel_left] at hl
      have HLN : Hid ((la ++ lb.take n).length = la.length + n) := by rw [Hid, List.length_append, List.length_take]; omega
      clear hl h6 HL5 hs1 hs2 hWB
      obtain ⟨got, hgot⟩ : ∃ got, got = la ++ lb.take n := ⟨_, rfl⟩
      rw [← hgot] at HL6 HLN
      rw [← HLN.out] at HL6
      have hgl : got.length ≤ 2000 := by rw [HLN.out]; omega
      have HGOT := Lib.hid hgot
      clear hgot
      go_wp2_with fail
      have h7 := live_read HL6.out nX (by simp only [sum_one]; omega)
      rw [read_one] at h7
      refine h7.mono ?_
      rintro e w7 ⟨a7, c7, rfl, hr7, hb7, hl⟩
      have HL7 := Lib.hid hl
      have HR7 := Lib.hid hr7
      have HD7 : Hid (DRep w7 (.pointer (some ⟨bx, 0, none⟩)) ⟨10000, [⟨nX, got, la.length + n⟩], 0, false⟩ (fun k => w.heap.size ≤ k ∧ k < w6.heap.size)) := by
        have := HL6.out.1.frame (fun k _ hk => hb7.block k hk)
        rwa [HLN.out] at this
      have HSZ7 := Lib.hid hb7.size
      clear hl h7 HL6 hr7 hb7
      go_wp2_with fail
      rw [HN.out]
      refine (crash_any _ none 0 [] _ _ w7 HD7.out (by simp) (fun f hf => by simp at hf; subst hf; show (1 : Nat) ≤ maxLen; unfold maxLen; decide) (Reads.nil _ _) (by simp) (fun ad h => by cases h)).mono ?_
      rintro e w8 ⟨ss, ⟨hs1, hs2⟩, rfl, hr, hc⟩
      rw [crash_one hs1 hs2] at hr
      simp only [List.getElem?_nil, cutN, Nat.add_zero] at hr
      rw [← HLN.out, List.take_length] at hr
      have hs7 := HSZ7.out
      have HL8 : Hid (Live w w8 (.pointer (some ⟨bx, 0, none⟩)) ⟨10000, [⟨nX, got, got.length⟩], 0, false⟩) := HL7.out.next (hr.mono (fun k hk => .inl ⟨hk.1, by omega⟩)) (hc.mono (fun k hk => ⟨hk.1, by omega⟩))
      have HR8 : Hid (Reads w8 (.slice a7 got.length c7) got.length 1 (byts got)) := (HR7.out.frame (fun k hk hl => hc.block k hl (fun e => by omega))).reads
      clear hr hc hs1 hs2 HL7 HR7 HD7 HSZ7 hs7 HLN
      go_wp2_with fail
      have h9 := live_read HL8.out nX (by simp only [sum_one]; omega)
      rw [read_one] at h9
      refine h9.mono ?_
      rintro e w9 ⟨a9, c9, rfl, hr9, hb9, hl⟩
      have HL9 := Lib.hid hl.2
      have HR9 : Hid (Reads w9 (.slice a9 got.length c9) got.length 1 (byts got)) := hr9.reads
      have HG9 := Lib.hid (HR8.out.later hb9)
      clear hl h9 HL8 hr9 hb9 HR8
      go_wp2_with fail
      refine (alive_any _).mono ?_
      rintro e w10 ⟨rfl, hb10⟩
      have HL10 := Lib.hid (HL9.out.trans (hb10.mono HL9.out.size))
      have HR10 := Lib.hid (HR9.out.later hb10)
      have HG10 := Lib.hid (HG9.out.later hb10)
      clear hb10 HL9 HR9 HG9
      have hnc : (n : Int) ≤ (cb : Int) := by have := HCB.out.1; omega
      go_wp2_with fail
      have hWB : Hid (Below w10.heap.size w10 (w10.alloc (.cells #[.slice aa la.length ca, .slice ab n cb] 22))) := (Below.refl _ _).alloc (Nat.le_refl _) _
      have hBL := Lib.hid (Reads.block (heap_alloc_new w10 (.cells #[.slice aa la.length ca, .slice ab n cb] 22)) 2 1 rfl)
      generalize w10.alloc (.cells #[.slice aa la.length ca, .slice ab n cb] 22) = w11 at *
      have HL11 := Lib.hid (HL10.out.trans (hWB.out.mono HL10.out.size))
      have hnt : (lb.take n).length = n := by rw [List.length_take]; omega
      have HJ : Hid (joined [(aa, la, ca), (ab, lb.take n, cb)] = got) := by rw [Hid, HGOT.out]; simp [joined]
      have h12 := concat_any (some ⟨w10.heap.size, 0, none⟩) 2 [(aa, la, ca), (ab, lb.take n, cb)] w11 (by
          have h := hBL.out
          simp only [List.map_cons, List.map_nil, partV, hnt]
          exact h) (by simp) (by
          intro p hp
          simp only [List.mem_cons, List.not_mem_nil, or_false] at hp
          rcases hp with rfl | rfl
          · exact HRA.out.later HL11.out
          · have h := (HRB.out.later HL11.out).take n hnl
            simp only [partV, hnt]
            rw [show byts (lb.take n) = (byts lb).take n from List.map_take]
            exact h) (by simp [lens, hnt]; omega)
      rw [HJ.out] at h12
      refine h12.mono ?_
      rintro e w12 ⟨a12, c12, rfl, hr12, hb12⟩
      have HL12 := Lib.hid (HL11.out.trans (hb12.mono HL11.out.size))
      have HR12 := Lib.hid hr12.reads
      have hbb := hWB.out.trans (hb12.mono hWB.out.size)
      have HR9 := Lib.hid (HR10.out.later hbb)
      have HG9 := Lib.hid (HG10.out.later hbb)
      clear h12 hr12 hb12 hbb hWB hBL HR10 HG10 HL10 HL11 HJ
      go_wp2_with fail
      have h13 := bequal_any a7 a12 c7 c12 got got w12 HG9.out HR12.out (by omega) (by omega)
      have hde : decide (got = got) = true := decide_eq_true (Eq.refl got)
      rw [hde] at h13
      refine h13.mono ?_
      rintro e w13 ⟨rfl, hb13⟩
      have HL13 := Lib.hid (HL12.out.trans (hb13.mono HL12.out.size))
      have HR13 := Lib.hid (HR9.out.later hb13)
      have HG13 := Lib.hid (HG9.out.later hb13)
      clear h13 hb13 HR9 HG9 HR12 HL12
      go_wp2_with fail
      have h14 := bequal_any a9 a7 c9 c7 got got w13 HR13.out HG13.out (by omega) (by omega)
      have hde2 : decide (got = got) = true := decide_eq_true (Eq.refl got)
      rw [hde2] at h14
      refine h14.mono ?_
      rintro e w14 ⟨rfl, hb14⟩
      have HL14 := Lib.hid (HL13.out.trans (hb14.mono HL13.out.size))
      clear h14 hb14
      go_wp2
      go_ret
      exact ⟨rfl, HL14.out⟩
end Go.Proofs.YtjhhmljebflanaaDoor
