/- The law ScanNil returns true. -/
import Derived.Test.YtgdmdbdljmlkkaaGreatDoorScan7
import Derived.Test.YtgdmdbdljmlkkaaGreatDoorOpenFiles
namespace Go.Proofs.YtgdmdbdljmlkkaaGreatDoor
set_option linter.unusedVariables false
set_option linter.unusedSimpArgs false
open Go.RowKit

theorem create_armed (D : DS) (n : ByteArray) : (createD { D with plan := 1 } n).1.down = true ∧ (createD { D with plan := 1 } n).1.files = D.files ∧ 0 ≤ (createD { D with plan := 1 } n).1.plan ∧ (createD { D with plan := 1 } n).1.plan ≤ 1 := by
  unfold createD beginD
  by_cases hd : D.down = true
  · simp [hd]
  · simp [hd]

set_option maxRecDepth 100000 in
set_option maxHeartbeats 4000000 in
theorem scanNil_any (a0 : Option Addr) (c0 : Nat) (P : List FI) (w : World) (h : FIs w (.slice a0 P.length c0) P) (hl : P.length ≤ 3518437208780) (ht : Tab w) :
    Calls Tryz.prog 6 #[.slice a0 P.length c0] w fun e w' => e = .returned (.bool true) ∧ Below w.heap.size w w' := by
  have HT := Lib.hid ht
  have HF := Lib.hid (files_any 100000 a0 c0 P w h hl)
  clear h ht
  go_enter Tryz.func6, Tryz.ntmps6
  go_wp2_with fail
  refine HF.out.mono ?_
  rintro e w1 ⟨bx, D, S, rm, a, c, R, pl, dn, T, ok, rfl, hd, hr, hS, hTT, hrel, hb, hok⟩
  unfold rdisk
  have HB1 := Lib.hid hb
  have HBA : Hid (Below w.heap.size w (w1.alloc (.cells #[.int .i64 rm, .slice a R.length c, .int .i64 pl, .bool dn] 32))) := hb.alloc hb.size _
  have hba1 : Below w1.heap.size w1 (w1.alloc (.cells #[.int .i64 rm, .slice a R.length c, .int .i64 pl, .bool dn] 32)) := (Below.refl _ _).alloc (Nat.le_refl _) _
  have HDA := Lib.hid (hd.frame (fun k hk hl => hba1.block k hl))
  have hsA : ∀ k, S k → w.heap.size ≤ k ∧ k < (w1.alloc (.cells #[.int .i64 rm, .slice a R.length c, .int .i64 pl, .bool dn] 32)).heap.size := fun k hk => ⟨(hS k hk).1, by have := (hS k hk).2; have := hba1.size; omega⟩
  have HSA := Lib.hid hsA
  clear hr hTT hrel hb hd hS HF hba1 hsA
  cases ok with
  | false =>
    clear hok
    go_upto_region 2 with fail
    generalize w1.alloc (.cells #[.int .i64 rm, .slice a R.length c, .int .i64 pl, .bool dn] 32) = wa at *
    go_wp2_with fail
    refine (scalive_any wa (tab_below HT.out HBA.out)).mono ?_
    rintro e w2 ⟨rfl, hb2⟩
    have HB2 := Lib.hid (HBA.out.trans (hb2.mono HBA.out.size))
    clear hb2
    go_wp2
    go_ret
    exact ⟨rfl, HB2.out⟩
  | true =>
    obtain ⟨-, -, hbn⟩ := hok rfl
    clear hok
    go_upto_region 2 with fail
    generalize w1.alloc (.cells #[.int .i64 rm, .slice a R.length c, .int .i64 pl, .bool dn] 32) = wa at *
    have hbw : w.heap.size ≤ wa.heap.size := HBA.out.size
    have HAR := Lib.hid (arm_any (.pointer (some ⟨bx, 0, none⟩)) 1 D S wa HDA.out)
    have HBN := Lib.hid hbn
    clear hbn
    go_wp2_with fail
    refine HAR.out.mono ?_
    rintro e w2 ⟨rfl, hd2, hc2⟩
    rw [show max (1 : Int) 0 = 1 from rfl] at hd2
    have HB2 : Hid (Below w.heap.size w w2) := HBA.out.trans (hc2.toBelow hbw (fun k hk h => by have := (HSA.out k h).1; omega))
    have hz2 := hc2.size
    obtain ⟨q1, q2, q3, q4⟩ := create_armed D ⟨#[120]⟩
    have HCR := Lib.hid (create_any (.pointer (some ⟨bx, 0, none⟩)) ⟨#[120]⟩ { D with plan := 1 } S w2 hd2 (by show (0 : Int) ≤ 1 ∧ (1 : Int) ≤ 9223372036854775807; omega))
    generalize createD { D with plan := 1 } ⟨#[120]⟩ = r at *
    obtain ⟨D3, c3⟩ := r
    simp only at q1 q2 q3 q4
    clear hd2 hc2 HAR HDA
    go_wp2_with fail
    refine HCR.out.mono ?_
    rintro e w3 ⟨rfl, hd3, hc3⟩
    have HB3 : Hid (Below w.heap.size w w3) := HB2.out.trans (hc3.toBelow HB2.out.size (fun k hk h => by have := (HSA.out k h).1; omega))
    have HD3 := Lib.hid (DRep.tight hd3)
    have HS3 : Hid (∀ k, ((S k ∨ w2.heap.size ≤ k) ∧ k < w3.heap.size) → w.heap.size ≤ k ∧ k < w3.heap.size) := fun k hk => ⟨by
      rcases hk.1 with h | h
      · exact (HSA.out k h).1
      · have := HB2.out.size; omega, hk.2⟩
    have hf3 : findS D3 = FR.bad 10 := by unfold findS; rw [q1]; rfl
    have ho3 : openS doP D3 = (D3, 10) := by unfold openS openG; rw [hf3]; rfl
    have hbn3 : Bnd D3 1500 30 := ⟨by rw [q2]; exact HBN.out.sum, by rw [q2]; exact HBN.out.len, by rw [q2]; exact HBN.out.nm, by rw [q2]; exact HBN.out.nd, by omega⟩
    have HBN3 := Lib.hid hbn3
    have HF3 := Lib.hid hf3
    have HO3 := Lib.hid ho3
    clear hd3 hc3 HCR q1 q2 q3 q4 hf3 ho3 hbn3 HBN
    go_wp2_with fail
    refine (look_nil w3).mono ?_
    rintro e w4 ⟨rfl, hw4⟩
    obtain rfl := hw4.symm
    go_wp2_with fail
    refine (open_nil 100 w3).mono ?_
    rintro e w5 ⟨rfl, hb5⟩
    have HB5 := Lib.hid (HB3.out.trans (hb5.mono HB3.out.size))
    have HD5 := Lib.hid (HD3.out.frame (fun k hk _ => hb5.block k hk.2))
    have hz5 := hb5.size
    have HLK := look_any (.pointer (some ⟨bx, 0, none⟩)) D3 _ w5 HD5.out (tab_below HT.out HB5.out) (by have := HBN3.out.len; omega) (by have := HBN3.out.sum; omega) (fun f hf => by have := HBN3.out.nm f hf; unfold maxLen; omega)
    rw [HF3.out] at HLK
    clear hb5
    go_wp2_with fail
    refine HLK.mono ?_
    rintro e w6 ⟨hb6, ⟨-, rfl⟩ | ⟨h0, -⟩⟩
    rotate_left
    · exact absurd h0 (by decide)
    have HB6 := Lib.hid (HB5.out.trans (hb6.mono HB5.out.size))
    have HD6 := Lib.hid (HD5.out.frame (fun k hk _ => hb6.block k (by have := hk.2; omega)))
    have hz6 := hb6.size
    have hop := scopen_any (.pointer (some ⟨bx, 0, none⟩)) D3 _ 100 w6 HD6.out (fun k hk => by have := hk.2; omega) (fun w' hc => tab_below HT.out (HB6.out.trans (hc.toBelow HB6.out.size (fun k hk h => by have := (HS3.out k h).1; omega)))) HBN3.out (by omega) (by omega)
    rw [HF3.out, HO3.out] at hop
    have HOP := Lib.hid hop
    clear hb6 hop HLK
    go_wp2_with fail
    refine HOP.out.mono ?_
    rintro e w7 ⟨SS, ⟨hd7, hss, hc7⟩, ⟨-, rfl⟩ | ⟨h0, -⟩⟩
    rotate_left
    · exact absurd (show (10 : Int) = 0 from h0) (by decide)
    have HB7 : Hid (Below w.heap.size w w7) := HB6.out.trans (hc7.toBelow HB6.out.size (fun k hk h => by have := (HS3.out k h).1; omega))
    have HD7 := Lib.hid hd7
    have HSS := Lib.hid hss
    clear hd7 hss hc7 HOP
    go_wp2_with fail
    refine (scalive_any w7 (tab_below HT.out HB7.out)).mono ?_
    rintro e w8 ⟨rfl, hb8⟩
    have HB8 := Lib.hid (HB7.out.trans (hb8.mono HB7.out.size))
    have HD8 := Lib.hid (HD7.out.frame (fun k hk hl => hb8.block k hl))
    clear hb8
    go_wp2_with fail
    refine (torn_nil w8).mono ?_
    rintro e w9 ⟨rfl, hw9⟩
    obtain rfl := hw9.symm
    have HTR := torn_any (.pointer (some ⟨bx, 0, none⟩)) D3 _ w8 HD8.out (tab_below HT.out HB8.out) (by have := HBN3.out.len; omega) (by have := HBN3.out.sum; omega) (fun f hf => by have := HBN3.out.nm f hf; unfold maxLen; omega)
    rw [HF3.out, if_neg (by decide)] at HTR
    go_wp2_with fail
    refine HTR.mono ?_
    rintro e w10 ⟨rfl, hb10⟩
    have HB10 := Lib.hid (HB8.out.trans (hb10.mono HB8.out.size))
    clear hb10
    go_wp2
    go_ret
    exact ⟨rfl, HB10.out⟩
end Go.Proofs.YtgdmdbdljmlkkaaGreatDoor
