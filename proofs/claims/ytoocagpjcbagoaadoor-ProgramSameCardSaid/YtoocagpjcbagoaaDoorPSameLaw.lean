/- The law ProgramSame returns true. -/
import Derived.Test.YtoocagpjcbagoaaDoorPTextR
import Derived.Test.YtoocagpjcbagoaaDoorPAlive
namespace Go.Proofs.YtoocagpjcbagoaaDoor
set_option linter.unusedVariables false
set_option linter.unusedSimpArgs false
open Go.RowKit

theorem spost_eq {p q : Prop} {s t : Bool} (h1 : s = true ↔ p) (h2 : t = true ↔ q) (h : p ↔ q) : s = t := by
  rw [Bool.eq_iff_iff, h1, h2, h]

set_option maxRecDepth 100000 in
set_option maxHeartbeats 4000000 in
theorem same_law (a1 a2 : Option Addr) (c1 c2 : Nat) (P Q : List RT) (w : World) (h1 : PrgU w (.slice a1 P.length c1) P) (h2 : PrgU w (.slice a2 Q.length c2) Q) (hw : Words w) (ht : Tab w) :
    Calls Tryd.prog 4 #[.slice a1 P.length c1, .slice a2 Q.length c2] w fun e w' => e = .returned (.bool true) ∧ Below w.heap.size w w' := by
  have H1 := Lib.hid h1
  have H2 := Lib.hid h2
  have HW := Lib.hid hw
  have HT := Lib.hid ht
  clear h1 h2 hw ht
  go_enter Tryd.func4, Tryd.ntmps4
  go_wp2_with fail
  refine (rfew_any _ _ _ _ H1.out).mono ?_
  rintro e w1 ⟨⟨b1, rfl⟩, hw1⟩
  obtain rfl := hw1.symm
  clear hw1
  cases b1 with
  | false =>
    go_wp2_with fail
    refine (alive_any _ HW.out).mono ?_
    rintro e w3 ⟨rfl, hb⟩
    have HB := Lib.hid hb
    clear hb
    go_wp2
    go_ret
    exact ⟨rfl, HB.out⟩
  | true =>
    go_wp2_with fail
    refine (rfew_any _ _ _ _ H2.out).mono ?_
    rintro e w1 ⟨⟨b1, rfl⟩, hw1⟩
    obtain rfl := hw1.symm
    clear hw1
    cases b1 with
    | false =>
      go_wp2_with fail
      refine (alive_any _ HW.out).mono ?_
      rintro e w3 ⟨rfl, hb⟩
      have HB := Lib.hid hb
      clear hb
      go_wp2
      go_ret
      exact ⟨rfl, HB.out⟩
    | true =>
      go_wp2_with fail
      refine (rsame_any _ _ _ _ P Q _ H1.out H2.out).mono ?_
      rintro e w1 ⟨s, rfl, hs, hb1⟩
      have HS := Lib.hid hs
      have HB1 := Lib.hid hb1
      clear hs hb1
      go_wp2_with fail
      refine (given_any _ _ P _ (H1.out.later HB1.out)).mono ?_
      rintro e w2 ⟨P2, a3, c3, rfl, hp2, he2, hb2⟩
      have HP2 := Lib.hid hp2
      have HE2 := Lib.hid he2
      have HB2 := Lib.hid (HB1.out.trans (hb2.mono HB1.out.size))
      clear hp2 he2 hb2
      go_wp2_with fail
      refine (given_any _ _ Q _ (H2.out.later HB2.out)).mono ?_
      rintro e w3 ⟨Q2, a4, c4, rfl, hq2, hf2, hb3⟩
      have HQ2 := Lib.hid hq2
      have HF2 := Lib.hid hf2
      have HP3 := Lib.hid (HP2.out.later hb3)
      have HB3 := Lib.hid (HB2.out.trans (hb3.mono HB2.out.size))
      clear hq2 hf2 hb3 HP2
      go_wp2_with fail
      refine (psame_any _ _ _ _ P2 Q2 _ HP3.out HQ2.out).mono ?_
      rintro e w4 ⟨s2, rfl, hs2, hb4⟩
      have HP4 := Lib.hid (HP3.out.later hb4)
      have HQ4 := Lib.hid (HQ2.out.later hb4)
      have HB4 := Lib.hid (HB3.out.trans (hb4.mono HB3.out.size))
      obtain rfl : s2 = s := spost_eq hs2 HS.out (by rw [HE2.out, HF2.out])
      clear hs2 hb4 HP3 HQ2
      go_wp2_with fail
      refine (psame_any _ _ _ _ P2 P2 _ HP4.out HP4.out).mono ?_
      rintro e w5 ⟨s3, rfl, hs3, hb5⟩
      obtain rfl : s3 = true := hs3.2 rfl
      have HP5 := Lib.hid (HP4.out.later hb5)
      have HQ5 := Lib.hid (HQ4.out.later hb5)
      have HB5 := Lib.hid (HB4.out.trans (hb5.mono HB4.out.size))
      clear hs3 hb5 HP4 HQ4
      go_wp2_with fail
      refine (alive_any _ (HW.out.later HB5.out)).mono ?_
      rintro e w6 ⟨rfl, hb6⟩
      have HP6 := Lib.hid (HP5.out.later hb6)
      have HQ6 := Lib.hid (HQ5.out.later hb6)
      have HB6 := Lib.hid (HB5.out.trans (hb6.mono HB5.out.size))
      clear hb6 HP5 HQ5
      go_wp2_with fail
      refine (rright_any _ _ P _ (H1.out.later HB6.out)).mono ?_
      rintro e w7 ⟨r1, rfl, hr1, hb7⟩
      have HP7 := Lib.hid (HP6.out.later hb7)
      have HQ7 := Lib.hid (HQ6.out.later hb7)
      have HB7 := Lib.hid (HB6.out.trans (hb7.mono HB6.out.size))
      clear hb7 HP6 HQ6
      cases r1 with
      | false =>
        clear hr1
        go_wp2
        go_ret
        exact ⟨rfl, HB7.out⟩
      | true =>
        have HR1 := Lib.hid (hr1.1 rfl)
        clear hr1
        go_wp2_with fail
        refine (rright_any _ _ Q _ (H2.out.later HB7.out)).mono ?_
        rintro e w8 ⟨r2, rfl, hr2, hb8⟩
        have HP8 := Lib.hid (HP7.out.later hb8)
        have HQ8 := Lib.hid (HQ7.out.later hb8)
        have HB8 := Lib.hid (HB7.out.trans (hb8.mono HB7.out.size))
        clear hb8 HP7 HQ7
        cases r2 with
        | false =>
          clear hr2
          go_wp2
          go_ret
          exact ⟨rfl, HB8.out⟩
        | true =>
          have HR2 := Lib.hid (hr2.1 rfl)
          clear hr2
          go_wp2_with fail
          refine (ptext_right _ _ P2 _ HP8.out (HR1.out.of_map HE2.out) (HW.out.later HB8.out) (tab_below HT.out HB8.out)).mono ?_
          rintro e w9 ⟨rfl, hb9⟩
          have HQ9 := Lib.hid (HQ8.out.later hb9)
          have HB9 := Lib.hid (HB8.out.trans (hb9.mono HB8.out.size))
          clear hb9 HP8 HQ8
          go_wp2_with fail
          refine (ptext_right _ _ Q2 _ HQ9.out (HR2.out.of_map HF2.out) (HW.out.later HB9.out) (tab_below HT.out HB9.out)).mono ?_
          rintro e w10 ⟨rfl, hb10⟩
          have HB10 := Lib.hid (HB9.out.trans (hb10.mono HB9.out.size))
          have HI : Hid (lpB P2 = lpB Q2 ↔ s2 = true) := (lpB_inj (HR1.out.of_map HE2.out) (HR2.out.of_map HF2.out)).trans (by rw [HE2.out, HF2.out]; exact HS.out.symm)
          clear hb10 HQ9
          generalize lpB P2 = ta at *
          generalize lpB Q2 = tb at *
          cases s2 with
          | true =>
            obtain rfl := HI.out.2 rfl
            go_wp2
            go_ret
            exact ⟨rfl, HB10.out⟩
          | false =>
            have hs1 := (str_ne (a := ta) (b := tb) (fun e => by have := HI.out.1 e; cases this)).1
            have hs2 := (str_ne (a := ta) (b := tb) (fun e => by have := HI.out.1 e; cases this)).2
            go_wp2
            go_ret
            exact ⟨rfl, HB10.out⟩
end Go.Proofs.YtoocagpjcbagoaaDoor
