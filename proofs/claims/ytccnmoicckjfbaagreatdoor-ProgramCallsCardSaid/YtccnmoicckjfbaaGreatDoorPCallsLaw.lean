/- The law ProgramCalls returns true. -/
import Derived.Test.YtccnmoicckjfbaaGreatDoorPEqual
import Derived.Test.YtccnmoicckjfbaaGreatDoorPFew
import Derived.Test.YtccnmoicckjfbaaGreatDoorPRCalls
namespace Go.Proofs.YtccnmoicckjfbaaGreatDoor
set_option linter.unusedVariables false
set_option linter.unusedSimpArgs false
open Go.RowKit

theorem allS_same {P Q : List RT} (h : P.map RT.l = Q.map RT.l) : allS P = allS Q := by
  unfold allS
  rw [List.flatMap_def, List.flatMap_def, h]

theorem namesL_len (k : Int) (L : List ST) : (namesL k L).length ≤ L.length := by
  rw [namesL_eq]
  have h1 := addN_len (selS k L) []
  have h2 := selS_len k L
  simp only [List.length_nil] at h1
  omega

set_option maxRecDepth 100000 in
set_option maxHeartbeats 4000000 in
theorem calls_law (a : Option Addr) (c : Nat) (P : List RT) (w : World) (h : PrgU w (.slice a P.length c) P) (hw : Words w) :
    Calls Tryz.prog 3 #[.slice a P.length c] w fun e w' => e = .returned (.bool true) ∧ Below w.heap.size w w' := by
  have H := Lib.hid h
  have HW := Lib.hid hw
  clear h hw
  go_enter Tryz.func3, Tryz.ntmps3
  go_wp2_with fail
  refine (rfew_any _ _ _ _ H.out).mono ?_
  rintro e w1 ⟨⟨b, rfl, hfew⟩, hw1⟩
  obtain rfl := hw1.symm
  clear hw1
  cases b with
  | false =>
    clear hfew
    go_wp2_with fail
    refine (alive_any _ HW.out).mono ?_
    rintro e w3 ⟨rfl, hb⟩
    have HB := Lib.hid hb
    clear hb
    go_wp2
    go_ret
    exact ⟨rfl, HB.out⟩
  | true =>
    have hs := few_all H.out (hfew rfl)
    clear hfew
    go_wp2_with fail
    refine (given_any _ _ P _ H.out).mono ?_
    rintro e w2 ⟨P2, a3, c3, rfl, hp2, he2, hb2⟩
    have hall := allS_same he2
    have HP2 := Lib.hid hp2
    have HB2 := Lib.hid hb2
    clear hp2 he2 hb2
    go_wp2_with fail
    refine (calls_any a3 c3 P2 w2 HP2.out (by rw [hall]; exact hs)).mono ?_
    rintro e w3 ⟨v1, v2, rfl, hr1, hr2, hb3⟩
    rw [hall] at hr1 hr2
    have HR1 := Lib.hid hr1
    have HR2 := Lib.hid hr2
    have HB3 := Lib.hid (HB2.out.trans (hb3.mono HB2.out.size))
    clear hr1 hr2 hb3 hall HP2
    have hn3 := namesL_len 3 (allS P)
    have hn5 := namesL_len 5 (allS P)
    go_wp2_with fail
    refine (alive_any _ (HW.out.later HB3.out)).mono ?_
    rintro e w4 ⟨rfl, hb4⟩
    have HR14 := Lib.hid (HR1.out.later hb4)
    have HR24 := Lib.hid (HR2.out.later hb4)
    have HB4 := Lib.hid (HB3.out.trans (hb4.mono HB3.out.size))
    clear hb4 HR1 HR2
    go_wp2_with fail
    refine (rcalls_any a c P 3 w4 (H.out.later HB4.out) hs).mono ?_
    rintro e w5 ⟨v3, rfl, hr3, hb5⟩
    have HR3 := Lib.hid hr3
    have HR15 := Lib.hid (HR14.out.later hb5)
    have HR25 := Lib.hid (HR24.out.later hb5)
    have HB5 := Lib.hid (HB4.out.trans (hb5.mono HB4.out.size))
    clear hr3 hb5 HR14 HR24
    go_wp2_with fail
    refine (sequalS_any v1 v3 (namesL 3 (allS P)) w5 HR15.out HR3.out (by omega)).mono ?_
    rintro e w6 ⟨rfl, hb6⟩
    have HR26 := Lib.hid (HR25.out.later hb6)
    have HB6 := Lib.hid (HB5.out.trans (hb6.mono HB5.out.size))
    clear hb6 HR25 HR15 HR3
    go_wp2_with fail
    refine (rcalls_any a c P 5 w6 (H.out.later HB6.out) hs).mono ?_
    rintro e w7 ⟨v4, rfl, hr4, hb7⟩
    have HR4 := Lib.hid hr4
    have HR27 := Lib.hid (HR26.out.later hb7)
    have HB7 := Lib.hid (HB6.out.trans (hb7.mono HB6.out.size))
    clear hr4 hb7 HR26
    go_wp2_with fail
    refine (sequalS_any v2 v4 (namesL 5 (allS P)) w7 HR27.out HR4.out (by omega)).mono ?_
    rintro e w8 ⟨rfl, hb8⟩
    have HB8 := Lib.hid (HB7.out.trans (hb8.mono HB7.out.size))
    clear hb8
    go_wp2
    go_ret
    exact ⟨rfl, HB8.out⟩
end Go.Proofs.YtccnmoicckjfbaaGreatDoor
