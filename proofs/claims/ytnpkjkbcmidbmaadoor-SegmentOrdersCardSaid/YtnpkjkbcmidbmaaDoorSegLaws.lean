/- The walks of the laws on the names of segments: each returns true, and lays new blocks alone. -/
import Derived.Test.YtnpkjkbcmidbmaaDoorChecked
import Derived.Test.YtnpkjkbcmidbmaaDoorSegRefNumber
namespace Go.Proofs.YtnpkjkbcmidbmaaDoor
open Go.RowKit Go.Lib

set_option maxRecDepth 100000 in
set_option maxHeartbeats 1000000 in
theorem alive_any (w : World) (htab : Tab w) :
    Calls Tryd.prog 8 #[] w fun e w' => e = .returned (.bool true) ∧ Below w.heap.size w w' := by
  have hN := Lib.hid (name_yes 7 w (by decide) (by decide) htab)
  have hq : (nameL 7 == [108, 111, 103, 45, 48, 48, 48, 48, 48, 48, 48, 55]) = true := by decide
  go_enter Tryd.func8, Tryd.ntmps8
  go_wp2_with fail
  refine hN.out.mono ?_
  rintro e w1 ⟨rfl, hb⟩
  go_wp2
  go_ret
  exact ⟨rfl, hb⟩

theorem numOut_name (n : Nat) (h1 : 1 ≤ n) (h2 : n ≤ 99999999) : numOut (nameL n) = .tuple #[.int .i64 n, .bool true] := by
  unfold numOut; rw [numV_name n h2]; simp; omega

theorem numOut_nil : numOut [] = .tuple #[.int .i64 0, .bool false] := rfl

set_option maxRecDepth 100000 in
set_option maxHeartbeats 1000000 in
theorem names_any (n : Int) (w : World) (htab : Tab w) :
    Calls Tryd.prog 4 #[.int .i64 n] w fun e w' => e = .returned (.bool true) ∧ Below w.heap.size w w' := by
  by_cases h : n < 1 ∨ 99999999 < n
  · have Hn := Lib.hid h
    clear h
    go_enter Tryd.func4, Tryd.ntmps4
    go_wp2_with fail
    refine (name_no n w Hn.out).mono ?_
    rintro e w1 ⟨rfl, rfl⟩
    go_wp2_with fail
    refine (refName_no n w Hn.out).mono ?_
    rintro e w1 ⟨rfl, rfl⟩
    go_wp2_with fail
    refine (number_any ⟨#[]⟩ w).mono ?_
    rintro e w1 ⟨rfl, hb1⟩
    rw [show numOut (⟨#[]⟩ : ByteArray).data.toList = .tuple #[.int .i64 0, .bool false] from rfl]
    go_wp2_with fail
    refine (alive_any w1 (tab_below htab hb1)).mono ?_
    rintro e w2 ⟨rfl, hb2⟩
    have hb := hb1.trans (hb2.mono hb1.size)
    go_wp2
    go_ret
    exact ⟨rfl, hb⟩
  · obtain ⟨m, rfl⟩ : ∃ m : Nat, n = m := ⟨n.toNat, by omega⟩
    have h1 : 1 ≤ m := by omega
    have h2 : m ≤ 99999999 := by omega
    clear h
    go_enter Tryd.func4, Tryd.ntmps4
    go_wp2_with fail
    refine (name_yes m w h1 h2 htab).mono ?_
    rintro e w1 ⟨rfl, hb1⟩
    go_wp2_with fail
    refine (refName_yes m w1 h1 h2).mono ?_
    rintro e w2 ⟨rfl, rfl⟩
    go_wp2_with fail
    refine (number_any ⟨(nameL m).toArray⟩ w1).mono ?_
    rintro e w2 ⟨rfl, hb2⟩
    have hb := hb1.trans (hb2.mono hb1.size)
    rw [show numOut (⟨(nameL m).toArray⟩ : ByteArray).data.toList = .tuple #[.int .i64 m, .bool true] from numOut_name m h1 h2]
    go_wp2_with fail
    refine (alive_any w2 (tab_below htab hb)).mono ?_
    rintro e w3 ⟨rfl, hb3⟩
    have hb' := hb.trans (hb3.mono hb.size)
    go_wp2
    go_ret
    exact ⟨rfl, hb'⟩

set_option maxRecDepth 100000 in
set_option maxHeartbeats 1000000 in
theorem numbers_any (s : ByteArray) (w : World) (htab : Tab w) (hs : s.size ≤ 9223372036854775807) :
    Calls Tryd.prog 5 #[.string s] w fun e w' => e = .returned (.bool true) ∧ Below w.heap.size w w' := by
  by_cases h200 : 200 < s.size
  · go_enter Tryd.func5, Tryd.ntmps5
    go_wp2_with fail
    refine (alive_any w htab).mono ?_
    rintro e w1 ⟨rfl, hb⟩
    go_wp2
    go_ret
    exact ⟨rfl, hb⟩
  · have h200' : decide ((200 : Int) < (s.size : Int)) = false := by simp; omega
    have hle := numV_le s.data.toList
    have HN := Lib.hid (name_numV s.data.toList)
    have hna := number_any s
    have hra := refNumber_any s
    unfold numOut at hna hra
    generalize numV s.data.toList = v at *
    have HNA := Lib.hid hna
    have HRA := Lib.hid hra
    clear hna hra
    by_cases h0 : v = 0
    · subst h0
      rw [show decide (0 < 0) = false from rfl] at HNA HRA
      go_enter Tryd.func5, Tryd.ntmps5
      go_wp2_with fail
      refine (HNA.out w).mono ?_
      rintro e w1 ⟨rfl, hb1⟩
      go_wp2_with fail
      refine (HRA.out w1).mono ?_
      rintro e w2 ⟨rfl, rfl⟩
      go_wp2_with fail
      refine (name_no ((0 : Nat) : Int) w1 (by left; decide)).mono ?_
      rintro e w2 ⟨rfl, rfl⟩
      go_wp2_with fail
      refine (alive_any w1 (tab_below htab hb1)).mono ?_
      rintro e w2 ⟨rfl, hb2⟩
      have hb := hb1.trans (hb2.mono hb1.size)
      go_wp2
      go_ret
      exact ⟨rfl, hb⟩
    · have hpos : 0 < v := by omega
      have hd : decide (0 < v) = true := by simp [hpos]
      rw [hd] at HNA HRA
      have hq : (nameL v == s.toList) = true := by rw [Lib.toList_data, HN.out hpos]; simp
      clear hd h0
      go_enter Tryd.func5, Tryd.ntmps5
      go_wp2_with fail
      refine (HNA.out w).mono ?_
      rintro e w1 ⟨rfl, hb1⟩
      go_wp2_with fail
      refine (HRA.out w1).mono ?_
      rintro e w2 ⟨rfl, rfl⟩
      go_wp2_with fail
      refine (name_yes v w1 hpos hle (tab_below htab hb1)).mono ?_
      rintro e w2 ⟨rfl, hb2⟩
      have hb := hb1.trans (hb2.mono hb1.size)
      go_wp2_with fail
      refine (alive_any w2 (tab_below htab hb)).mono ?_
      rintro e w3 ⟨rfl, hb3⟩
      have hb' := hb.trans (hb3.mono hb.size)
      go_wp2
      go_ret
      exact ⟨rfl, hb'⟩

set_option maxRecDepth 100000 in
set_option maxHeartbeats 1000000 in
theorem orders_any (a b : Nat) (w : World) (htab : Tab w) (ha : a < 4294967296) (hb : b < 4294967296) :
    Calls Tryd.prog 3 #[.int .u32 a, .int .u32 b] w fun e w' => e = .returned (.bool true) ∧ Below w.heap.size w w' := by
  obtain ⟨m, hm, hm2⟩ : ∃ m : Nat, m < 99999999 ∧ ((a : Int) % 99999999) = (m : Int) := ⟨a % 99999999, by omega, by omega⟩
  obtain ⟨n, hn, hn2⟩ : ∃ n : Nat, n < 99999999 ∧ ((b : Int) % 99999999) = (n : Int) := ⟨b % 99999999, by omega, by omega⟩
  have HL := Lib.hid (less_name (1 + m) (1 + n) (by omega) (by omega))
  have HE := Lib.hid (eq_name (1 + m) (1 + n) (by omega) (by omega))
  go_enter Tryd.func3, Tryd.ntmps3
  go_wp2_with fail
  rw [show (1 + (m : Int)) = ((1 + m : Nat) : Int) by omega, show (1 + (n : Int)) = ((1 + n : Nat) : Int) by omega]
  generalize h1m : 1 + m = p at *
  generalize h1n : 1 + n = q at *
  have hp1 : 1 ≤ p := by omega
  have hp2 : p ≤ 99999999 := by omega
  have hq1 : 1 ≤ q := by omega
  have hq2 : q ≤ 99999999 := by omega
  clear h1m h1n hm2 hn2
  refine (name_yes p w hp1 hp2 htab).mono ?_
  rintro e w1 ⟨rfl, hb1⟩
  go_wp2_with fail
  refine (name_yes q w1 hq1 hq2 (tab_below htab hb1)).mono ?_
  rintro e w2 ⟨rfl, hb2⟩
  have hb := hb1.trans (hb2.mono hb1.size)
  go_wp2_with fail
  refine (alive_any w2 (tab_below htab hb)).mono ?_
  rintro e w3 ⟨rfl, hb3⟩
  have hb' := hb.trans (hb3.mono hb.size)
  have hl := HL.out
  have he := HE.out
  generalize nameL p = x at *
  generalize nameL q = y at *
  rcases Nat.lt_trichotomy p q with h | h | h
  · rw [decide_eq_true h] at hl
    rw [decide_eq_false (by omega)] at he
    have hpq : ((p : Int) == (q : Int)) = false := by rw [beq_eq_false_iff_ne]; omega
    go_wp2
    go_ret
    exact ⟨rfl, hb'⟩
  · subst h
    rw [decide_eq_false (by omega)] at hl
    rw [decide_eq_true rfl] at he
    go_wp2
    go_ret
    exact ⟨rfl, hb'⟩
  · rw [decide_eq_false (by omega)] at hl
    rw [decide_eq_false (by omega)] at he
    have hpq : ((p : Int) == (q : Int)) = false := by rw [beq_eq_false_iff_ne]; omega
    have hpq' : ¬ p < q := by omega
    go_wp2
    go_ret
    exact ⟨rfl, hb'⟩
end Go.Proofs.YtnpkjkbcmidbmaaDoor
