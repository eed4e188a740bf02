/- Texts for scanBegins_holds, joined: SegNumber, SegRefNumber, SegListRef, SegList, Recs. -/
import Derived.Test.YtgdmdbdljmlkkaaGreatDoorChecked
import Derived.Test.YtgdmdbdljmlkkaaGreatDoorBg04
import Derived.Test.YtgdmdbdljmlkkaaGreatDoorBg17
import Derived.Test.YtgdmdbdljmlkkaaGreatDoorBg01
import Derived.Sort.OwnSortedInts
import Derived.Test.YtgdmdbdljmlkkaaGreatDoorBg20
import Derived.Test.YtgdmdbdljmlkkaaGreatDoorBg21
import Derived.Test.YtgdmdbdljmlkkaaGreatDoorBg18
import Derived.Test.YtgdmdbdljmlkkaaGreatDoorBg11
namespace Go.Proofs.YtgdmdbdljmlkkaaGreatDoor
set_option linter.unusedVariables false
set_option linter.unusedSimpArgs false
open Go.RowKit Go.Lib
def numOut (l : List UInt8) : Value := .tuple #[.int .i64 (numV l), .bool (decide (0 < numV l))]
theorem bad_out (l : List UInt8) (h : goodB l = false) : numOut l = .tuple #[.int .i64 0, .bool false] := by
  simp [numOut, numV, h]
theorem trim_good (l : List UInt8) : goodB l = (hasPrefix l pre4 && (trimPrefix l pre4).length == 8 && (trimPrefix l pre4).all isD) := by
  unfold trimPrefix
  cases hp : hasPrefix l pre4 with
  | false =>
    cases hg : goodB l with
    | false => rfl
    | true =>
      exfalso
      obtain ⟨_, h2, _⟩ := (goodB_iff l).1 hg
      unfold hasPrefix at hp
      have : pre4.isPrefixOf l = true := by
        rw [List.isPrefixOf_iff_prefix, List.prefix_iff_eq_take]
        exact h2.symm
      rw [this] at hp; cases hp
  | true =>
    have hpre : l.take 4 = pre4 := by
      unfold hasPrefix at hp
      rw [List.isPrefixOf_iff_prefix, List.prefix_iff_eq_take] at hp
      exact hp.symm
    have hlen : 4 ≤ l.length := by
      have := congrArg List.length hpre
      simp [pre4] at this
      omega
    simp only [goodB, hpre, BEq.rfl, Bool.and_true, Bool.true_and, if_true]
    have : (l.length == 12) = ((l.drop pre4.length).length == 8) := by
      rw [Bool.eq_iff_iff]; simp [pre4]; omega
    rw [this]; rfl
theorem numV_good (l : List UInt8) (h : goodB l = true) : numV l = val (trimPrefix l pre4) := by
  have h' := h
  rw [trim_good] at h'
  simp only [Bool.and_eq_true] at h'
  unfold numV trimPrefix
  rw [if_pos h, if_pos h'.1.1]; rfl
theorem good_out (l : List UInt8) (h : goodB l = true) : numOut l = .tuple #[.int .i64 (val (trimPrefix l pre4)), .bool (decide (0 < val (trimPrefix l pre4)))] := by
  unfold numOut; rw [numV_good l h]
theorem all_false {d : List UInt8} {k : Nat} {c : UInt8} (h : d.take (k + 1) = d.take k ++ [c]) (hc : isD c = false) : d.all isD = false := by
  cases hd : d.all isD with
  | false => rfl
  | true =>
    have hm : c ∈ d := List.mem_of_mem_take (i := k + 1) (by rw [h]; simp)
    rw [List.all_eq_true.1 hd c hm] at hc
    cases hc
set_option maxRecDepth 100000 in
set_option maxHeartbeats 1000000 in
theorem number_any (s : ByteArray) (w : World) :
    Calls Tryz.prog 113 #[.string s] w fun e w' => e = .returned (numOut s.data.toList) ∧ Below w.heap.size w w' := by
  have hc := Tryz.strings_CutPrefix s ⟨#[108, 111, 103, 45]⟩ w
  have HG := Lib.hid (trim_good s.data.toList)
  have HV := Lib.hid (good_out s.data.toList)
  have HB := Lib.hid (bad_out s.data.toList)
  generalize numOut s.data.toList = out at *
  have e4 : (⟨#[108, 111, 103, 45]⟩ : ByteArray).data.toList = pre4 := rfl
  rw [e4] at hc
  clear e4
  generalize goodB s.data.toList = good at *
  generalize hasPrefix s.data.toList pre4 = hp at *
  generalize trimPrefix s.data.toList pre4 = d at *
  have HC := Lib.hid hc
  clear hc
  obtain ⟨D, hD⟩ : ∃ D : ByteArray, D = ⟨d.toArray⟩ := ⟨_, rfl⟩
  have hsz : Hid (D.size = d.length) := by rw [Hid, hD]; rfl
  rw [← hD] at HC
  have HD := Lib.hid hD
  clear hD
  cases hp with
  | false =>
    have hgood := HG.out
    simp only [Bool.false_and] at hgood
    have H := Lib.hid (HB.out hgood)
    clear hgood
    go_enter Tryz.func113, Tryz.ntmps113
    go_wp2_with fail
    refine HC.out.mono ?_
    rintro e w1 ⟨rfl, rfl⟩
    go_wp2
    go_ret2
    exact ⟨congrArg Ending.returned H.out.symm, Below.refl _ _⟩
  | true =>
    by_cases h8 : D.size = 8
    · rw [Hid] at hsz
      have hd8 : d.length = 8 := by rw [← hsz]; exact h8
      have hgood := HG.out
      rw [hd8] at hgood
      simp only [BEq.rfl, Bool.true_and, Bool.and_true] at hgood
      have h8' : ((D.size : Int) != 8) = false := by rw [bne_eq_false_iff_eq]; omega
      have HG2 := Lib.hid hgood
      have H8 := Lib.hid h8
      have HD8 := Lib.hid hd8
      have hle : D.size ≤ 8 := by omega
      have hge : 8 ≤ D.size := by omega
      clear hgood h8 hsz hd8 HG
      go_enter Tryz.func113, Tryz.ntmps113
      go_wp2_with fail
      refine HC.out.mono ?_
      rintro e w1 ⟨rfl, rfl⟩
      go_wp2
      go_loopw [6] (fun n w' => ∃ k v : Nat, k ≤ 8 ∧ w' = w1.iter D k ∧ v < 10 ^ 8 ∧ n = .int .i64 (v : Int) ∧ Hid (v = val (d.take k) ∧ (d.take k).all isD = true)) (fun _ w' => 8 - w'.iterPos w1.heap.size)
      case atStart => exact ⟨0, 0, by omega, rfl, by omega, rfl, rfl, rfl⟩
      case round =>
        obtain ⟨k, v, hk, rfl, hv, rfl, Hv⟩ := hrel
        by_cases hlt : k < 8
        · have hpos : k < D.size := by omega
          obtain ⟨c, hc⟩ : ∃ c : UInt8, c = D[k] := ⟨_, rfl⟩
          have Hstep : Hid (d.take (k + 1) = d.take k ++ [c]) := by
            rw [Hid, List.take_succ_eq_append_getElem (by rw [HD8.out]; exact hlt), hc]
            simp only [HD.out]; rfl
          by_cases ha : c.toNat < 128
          · have hnx : ∀ ty, (Instr.next (.pointer (some ⟨w1.heap.size, 0, none⟩)) true ty).run Tryz.prog (w1.iter D k) = .ok (.tuple #[.bool true, .int .i64 k, .int .i32 c.toNat]) (w1.iter D (k + 1)) := fun ty => by
              rw [hc]; exact run_next_ascii w1 D k ty hpos (by rw [← hc]; exact ha)
            clear hc
            by_cases h48 : c.toNat < 48
            · have hcd : isD c = false := by simp [isD]; omega
              have H := Lib.hid (HB.out (HG2.out.trans (all_false Hstep.out hcd)))
              clear hcd
              go_wp2
              go_ret2
              exact ⟨congrArg Ending.returned H.out.symm, (Below.refl _ _).alloc (Nat.le_refl _) _⟩
            · by_cases h57 : 57 < c.toNat
              · have hcd : isD c = false := by simp [isD]; omega
                have H := Lib.hid (HB.out (HG2.out.trans (all_false Hstep.out hcd)))
                clear hcd
                go_wp2
                go_ret2
                exact ⟨congrArg Ending.returned H.out.symm, (Below.refl _ _).alloc (Nat.le_refl _) _⟩
              · have hcd : isD c = true := by simp [isD]; omega
                have hall : (d.take (k + 1)).all isD = true := by rw [Hstep.out, List.all_append, Hv.out.2]; simp [hcd]
                have hval : val (d.take (k + 1)) = 10 * v + (c.toNat - 48) := by rw [Hstep.out, val_snoc, ← Hv.out.1]
                have hbd := val_bound (k + 1) (d.take (k + 1)) (by rw [List.length_take, HD8.out]; omega) hall
                have hpow : 10 ^ (k + 1) ≤ 10 ^ 8 := Nat.pow_le_pow_right (by decide) (by omega)
                have hnew : 10 * v + (c.toNat - 48) < 10 ^ 8 := by rw [← hval]; omega
                have HN := Lib.hid (And.intro hval.symm hall)
                clear hcd hall hval hbd hpow
                go_wp2
                go_roundw
                case rel => exact ⟨k + 1, 10 * v + (c.toNat - 48), by omega, rfl, hnew, by go_num, HN.out⟩
                case measure => simp; omega
          · have hhi := decode_high D k hpos (by rw [← hc]; omega)
            have hrl := decode_le D k
            have hnx : ∀ ty, (Instr.next (.pointer (some ⟨w1.heap.size, 0, none⟩)) true ty).run Tryz.prog (w1.iter D k) = _ := fun ty => run_next_any w1 D k ty hpos
            generalize (Utf8.decode D k).1 = r at *
            generalize k + (Utf8.decode D k).2 = k' at *
            have hr57 : 57 < r := by omega
            clear hc
            have hcd : isD c = false := by simp [isD]; omega
            have H := Lib.hid (HB.out (HG2.out.trans (all_false Hstep.out hcd)))
            clear hcd
            go_wp2
            go_ret2
            exact ⟨congrArg Ending.returned H.out.symm, (Below.refl _ _).alloc (Nat.le_refl _) _⟩
        · obtain rfl : k = 8 := by omega
          have ht : d.take 8 = d := List.take_of_length_le (by rw [HD8.out]; omega)
          have H := HV.out (HG2.out.trans (by rw [← ht]; exact Hv.out.2))
          rw [show val d = v by rw [Hv.out.1, ht]] at H
          have H' := Lib.hid H
          clear H ht
          have hnx : ∀ ty, (Instr.next (.pointer (some ⟨w1.heap.size, 0, none⟩)) true ty).run Tryz.prog (w1.iter D 8) = _ := fun ty => run_next_end w1 D 8 ty (by omega)
          go_wp2
          go_ret2
          exact ⟨congrArg Ending.returned H'.out.symm, (Below.refl _ _).alloc (Nat.le_refl _) _⟩
    · have hgood := HG.out
      rw [← hsz.out] at hgood
      rw [beq_eq_false_iff_ne.2 h8] at hgood
      simp only [Bool.and_false, Bool.false_and] at hgood
      have H := Lib.hid (HB.out hgood)
      have h8' : ((D.size : Int) != 8) = true := by rw [bne_iff_ne]; omega
      clear hgood h8
      go_enter Tryz.func113, Tryz.ntmps113
      go_wp2_with fail
      refine HC.out.mono ?_
      rintro e w1 ⟨rfl, rfl⟩
      go_wp2
      go_ret2
      exact ⟨congrArg Ending.returned H.out.symm, Below.refl _ _⟩
end Go.Proofs.YtgdmdbdljmlkkaaGreatDoor
namespace Go.Proofs.YtgdmdbdljmlkkaaGreatDoor
set_option linter.unusedVariables false
set_option linter.unusedSimpArgs false
open Go.RowKit Go.Lib
theorem long_bad (l : List UInt8) (h : l.length ≠ 12) : goodB l = false := by
  simp [goodB, h]
theorem digit_bad (l : List UInt8) (k : Nat) (c : UInt8) (h : (l.drop 4).take (k + 1) = (l.drop 4).take k ++ [c]) (hc : isD c = false) : goodB l = false := by
  have := all_false h hc
  simp [goodB, this]
/-- Twelve bytes, the last eight digits: good just if the number's name is the text. -/
theorem good_by_name (l : List UInt8) (_h12 : l.length = 12) (_hd : (l.drop 4).all isD = true) (hne : nameL (val (l.drop 4)) ≠ l) : goodB l = false := by
  cases hg : goodB l with
  | false => rfl
  | true => exact absurd (name_of_good l hg) hne
theorem good_of_name (l : List UInt8) (_h12 : l.length = 12) (_hd : (l.drop 4).all isD = true) (he : nameL (val (l.drop 4)) = l) : goodB l = true := by
  rw [← he]; exact good_name _
theorem out_good (l : List UInt8) (h : goodB l = true) (hp : 0 < val (l.drop 4)) : numOut l = .tuple #[.int .i64 (val (l.drop 4)), .bool true] := by
  unfold numOut numV
  rw [if_pos h]
  simp [hp]
theorem out_zero (l : List UInt8) (h : val (l.drop 4) = 0) : numOut l = .tuple #[.int .i64 0, .bool false] := by
  unfold numOut numV
  split <;> simp_all
set_option maxRecDepth 100000 in
set_option maxHeartbeats 1000000 in
theorem refNumber_any (s : ByteArray) (w : World) :
    Calls Tryz.prog 119 #[.string s] w fun e w' => e = .returned (numOut s.data.toList) ∧ w = w' := by
  by_cases h12 : s.size = 12
  · have HL : Hid (s.data.toList.length = 12) := by rw [Hid, ← Lib.size_eq]; exact h12
    have hle : s.size ≤ 12 := by omega
    have hge : 12 ≤ s.size := by omega
    have h12' : ((s.size : Int) != 12) = false := by rw [bne_eq_false_iff_eq]; omega
    obtain ⟨l, hl⟩ : ∃ l, l = s.data.toList := ⟨_, rfl⟩
    rw [← hl] at HL ⊢
    have HD := Lib.hid (digit_bad l)
    have HB := Lib.hid (bad_out l)
    have HN := Lib.hid (good_by_name l HL.out)
    have HM := Lib.hid (good_of_name l HL.out)
    have HO := Lib.hid (out_good l)
    have HZ := Lib.hid (out_zero l)
    generalize goodB l = good at *
    generalize numOut l = out at *
    obtain ⟨d, hd⟩ : ∃ d, d = l.drop 4 := ⟨_, rfl⟩
    rw [← hd] at HD HN HM HO HZ
    have HDL : Hid (d.length = 8) := by rw [Hid, hd, List.length_drop, HL.out]
    have HE := Lib.hid hd
    have HS := Lib.hid hl
    clear hd hl h12
    go_enter Tryz.func119, Tryz.ntmps119
    go_wp2
    go_loop [4, 5] (fun n i => ∃ k v : Nat, k ≤ 8 ∧ i = .int .i64 ((k + 4 : Nat) : Int) ∧ v < 10 ^ 8 ∧ n = .int .i64 (v : Int) ∧ Hid (v = val (d.take k) ∧ (d.take k).all isD = true)) (fun _ i => 12 - (RowKit.intOf i).toNat)
    case atStart => exact ⟨0, 0, by omega, rfl, by omega, rfl, rfl, rfl⟩
    case round =>
      obtain ⟨k, v, hk, rfl, hv, rfl, Hv⟩ := hrel
      by_cases hlt : k < 8
      · obtain ⟨j, hj⟩ : ∃ j, j = k + 4 := ⟨_, rfl⟩
        have hpos : j < s.size := by omega
        obtain ⟨c, hc⟩ : ∃ c : UInt8, c = s[j] := ⟨_, rfl⟩
        have Hstep : Hid (d.take (k + 1) = d.take k ++ [c]) := by
          rw [Hid, List.take_succ_eq_append_getElem (by rw [HDL.out]; exact hlt), hc]
          simp only [HE.out, HS.out, List.getElem_drop, hj, Nat.add_comm k 4]; rfl
        rw [← hj]
        have Hj := Lib.hid hj
        have hc' := hc.symm
        have hj12 : j < 12 := by omega
        clear hj hc
        by_cases h48 : c.toNat < 48
        · have hcd : isD c = false := by simp [isD]; omega
          have H := Lib.hid (HB.out (HD.out _ _ Hstep.out hcd))
          clear hcd
          go_wp2
          go_ret2
          exact ⟨congrArg Ending.returned H.out.symm, rfl⟩
        · by_cases h57 : 57 < c.toNat
          · have hcd : isD c = false := by simp [isD]; omega
            have H := Lib.hid (HB.out (HD.out _ _ Hstep.out hcd))
            clear hcd
            go_wp2
            go_ret2
            exact ⟨congrArg Ending.returned H.out.symm, rfl⟩
          · have hcd : isD c = true := by simp [isD]; omega
            have hall : (d.take (k + 1)).all isD = true := by rw [Hstep.out, List.all_append, Hv.out.2]; simp [hcd]
            have hval : val (d.take (k + 1)) = 10 * v + (c.toNat - 48) := by rw [Hstep.out, val_snoc, ← Hv.out.1]
            have hbd := val_bound (k + 1) (d.take (k + 1)) (by rw [List.length_take, HDL.out]; omega) hall
            have hpow : 10 ^ (k + 1) ≤ 10 ^ 8 := Nat.pow_le_pow_right (by decide) (by omega)
            have hnew : 10 * v + (c.toNat - 48) < 10 ^ 8 := by rw [← hval]; omega
            have HN' := Lib.hid (And.intro hval.symm hall)
            clear hcd hall hval hbd hpow
            go_wp2
            go_round
            case rel => exact ⟨k + 1, 10 * v + (c.toNat - 48), by omega, by rw [Hj.out]; go_num, hnew, by go_num, HN'.out⟩
            case measure => simp [RowKit.intOf]; omega
      · obtain rfl : k = 8 := by omega
        have ht : d.take 8 = d := List.take_of_length_le (by rw [HDL.out]; omega)
        have hv2 := Hv.out
        rw [ht] at hv2
        obtain ⟨hve, hall⟩ := hv2
        rw [← hve] at HN HM HO HZ
        have HALL := Lib.hid hall
        clear hve hall ht Hv
        by_cases hv0 : v = 0
        · have H := Lib.hid (HZ.out hv0)
          subst hv0
          go_wp2_with fail
          refine (refName_no ((0 : Nat) : Int) w (by left; decide)).mono ?_
          rintro e w1 ⟨rfl, rfl⟩
          go_wp2
          go_ret2
          exact ⟨congrArg Ending.returned H.out.symm, rfl⟩
        · go_wp2_with fail
          refine (refName_yes v w (by omega) (by omega)).mono ?_
          rintro e w1 ⟨rfl, rfl⟩
          by_cases hne : nameL v = l
          · have H := Lib.hid (HO.out (HM.out HALL.out hne) (by omega))
            have hq : (!nameL v == s.toList) = false := by rw [Lib.toList_data, ← HS.out, hne]; simp
            clear hne
            go_wp2
            go_ret2
            exact ⟨congrArg Ending.returned H.out.symm, rfl⟩
          · have H := Lib.hid (HB.out (HN.out HALL.out hne))
            have hq : (!nameL v == s.toList) = true := by rw [Lib.toList_data, ← HS.out]; simp [hne]
            clear hne
            go_wp2
            go_ret2
            exact ⟨congrArg Ending.returned H.out.symm, rfl⟩
  · have H := Lib.hid (bad_out _ (long_bad s.data.toList (by rw [← Lib.size_eq]; exact h12)))
    have h12' : ((s.size : Int) != 12) = true := by rw [bne_iff_ne]; omega
    clear h12
    go_enter Tryz.func119, Tryz.ntmps119
    go_wp2
    go_ret2
    exact ⟨congrArg Ending.returned H.out.symm, rfl⟩
end Go.Proofs.YtgdmdbdljmlkkaaGreatDoor
namespace Go.Proofs.YtgdmdbdljmlkkaaGreatDoor
set_option linter.unusedVariables false
set_option linter.unusedSimpArgs false
open Go.RowKit Go.Lib
abbrev ints (l : List Int) : List Value := l.map (Value.int .i64)
theorem ints_one (l : List Int) : ∀ u ∈ ints l, u.oneCell' = true := ints_oneCell _ _
theorem ints_take (l : List Int) (j : Nat) : ints (l.take j) = (ints l).take j := List.map_take
theorem ints_drop (l : List Int) (j : Nat) : ints (l.drop j) = (ints l).drop j := List.map_drop
theorem elemInt : ElemOf Tryz.prog 40 3 (.int .i64 0) 1 8 := ⟨Tryz.underlying40, by kernel_rfl, rfl, by decide⟩
def hasB (l : List Int) (n : Int) : Bool := l.contains n
set_option maxRecDepth 100000 in
set_option maxHeartbeats 1000000 in
theorem has_any (v : Value) (l : List Int) (n : Int) (w : World) (hr : Reads w v l.length 1 (ints l)) (hs : l.length ≤ 9223372036854775807) :
    Calls Tryz.prog 124 #[v, .int .i64 n] w fun e w' => e = .returned (.bool (hasB l n)) ∧ w = w' := by
  have Hr := Lib.hid hr
  obtain ⟨-, ao, c, rfl, -, -, -⟩ := hr
  go_enter Tryz.func124, Tryz.ntmps124
  go_wp2
  go_loop [5] (fun i => ∃ k : Nat, k ≤ l.length ∧ i = .int .i64 k ∧ Hid (hasB l n = (l.drop k).contains n)) (fun i => l.length - (RowKit.intOf i).toNat)
  case atStart => exact ⟨0, by omega, rfl, rfl⟩
  case round =>
    obtain ⟨k, hk, rfl, Hk⟩ := hrel
    by_cases hlt : k < l.length
    · obtain ⟨b, o, c', hv, hnc, _, hc⟩ := Hr.out.at (by omega)
      cases hv
      have hcell : w.cell? ⟨b, o + k, none⟩ = some (.int .i64 (l[k])) := hc k _ (by simp [hlt])
      have hd : l.drop k = l[k] :: l.drop (k + 1) := List.drop_eq_getElem_cons hlt
      have HD := Lib.hid hd
      clear hd hc
      generalize l[k] = x at *
      by_cases hx : x = n
      · subst hx
        have H : Hid (hasB l x = true) := by rw [Hid, Hk.out, HD.out]; simp
        go_wp2
        go_ret
        exact ⟨congrArg (fun b => Ending.returned (.bool b)) H.out.symm, rfl⟩
      · have hne : (x == n) = false := by simpa using hx
        have H : Hid (hasB l n = (l.drop (k + 1)).contains n) := by
          rw [Hid, Hk.out, HD.out, List.contains_cons]
          have : (n == x) = false := by simpa using fun e => hx (Eq.symm e)
          rw [this]; rfl
        go_wp2
        go_round
        case rel => exact ⟨k + 1, by omega, by go_num, H⟩
        case measure => simp [RowKit.intOf]; omega
    · obtain rfl : k = l.length := by omega
      have H : Hid (hasB l n = false) := by rw [Hid, Hk.out]; simp
      go_wp2
      go_ret
      exact ⟨congrArg (fun b => Ending.returned (.bool b)) H.out.symm, rfl⟩
theorem owns_mono {w : World} {base base' : Nat} {e : TypeId} {size : Nat} {v : Value} {n : Nat} {xs : List Value} (h : w.ownsRow base e size v n xs) (hb : base' ≤ base) : w.ownsRow base' e size v n xs := by
  refine ⟨h.1, ?_⟩
  rcases h.2 with h2 | ⟨g, cap, cur, hv, hg, r⟩
  · exact .inl h2
  · exact .inr ⟨g, cap, cur, hv, Nat.le_trans hb hg, r⟩
theorem take_snoc {α : Type} (l : List α) (k : Nat) (h : k < l.length) : l.take (k + 1) = l.take k ++ [l[k]] := List.take_succ_eq_append_getElem h
abbrev strsV (ss : List ByteArray) : List Value := ss.map Value.string
set_option maxRecDepth 100000 in
set_option maxHeartbeats 2000000 in
theorem refList_any (v : Value) (ss : List ByteArray) (w : World) (hr : Reads w v ss.length 1 (strsV ss)) (hs : ss.length ≤ 1000) :
    Calls Tryz.prog 67 #[v] w fun e w' => ∃ v', e = .returned v' ∧ w'.ownsRow w.heap.size 3 1 v' (refL ss).length (ints (refL ss)) ∧ Below w.heap.size w w' := by
  have Hr := Lib.hid hr
  obtain ⟨-, ao, c, rfl, -, -, -⟩ := hr
  go_enter Tryz.func67, Tryz.ntmps67
  go_wp2
  go_loopw [3, 4] (fun out i w' => ∃ k : Nat, k ≤ ss.length ∧ i = .int .i64 k ∧ w'.ownsRow w.heap.size 3 1 out (refL (ss.take k)).length (ints (refL (ss.take k))) ∧ Below w.heap.size w w') (fun _ i _ => ss.length - (RowKit.intOf i).toNat)
  case atStart => exact ⟨0, by omega, rfl, World.ownsRow_nil _ _ _ _, Below.refl _ _⟩
  case round =>
    obtain ⟨k, hk, rfl, hown, hbel⟩ := hrel
    by_cases hlt : k < ss.length
    · obtain ⟨b, o, c', hv, hnc, _, hc⟩ := (Hr.out.later hbel).at (by omega)
      cases hv
      have hcell : wr.cell? ⟨b, o + k, none⟩ = some (.string (ss[k])) := hc k _ (by simp [hlt])
      have hsn := refL_snoc (ss.take k) ss[k]
      rw [← take_snoc ss k hlt] at hsn
      have HS := Lib.hid hsn
      have hlen := refL_length (ss.take k)
      have hlt60 : (ss.take k).length ≤ k := by rw [List.length_take]; omega
      clear hsn hc
      generalize ss[k] = s at *
      obtain ⟨l', hl'⟩ : ∃ l', l' = refL (ss.take (k + 1)) := ⟨_, rfl⟩
      rw [← hl'] at HS
      have HL' := Lib.hid hl'
      clear hl'
      generalize refL (ss.take k) = l at *
      have hl60 : l.length ≤ 1000 := by omega
      have HOWN := Lib.hid hown
      clear hlt60 hlen hown
      have hnum := refNumber_any s
      unfold numOut at hnum
      have hnv := numV_le s.data.toList
      generalize numV s.data.toList = n at *
      have HNUM := Lib.hid hnum
      clear hnum
      by_cases h0 : 0 < n
      · rw [decide_eq_true h0] at HNUM
        have HS' : Hid (l' = ins l n) := by rw [Hid, HS.out, if_pos h0]
        clear HS
        go_wp2_with fail
        refine (HNUM.out _).mono ?_
        rintro e w1 ⟨rfl, rfl⟩
        go_wp2_with fail
        refine (has_any _ l n wr (reads_of_owns HOWN.out) (by omega)).mono ?_
        rintro e w1 ⟨rfl, rfl⟩
        obtain ⟨hb, hhb⟩ : ∃ hb, hb = hasB l n := ⟨_, rfl⟩
        simp only
        rw [← hhb]
        cases hb with
        | true =>
          have HI : Hid (l' = l) := by rw [Hid, HS'.out, ins]; rw [hasB] at hhb; rw [if_pos hhb.symm]
          clear hhb
          go_wp2
          go_roundw
          case rel => exact ⟨k + 1, by omega, by go_num, by rw [← HL'.out, HI.out]; exact HOWN.out, hbel⟩
          case measure => simp [RowKit.intOf]; omega
        | false =>
          have HI : Hid (l' = l.take (insAt l n) ++ [(n : Int)] ++ l.drop (insAt l n)) := by rw [Hid, HS'.out, ins]; rw [hasB] at hhb; rw [if_neg (by rw [← hhb]; simp)]
          have hjl := insAt_le l n
          have HLT := Lib.hid (insAt_lt l n)
          have HST := Lib.hid (insAt_stop l n)
          generalize insAt l (n : Int) = p at *
          clear hhb
          rcases HOWN.out.2 with ⟨rfl, hn0⟩ | ⟨g, cap, cur, rfl, hbg, hg, hncap, hcm, hcs, htk⟩
          · obtain rfl : l = [] := List.eq_nil_of_length_eq_zero hn0
            obtain rfl : p = 0 := by simpa using hjl
            have HF := Lib.hid (show w.heap.size ≤ wr.heap.size from hbel.size)
            have HBW := Lib.hid (show Below w.heap.size w wr from hbel)
            clear hn0 hbel hcell hjl
            go_wp2
            go_loop [7] (fun i => i = .int .i64 0) (fun _ => 0)
            case atStart => rfl
            case round =>
              subst hrel
              go_wp2
              have tok1 : True := trivial
              have tok2 : True := trivial
              have tok3 : True := trivial
              go_region_law (first
                | (have _t := tok1; refine step_app elemInt (base := wr.heap.size) (v := .slice (some ⟨_, 0, none⟩) 0 0) (n := 0) (xs := []) (y := .slice none 0 0) rfl rfl rfl (by first | exact (owns_empty _ _ _ _ (by first | (simp; done) | (simp; omega)) (by simp)).drew | exact ((owns_empty _ _ _ _ (by first | (simp; done) | (simp; omega)) (by simp)).alloc _).drew) rfl (m := 0) (news := []) (Reads.nil _ _) (fun _ h => by cases h) (by unfold maxLen; omega) (by omega) (by first | (simp; done) | (simp; omega)) ?_; intro v1 w1 hown1 hgr1; have hb1 : Below wr.heap.size wr w1 := (by first | exact ((Below.refl _ _).alloc (Nat.le_refl _) _).drew.grown hgr1 (by first | (simp; done) | (simp; omega)) (by intro k hk; simp [Value.ownBlock] at hk; omega) | exact (((Below.refl _ _).alloc (Nat.le_refl _) _).alloc (by first | (simp; done) | (simp; omega)) _).drew.grown hgr1 (by first | (simp; done) | (simp; omega)) (by intro k hk; simp [Value.ownBlock] at hk; omega)); clear tok1)
                | (have _t := tok2; refine step_app elemInt (base := wr.heap.size) (v := v1) (y := .slice (some ⟨_, 0, none⟩) 1 1) (n := 0 + 0) (xs := [] ++ []) rfl rfl rfl (by first | exact hown1 | exact hown1.alloc _) rfl (m := 1) (news := [.int .i64 n]) (by first | exact reads_cell (by simp) | exact reads_cell (hgr1.cell (by simp) (by simp [Value.ownBlock]))) (one_of rfl) (by unfold maxLen; omega) (by omega) (by first | exact hb1.size | (simp; have := hb1.size; omega)) ?_; intro v2 w2 hown2 hgr2; have hb2 : Below wr.heap.size wr w2 := (by first | exact hb1.grown hgr2 hb1.size (fun k hk => (hown1.lt k hk).1) | exact (hb1.alloc hb1.size _).grown hgr2 (by simp; have := hb1.size; omega) (fun k hk => (hown1.lt k hk).1)); clear tok2)
                | (have _t := tok3; refine step_app elemInt (base := wr.heap.size) (v := v2) (y := .slice none 0 0) (n := 0 + 0 + 1) (xs := [] ++ [] ++ [.int .i64 n]) rfl rfl rfl hown2 rfl (m := 0) (news := []) (Reads.nil _ _) (fun _ h => by cases h) (by unfold maxLen; omega) (by omega) hb2.size ?_; intro v3 w3 hown3 hgr3; have hb3 : Below wr.heap.size wr w3 := hb2.grown hgr3 hb2.size (fun k hk => (hown2.lt k hk).1); clear tok3))
              all_goals
                have HFIN : Hid (w3.ownsRow w.heap.size 3 1 v3 l'.length (ints l')) := by
                  have e : ints l' = [] ++ [] ++ [.int .i64 n] ++ [] := by rw [HI.out]; simp
                  have e2 : l'.length = 0 + 0 + 1 + 0 := by rw [HI.out]; simp
                  rw [Hid, e, e2]
                  exact owns_mono hown3 HF.out
                have HB3 := Lib.hid (HBW.out.trans (hb3.mono HF.out))
                clear hown1 hown2 hown3 hgr1 hgr2 hgr3 hb1 hb2 hb3
                go_wp2
                go_roundw
                case rel => exact ⟨k + 1, by omega, by go_num, by rw [← HL'.out]; exact HFIN.out, HB3.out⟩
                case measure => simp [RowKit.intOf]; omega
          · have hcellL : ∀ j (hj : j < l.length), wr.cell? ⟨g, j, none⟩ = some (.int .i64 l[j]) := fun j hj => by
              have := HOWN.out.cells (g := g) rfl j (.int .i64 l[j]) (by simp [hj])
              simpa [Addr.add_lit] using this
            have HC := Lib.hid hcellL
            clear hcellL hg hcs htk
            go_wp2
            go_loop [7] (fun i => ∃ j : Nat, j ≤ p ∧ i = .int .i64 j) (fun i => p - (RowKit.intOf i).toNat)
            case atStart => exact ⟨0, by omega, rfl⟩
            case round =>
              obtain ⟨j, hj, rfl⟩ := hrel
              by_cases hjp : j < p
              · have hjl2 : j < l.length := by omega
                have hcj := HC.out j hjl2
                have hltj := HLT.out j hjp hjl2
                generalize l[j] = x at *
                go_wp2
                go_round
                case rel => exact ⟨j + 1, by omega, by go_num⟩
                case measure => simp [RowKit.intOf]; omega
              · obtain rfl : j = p := by omega
                by_cases hjl2 : j < l.length
                · have hcj := HC.out j hjl2
                  have hltj := HST.out hjl2
                  generalize l[j] = x at *
                  have hjc : j ≤ cap := by omega
                  have HF := Lib.hid (show w.heap.size ≤ wr.heap.size from hbel.size)
                  have HRW := Lib.hid (show Reads wr (.slice (some ⟨g, 0, none⟩) l.length cap) l.length 1 (ints l) from reads_of_owns HOWN.out)
                  have HGW := Lib.hid (show ∀ k, (Value.slice (some ⟨g, 0, none⟩) l.length cap).ownBlock = some k → k < wr.heap.size from fun k hk => (HOWN.out.lt k hk).2)
                  have HBW := Lib.hid (show Below w.heap.size w wr from hbel)
                  clear hbel hcell hbg hncap hcm
                  go_wp2
                  have tok1 : True := trivial
                  have tok2 : True := trivial
                  have tok3 : True := trivial
                  go_region_law (first
                    | (have _t := tok1; refine step_app elemInt (base := wr.heap.size) (v := .slice (some ⟨_, 0, none⟩) 0 0) (n := 0) (xs := []) (y := .slice (some ⟨g, 0, none⟩) j cap) rfl rfl rfl (by first | exact (owns_empty _ _ _ _ (by first | (simp; done) | (simp; omega)) (by simp)).drew | exact ((owns_empty _ _ _ _ (by first | (simp; done) | (simp; omega)) (by simp)).alloc _).drew) rfl (m := j) (news := ints (l.take j)) (by rw [ints_take]; exact (HRW.out.below (by first | exact ((Below.refl _ _).alloc (Nat.le_refl _) _).drew | exact (((Below.refl _ _).alloc (Nat.le_refl _) _).alloc (by first | (simp; done) | (simp; omega)) _).drew) HGW.out).take j hjl) (ints_one _) (by unfold maxLen; omega) (by omega) (by first | (simp; done) | (simp; omega)) ?_; intro v1 w1 hown1 hgr1; have hb1 : Below wr.heap.size wr w1 := (by first | exact ((Below.refl _ _).alloc (Nat.le_refl _) _).drew.grown hgr1 (by first | (simp; done) | (simp; omega)) (by intro k hk; simp [Value.ownBlock] at hk; omega) | exact (((Below.refl _ _).alloc (Nat.le_refl _) _).alloc (by first | (simp; done) | (simp; omega)) _).drew.grown hgr1 (by first | (simp; done) | (simp; omega)) (by intro k hk; simp [Value.ownBlock] at hk; omega)); clear tok1)
                    | (have _t := tok2; refine step_app elemInt (base := wr.heap.size) (v := v1) (y := .slice (some ⟨_, 0, none⟩) 1 1) (n := 0 + j) (xs := [] ++ ints (l.take j)) rfl rfl rfl (by first | exact hown1 | exact hown1.alloc _) rfl (m := 1) (news := [.int .i64 n]) (by first | exact reads_cell (by simp) | exact reads_cell (hgr1.cell (by simp) (by simp [Value.ownBlock]))) (one_of rfl) (by unfold maxLen; omega) (by omega) (by first | exact hb1.size | (simp; have := hb1.size; omega)) ?_; intro v2 w2 hown2 hgr2; have hb2 : Below wr.heap.size wr w2 := (by first | exact hb1.grown hgr2 hb1.size (fun k hk => (hown1.lt k hk).1) | exact (hb1.alloc hb1.size _).grown hgr2 (by simp; have := hb1.size; omega) (fun k hk => (hown1.lt k hk).1)); clear tok2)
                    | (have _t := tok3; refine step_app elemInt (base := wr.heap.size) (v := v2) (y := .slice _ (l.length - j) (cap - j)) (n := 0 + j + 1) (xs := [] ++ ints (l.take j) ++ [.int .i64 n]) rfl rfl rfl hown2 rfl (m := l.length - j) (news := ints (l.drop j)) (by rw [ints_drop]; exact Reads.drop (HRW.out.below hb2 HGW.out) j hjl _ (by intro h; simp [h]) (by first | (split <;> simp; done) | (simp; done))) (ints_one _) (by unfold maxLen; omega) (by omega) hb2.size ?_; intro v3 w3 hown3 hgr3; have hb3 : Below wr.heap.size wr w3 := hb2.grown hgr3 hb2.size (fun k hk => (hown2.lt k hk).1); clear tok3))
                  all_goals
                    have HFIN : Hid (w3.ownsRow w.heap.size 3 1 v3 l'.length (ints l')) := by
                      have e : ints l' = [] ++ ints (l.take j) ++ [.int .i64 n] ++ ints (l.drop j) := by rw [HI.out]; simp
                      have e2 : l'.length = 0 + j + 1 + (l.length - j) := by rw [HI.out]; simp; omega
                      rw [Hid, e, e2]
                      exact owns_mono hown3 HF.out
                    have HB3 := Lib.hid (HBW.out.trans (hb3.mono HF.out))
                    clear hown1 hown2 hown3 hgr1 hgr2 hgr3 hb1 hb2 hb3
                    go_wp2
                    go_roundw
                    case rel => exact ⟨k + 1, by omega, by go_num, by rw [← HL'.out]; exact HFIN.out, HB3.out⟩
                    case measure => simp [RowKit.intOf]; omega
                · have hjc : j ≤ cap := by omega
                  have HF := Lib.hid (show w.heap.size ≤ wr.heap.size from hbel.size)
                  have HRW := Lib.hid (show Reads wr (.slice (some ⟨g, 0, none⟩) l.length cap) l.length 1 (ints l) from reads_of_owns HOWN.out)
                  have HGW := Lib.hid (show ∀ k, (Value.slice (some ⟨g, 0, none⟩) l.length cap).ownBlock = some k → k < wr.heap.size from fun k hk => (HOWN.out.lt k hk).2)
                  have HBW := Lib.hid (show Below w.heap.size w wr from hbel)
                  clear hbel hcell hbg hncap hcm
                  go_wp2
                  have tok1 : True := trivial
                  have tok2 : True := trivial
                  have tok3 : True := trivial
                  go_region_law (first
                    | (have _t := tok1; refine step_app elemInt (base := wr.heap.size) (v := .slice (some ⟨_, 0, none⟩) 0 0) (n := 0) (xs := []) (y := .slice (some ⟨g, 0, none⟩) j cap) rfl rfl rfl (by first | exact (owns_empty _ _ _ _ (by first | (simp; done) | (simp; omega)) (by simp)).drew | exact ((owns_empty _ _ _ _ (by first | (simp; done) | (simp; omega)) (by simp)).alloc _).drew) rfl (m := j) (news := ints (l.take j)) (by rw [ints_take]; exact (HRW.out.below (by first | exact ((Below.refl _ _).alloc (Nat.le_refl _) _).drew | exact (((Below.refl _ _).alloc (Nat.le_refl _) _).alloc (by first | (simp; done) | (simp; omega)) _).drew) HGW.out).take j hjl) (ints_one _) (by unfold maxLen; omega) (by omega) (by first | (simp; done) | (simp; omega)) ?_; intro v1 w1 hown1 hgr1; have hb1 : Below wr.heap.size wr w1 := (by first | exact ((Below.refl _ _).alloc (Nat.le_refl _) _).drew.grown hgr1 (by first | (simp; done) | (simp; omega)) (by intro k hk; simp [Value.ownBlock] at hk; omega) | exact (((Below.refl _ _).alloc (Nat.le_refl _) _).alloc (by first | (simp; done) | (simp; omega)) _).drew.grown hgr1 (by first | (simp; done) | (simp; omega)) (by intro k hk; simp [Value.ownBlock] at hk; omega)); clear tok1)
                    | (have _t := tok2; refine step_app elemInt (base := wr.heap.size) (v := v1) (y := .slice (some ⟨_, 0, none⟩) 1 1) (n := 0 + j) (xs := [] ++ ints (l.take j)) rfl rfl rfl (by first | exact hown1 | exact hown1.alloc _) rfl (m := 1) (news := [.int .i64 n]) (by first | exact reads_cell (by simp) | exact reads_cell (hgr1.cell (by simp) (by simp [Value.ownBlock]))) (one_of rfl) (by unfold maxLen; omega) (by omega) (by first | exact hb1.size | (simp; have := hb1.size; omega)) ?_; intro v2 w2 hown2 hgr2; have hb2 : Below wr.heap.size wr w2 := (by first | exact hb1.grown hgr2 hb1.size (fun k hk => (hown1.lt k hk).1) | exact (hb1.alloc hb1.size _).grown hgr2 (by simp; have := hb1.size; omega) (fun k hk => (hown1.lt k hk).1)); clear tok2)
                    | (have _t := tok3; refine step_app elemInt (base := wr.heap.size) (v := v2) (y := .slice _ (l.length - j) (cap - j)) (n := 0 + j + 1) (xs := [] ++ ints (l.take j) ++ [.int .i64 n]) rfl rfl rfl hown2 rfl (m := l.length - j) (news := ints (l.drop j)) (by rw [ints_drop]; exact Reads.drop (HRW.out.below hb2 HGW.out) j hjl _ (by intro h; simp [h]) (by first | (split <;> simp; done) | (simp; done))) (ints_one _) (by unfold maxLen; omega) (by omega) hb2.size ?_; intro v3 w3 hown3 hgr3; have hb3 : Below wr.heap.size wr w3 := hb2.grown hgr3 hb2.size (fun k hk => (hown2.lt k hk).1); clear tok3))
                  all_goals
                    have HFIN : Hid (w3.ownsRow w.heap.size 3 1 v3 l'.length (ints l')) := by
                      have e : ints l' = [] ++ ints (l.take j) ++ [.int .i64 n] ++ ints (l.drop j) := by rw [HI.out]; simp
                      have e2 : l'.length = 0 + j + 1 + (l.length - j) := by rw [HI.out]; simp; omega
                      rw [Hid, e, e2]
                      exact owns_mono hown3 HF.out
                    have HB3 := Lib.hid (HBW.out.trans (hb3.mono HF.out))
                    clear hown1 hown2 hown3 hgr1 hgr2 hgr3 hb1 hb2 hb3
                    go_wp2
                    go_roundw
                    case rel => exact ⟨k + 1, by omega, by go_num, by rw [← HL'.out]; exact HFIN.out, HB3.out⟩
                    case measure => simp [RowKit.intOf]; omega
      · have hn0 : n = 0 := by omega
        subst hn0
        have HS' : Hid (l' = l) := by rw [Hid, HS.out, if_neg h0]
        rw [show decide (0 < 0) = false from rfl] at HNUM
        clear HS h0
        go_wp2_with fail
        refine (HNUM.out _).mono ?_
        rintro e w1 ⟨rfl, rfl⟩
        go_wp2
        go_roundw
        case rel => exact ⟨k + 1, by omega, by go_num, by rw [← HL'.out, HS'.out]; exact HOWN.out, hbel⟩
        case measure => simp [RowKit.intOf]; omega
    · obtain rfl : k = ss.length := by omega
      go_wp2
      go_ret
      rw [List.take_length] at hown
      exact ⟨_, rfl, hown, hbel⟩
end Go.Proofs.YtgdmdbdljmlkkaaGreatDoor
namespace Go.Proofs.YtgdmdbdljmlkkaaGreatDoor
set_option linter.unusedVariables false
set_option linter.unusedSimpArgs false
open Go.RowKit Go.Lib
theorem grow_none (w : World) : Sort.grow w #[] = w := by
  unfold Sort.grow; simp
end Go.Proofs.YtgdmdbdljmlkkaaGreatDoor
namespace Go.Proofs.YtgdmdbdljmlkkaaGreatDoor
set_option linter.unusedVariables false
set_option linter.unusedSimpArgs false
open Go.RowKit
theorem refL_same {a b : List ByteArray} (h : ∀ x, x ∈ a ↔ x ∈ b) : refL a = refL b := by
  refine inc_ext (inc_refL a) (inc_refL b) (fun x => ?_)
  rw [mem_refL, mem_refL]
  unfold numsL
  simp only [List.mem_map, List.mem_filter, h]
theorem nodup_len {α : Type} [DecidableEq α] : ∀ {l L : List α}, l.Nodup → (∀ x ∈ l, x ∈ L) → l.length ≤ L.length
  | [], _, _, _ => Nat.zero_le _
  | a :: l, L, hn, hs => by
    obtain ⟨h1, h2⟩ := List.nodup_cons.1 hn
    have h3 := nodup_len (L := L.erase a) h2 (fun x hx => (List.mem_erase_of_ne (fun e => h1 (by rw [← e]; exact hx))).2 (hs x (by simp [hx])))
    have h4 := List.length_erase_of_mem (hs a (by simp))
    have h5 := List.length_pos_of_mem (hs a (by simp))
    rw [List.length_cons]; omega
abbrev mkS (ss : List (List UInt8)) : List ByteArray := ss.map fun s => ⟨s.toArray⟩
theorem mkS_V (ss : List (List UInt8)) : strsV (mkS ss) = ss.map Go.Proofs.encStr := by unfold strsV; rw [List.map_map]; rfl
theorem mkS_mem {ss : List (List UInt8)} {L : List ByteArray} (h : ∀ s : List UInt8, s ∈ ss ↔ ⟨s.toArray⟩ ∈ L) (x : ByteArray) : x ∈ mkS ss ↔ x ∈ L := by
  constructor
  · intro hx
    obtain ⟨s, hs, rfl⟩ := List.mem_map.1 hx
    exact (h s).1 hs
  · intro hx
    refine List.mem_map.2 ⟨x.data.toList, (h _).2 ?_, ?_⟩
    · have e : (⟨x.data.toList.toArray⟩ : ByteArray) = x := by simp
      rwa [e]
    · simp
theorem mkS_len {ss : List (List UInt8)} {L : List ByteArray} (hp : ss.Pairwise (· < ·)) (h : ∀ s : List UInt8, s ∈ ss ↔ ⟨s.toArray⟩ ∈ L) : ss.length ≤ L.length := by
  have hn : ss.Nodup := hp.imp (fun h e => by subst e; exact List.lt_irrefl _ h)
  have := nodup_len (l := ss) (L := L.map fun b => b.data.toList) hn (fun x hx => List.mem_map.2 ⟨_, (h x).1 hx, by simp⟩)
  simpa using this
theorem readD_len (D : DS) (n : ByteArray) : (readD D n).1.length ≤ sumD D.files := by
  unfold readD
  split
  · exact Nat.zero_le _
  · split
    · rename_i f hf
      exact len_le_sum (findD_name hf).2
    · exact Nat.zero_le _
theorem rx_one {X : List RX} {B : Nat} {W : World} (h : ∀ x ∈ X, RdX B x W) : ∀ u ∈ X.map RX.v, u.oneCell' = true := by
  intro u hu
  obtain ⟨x, hx, rfl⟩ := List.mem_map.1 hu
  obtain ⟨-, a, c, hv, -⟩ := (h x hx).reads
  rw [hv]; rfl
end Go.Proofs.YtgdmdbdljmlkkaaGreatDoor
