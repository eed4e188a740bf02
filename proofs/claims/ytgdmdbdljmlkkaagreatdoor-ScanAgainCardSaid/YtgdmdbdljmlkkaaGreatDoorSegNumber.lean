/- segment.Number: the number of eight digits behind the prefix, true if it is above 0; else 0 and false. -/
import Derived.Test.YtgdmdbdljmlkkaaGreatDoorChecked
import Derived.Test.YtgdmdbdljmlkkaaGreatDoorShelf
import Derived.Test.YtgdmdbdljmlkkaaGreatDoorSegName
namespace Go.Proofs.YtgdmdbdljmlkkaaGreatDoor
set_option linter.unusedVariables false
set_option linter.unusedSimpArgs false
open Go.RowKit Go.Lib

def numOut (l : List UInt8) : Value := .tuple #[.int .i64 (numV l), .bool (decide (0 < numV l))]

theorem bad_out (l : List UInt8) (h : goodB l = false) : numOut l = .tuple #[.int .i64 0, .bool false] := by
  simp [numOut, numV, h]

theorem trim_good (l : List UInt8) : goodB l = (hasPrefix l pre4 && (trimPrefix l pre4).length == 8 && (trimPrefix l pre4).all isD) := by
  unfold trimPrefix
  cases hp : hasPrefix l pre4 with
  | false =>
    cases hg : goodB l with
    | false => rfl
    | true =>
      exfalso
      obtain ⟨_, h2, _⟩ := (goodB_iff l).1 hg
      unfold hasPrefix at hp
      have : pre4.isPrefixOf l = true := by
        rw [List.isPrefixOf_iff_prefix, List.prefix_iff_eq_take]
        exact h2.symm
      rw [this] at hp; cases hp
  | true =>
    have hpre : l.take 4 = pre4 := by
      unfold hasPrefix at hp
      rw [List.isPrefixOf_iff_prefix, List.prefix_iff_eq_take] at hp
      exact hp.symm
    have hlen : 4 ≤ l.length := by
      have := congrArg List.length hpre
      simp [pre4] at this
      omega
    simp only [goodB, hpre, BEq.rfl, Bool.and_true, Bool.true_and, if_true]
    have : (l.length == 12) = ((l.drop pre4.length).length == 8) := by
      rw [Bool.eq_iff_iff]; simp [pre4]; omega
    rw [this]; rfl

theorem numV_good (l : List UInt8) (h : goodB l = true) : numV l = val (trimPrefix l pre4) := by
  have h' := h
  rw [trim_good] at h'
  simp only [Bool.and_eq_true] at h'
  unfold numV trimPrefix
  rw [if_pos h, if_pos h'.1.1]; rfl

theorem good_out (l : List UInt8) (h : goodB l = true) : numOut l = .tuple #[.int .i64 (val (trimPrefix l pre4)), .bool (decide (0 < val (trimPrefix l pre4)))] := by
  unfold numOut; rw [numV_good l h]

theorem all_false {d : List UInt8} {k : Nat} {c : UInt8} (h : d.take (k + 1) = d.take k ++ [c]) (hc : isD c = false) : d.all isD = false := by
  cases hd : d.all isD with
  | false => rfl
  | true =>
    have hm : c ∈ d := List.mem_of_mem_take (i := k + 1) (by rw [h]; simp)
    rw [List.all_eq_true.1 hd c hm] at hc
    cases hc

set_option maxRecDepth 100000 in
set_option maxHeartbeats 1000000 in
theorem number_any (s : ByteArray) (w : World) :
    Calls Tryz.prog 113 #[.string s] w fun e w' => e = .returned (numOut s.data.toList) ∧ Below w.heap.size w w' := by
  have hc := Tryz.strings_CutPrefix s ⟨#[108, 111, 103, 45]⟩ w
  have HG := Lib.hid (trim_good s.data.toList)
  have HV := Lib.hid (good_out s.data.toList)
  have HB := Lib.hid (bad_out s.data.toList)
  generalize numOut s.data.toList = out at *
  have e4 : (⟨#[108, 111, 103, 45]⟩ : ByteArray).data.toList = pre4 := rfl
  rw [e4] at hc
  clear e4
  generalize goodB s.data.toList = good at *
  generalize hasPrefix s.data.toList pre4 = hp at *
  generalize trimPrefix s.data.toList pre4 = d at *
  have HC := Lib.hid hc
  clear hc
  obtain ⟨D, hD⟩ : ∃ D : ByteArray, D = ⟨d.toArray⟩ := ⟨_, rfl⟩
  have hsz : Hid (D.size = d.length) := by rw [Hid, hD]; rfl
  rw [← hD] at HC
  have HD := Lib.hid hD
  clear hD
  cases hp with
  | false =>
    have hgood := HG.out
    simp only [Bool.false_and] at hgood
    have H := Lib.hid (HB.out hgood)
    clear hgood
    go_enter Tryz.func113, Tryz.ntmps113
    go_wp2_with fail
    refine HC.out.mono ?_
    rintro e w1 ⟨rfl, rfl⟩
    go_wp2
    go_ret2
    exact ⟨congrArg Ending.returned H.out.symm, Below.refl _ _⟩
  | true =>
    by_cases h8 : D.size = 8
    · rw [Hid] at hsz
      have hd8 : d.length = 8 := by rw [← hsz]; exact h8
      have hgood := HG.out
      rw [hd8] at hgood
      simp only [BEq.rfl, Bool.true_and, Bool.and_true] at hgood
      have h8' : ((D.size : Int) != 8) = false := by rw [bne_eq_false_iff_eq]; omega
      have HG2 := Lib.hid hgood
      have H8 := Lib.hid h8
      have HD8 := Lib.hid hd8
      have hle : D.size ≤ 8 := by omega
      have hge : 8 ≤ D.size := by omega
      clear hgood h8 hsz hd8 HG
      go_enter Tryz.func113, Tryz.ntmps113
      go_wp2_with fail
      refine HC.out.mono ?_
      rintro e w1 ⟨rfl, rfl⟩
      go_wp2
      go_loopw [6] (fun n w' => ∃ k v : Nat, k ≤ 8 ∧ w' = w1.iter D k ∧ v < 10 ^ 8 ∧ n = .int .i64 (v : Int) ∧ Hid (v = val (d.take k) ∧ (d.take k).all isD = true)) (fun _ w' => 8 - w'.iterPos w1.heap.size)
      case atStart => exact ⟨0, 0, by omega, rfl, by omega, rfl, rfl, rfl⟩
      case round =>
        obtain ⟨k, v, hk, rfl, hv, rfl, Hv⟩ := hrel
        by_cases hlt : k < 8
        · have hpos : k < D.size := by omega
          obtain ⟨c, hc⟩ : ∃ c : UInt8, c = D[k] := ⟨_, rfl⟩
          have Hstep : Hid (d.take (k + 1) = d.take k ++ [c]) := by
            rw [Hid, List.take_succ_eq_append_getElem (by rw [HD8.out]; exact hlt), hc]
            simp only [HD.out]; rfl
          by_cases ha : c.toNat < 128
          · have hnx : ∀ ty, (Instr.next (.pointer (some ⟨w1.heap.size, 0, none⟩)) true ty).run Tryz.prog (w1.iter D k) = .ok (.tuple #[.bool true, .int .i64 k, .int .i32 c.toNat]) (w1.iter D (k + 1)) := fun ty => by
              rw [hc]; exact run_next_ascii w1 D k ty hpos (by rw [← hc]; exact ha)
            clear hc
            by_cases h48 : c.toNat < 48
            · have hcd : isD c = false := by simp [isD]; omega
              have H := Lib.hid (HB.out (HG2.out.trans (all_false Hstep.out hcd)))
              clear hcd
              go_wp2
              go_ret2
              exact ⟨congrArg Ending.returned H.out.symm, (Below.refl _ _).alloc (Nat.le_refl _) _⟩
            · by_cases h57 : 57 < c.toNat
              · have hcd : isD c = false := by simp [isD]; omega
                have H := Lib.hid (HB.out (HG2.out.trans (all_false Hstep.out hcd)))
                clear hcd
                go_wp2
                go_ret2
                exact ⟨congrArg Ending.returned H.out.symm, (Below.refl _ _).alloc (Nat.le_refl _) _⟩
              · have hcd : isD c = true := by simp [isD]; omega
                have hall : (d.take (k + 1)).all isD = true := by rw [Hstep.out, List.all_append, Hv.out.2]; simp [hcd]
                have hval : val (d.take (k + 1)) = 10 * v + (c.toNat - 48) := by rw [Hstep.out, val_snoc, ← Hv.out.1]
                have hbd := val_bound (k + 1) (d.take (k + 1)) (by rw [List.length_take, HD8.out]; omega) hall
                have hpow : 10 ^ (k + 1) ≤ 10 ^ 8 := Nat.pow_le_pow_right (by decide) (by omega)
                have hnew : 10 * v + (c.toNat - 48) < 10 ^ 8 := by rw [← hval]; omega
                have HN := Lib.hid (And.intro hval.symm hall)
                clear hcd hall hval hbd hpow
                go_wp2
                go_roundw
                case rel => exact ⟨k + 1, 10 * v + (c.toNat - 48), by omega, rfl, hnew, by go_num, HN.out⟩
                case measure => simp; omega
          · have hhi := decode_high D k hpos (by rw [← hc]; omega)
            have hrl := decode_le D k
            have hnx : ∀ ty, (Instr.next (.pointer (some ⟨w1.heap.size, 0, none⟩)) true ty).run Tryz.prog (w1.iter D k) = _ := fun ty => run_next_any w1 D k ty hpos
            generalize (Utf8.decode D k).1 = r at *
            generalize k + (Utf8.decode D k).2 = k' at *
            have hr57 : 57 < r := by omega
            clear hc
            have hcd : isD c = false := by simp [isD]; omega
            have H := Lib.hid (HB.out (HG2.out.trans (all_false Hstep.out hcd)))
            clear hcd
            go_wp2
            go_ret2
            exact ⟨congrArg Ending.returned H.out.symm, (Below.refl _ _).alloc (Nat.le_refl _) _⟩
        · obtain rfl : k = 8 := by omega
          have ht : d.take 8 = d := List.take_of_length_le (by rw [HD8.out]; omega)
          have H := HV.out (HG2.out.trans (by rw [← ht]; exact Hv.out.2))
          rw [show val d = v by rw [Hv.out.1, ht]] at H
          have H' := Lib.hid H
          clear H ht
          have hnx : ∀ ty, (Instr.next (.pointer (some ⟨w1.heap.size, 0, none⟩)) true ty).run Tryz.prog (w1.iter D 8) = _ := fun ty => run_next_end w1 D 8 ty (by omega)
          go_wp2
          go_ret2
          exact ⟨congrArg Ending.returned H'.out.symm, (Below.refl _ _).alloc (Nat.le_refl _) _⟩
    · have hgood := HG.out
      rw [← hsz.out] at hgood
      rw [beq_eq_false_iff_ne.2 h8] at hgood
      simp only [Bool.and_false, Bool.false_and] at hgood
      have H := Lib.hid (HB.out hgood)
      have h8' : ((D.size : Int) != 8) = true := by rw [bne_iff_ne]; omega
      clear hgood h8
      go_enter Tryz.func113, Tryz.ntmps113
      go_wp2_with fail
      refine HC.out.mono ?_
      rintro e w1 ⟨rfl, rfl⟩
      go_wp2
      go_ret2
      exact ⟨congrArg Ending.returned H.out.symm, Below.refl _ _⟩
end Go.Proofs.YtgdmdbdljmlkkaaGreatDoor
