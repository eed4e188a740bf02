/- The reference of a disk: Named. -/
import Derived.Test.YtjhhmljebflanaaDoorRf3
namespace Go.Proofs.YtjhhmljebflanaaDoor
set_option linter.unusedVariables false
set_option linter.unusedSimpArgs false
open Go.RowKit

def rangeC (n : Nat) : Bool := (decide (97 ≤ n) && decide (n ≤ 122)) || (decide (48 ≤ n) && decide (n ≤ 57)) || decide (n = 45) || decide (n = 46)
theorem okC_all : ∀ n : Fin 256, okC (UInt8.ofNat n.val) = rangeC n.val := by decide +kernel
theorem okC_range (c : UInt8) : okC c = rangeC c.toNat := by
  have h := okC_all ⟨c.toNat, c.toNat_lt⟩
  simpa using h

set_option maxRecDepth 100000 in
set_option maxHeartbeats 1000000 in
theorem rnamed_any (n : ByteArray) (w : World) (hn : n.size ≤ 100000) :
    Calls Tryd.prog 47 #[.string n] w fun e w' => e = .returned (.bool (namedB n)) ∧ w' = w := by
  have HN : Hid (namedB n = (decide (1 ≤ n.size ∧ n.size ≤ 100) && n.data.toList.all okC)) := rfl
  generalize namedB n = nb at *
  go_enter Tryd.func47, Tryd.ntmps47
  go_wp2
  go_loop [3] (fun i => ∃ m : Nat, m ≤ n.size ∧ i = .int .i64 m ∧ Hid (∀ j (hj : j < n.size), j < m → okC n[j] = true)) (fun i => n.size - (RowKit.intOf i).toNat)
  case atStart => exact ⟨0, by omega, rfl, fun j _ h => by omega⟩
  case round =>
    obtain ⟨m, hm, rfl, HLOW⟩ := hrel
    by_cases hlt : m < n.size
    · have hget : n.data[m]? = some n[m] := by
        have : m < n.data.size := hlt
        rw [Array.getElem?_eq_getElem this]; rfl
      have hkk := okC_range n[m]
      have hlow : okC n[m] = true → Hid (∀ j (hj : j < n.size), j < m + 1 → okC n[j] = true) := fun h j hj hjm => by
        rcases Nat.lt_or_ge j m with h1 | h1
        · exact HLOW.out j hj h1
        · have : j = m := by omega
          subst this; exact h
      have hbad : okC n[m] = false → Hid (nb = false) := fun h => by
        rw [Hid, HN.out]
        have : n.data.toList.all okC = false := by
          rw [List.all_eq_false]
          refine ⟨n[m], List.mem_iff_getElem.2 ⟨m, by simpa using hlt, by rw [Array.getElem_toList]; rfl⟩, by simp [h]⟩
        rw [this, Bool.and_false]
      have hr : okC n[m] = rangeC n[m].toNat := okC_range _
      have hk256 : n[m].toNat < 256 := n[m].toNat_lt
      clear hget hkk
      obtain ⟨k, hk⟩ : ∃ k, k = n[m].toNat := ⟨_, rfl⟩
      rw [← hk] at hr hk256
      have HK := Lib.hid hk
      have hcases : (97 ≤ k ∧ k ≤ 122) ∨ (48 ≤ k ∧ k ≤ 57) ∨ k = 45 ∨ k = 46 ∨ k ≤ 44 ∨ k = 47 ∨ (58 ≤ k ∧ k ≤ 96) ∨ 123 ≤ k := by omega
      rcases hcases with ⟨h1, h2⟩ | ⟨h1, h2⟩ | h1 | h1 | h1 | h1 | ⟨h1, h2⟩ | h1
      · have HG := hlow (by rw [hr]; simp [rangeC]; omega)
        clear hlow hbad hr hk256
        have f0 : 97 ≤ (n[m].toNat : Int) := by omega
        have f1 : (n[m].toNat : Int) ≤ 122 := by omega
        clear hk
        go_wp2
        go_round
        case rel => exact ⟨m + 1, by omega, by go_num, HG⟩
        case measure => simp [RowKit.intOf]; omega
      · have HG := hlow (by rw [hr]; simp [rangeC]; omega)
        clear hlow hbad hr hk256
        have f0 : ¬ 97 ≤ (n[m].toNat : Int) := by omega
        have f1 : 48 ≤ (n[m].toNat : Int) := by omega
        have f2 : (n[m].toNat : Int) ≤ 57 := by omega
        clear hk
        go_wp2
        go_round
        case rel => exact ⟨m + 1, by omega, by go_num, HG⟩
        case measure => simp [RowKit.intOf]; omega
      · have HG := hlow (by rw [hr]; simp [rangeC]; omega)
        clear hlow hbad hr hk256
        have f0 : (n[m].toNat : Int) = 45 := by omega
        clear hk
        go_wp2
        go_round
        case rel => exact ⟨m + 1, by omega, by go_num, HG⟩
        case measure => simp [RowKit.intOf]; omega
      · have HG := hlow (by rw [hr]; simp [rangeC]; omega)
        clear hlow hbad hr hk256
        have f0 : (n[m].toNat : Int) = 46 := by omega
        clear hk
        go_wp2
        go_round
        case rel => exact ⟨m + 1, by omega, by go_num, HG⟩
        case measure => simp [RowKit.intOf]; omega
      · have HG := hbad (by rw [hr]; simp [rangeC]; omega)
        clear hlow hbad hr hk256
        have f0 : ¬ 97 ≤ (n[m].toNat : Int) := by omega
        have f1 : ¬ 48 ≤ (n[m].toNat : Int) := by omega
        have f2 : ((n[m].toNat : Int) == 45) = false := by simp only [beq_eq_false_iff_ne, ne_eq]; omega
        have f3 : ((n[m].toNat : Int) == 46) = false := by simp only [beq_eq_false_iff_ne, ne_eq]; omega
        clear hk
        go_wp2
        go_ret
        exact ⟨by rw [HG.out]; rfl, rfl⟩
      · have HG := hbad (by rw [hr]; simp [rangeC]; omega)
        clear hlow hbad hr hk256
        have f0 : (n[m].toNat : Int) = 47 := by omega
        clear hk
        go_wp2
        go_ret
        exact ⟨by rw [HG.out]; rfl, rfl⟩
      · have HG := hbad (by rw [hr]; simp [rangeC]; omega)
        clear hlow hbad hr hk256
        have f0 : ¬ 97 ≤ (n[m].toNat : Int) := by omega
        have f1 : 48 ≤ (n[m].toNat : Int) := by omega
        have f2 : ¬ (n[m].toNat : Int) ≤ 57 := by omega
        have f3 : ((n[m].toNat : Int) == 45) = false := by simp only [beq_eq_false_iff_ne, ne_eq]; omega
        have f4 : ((n[m].toNat : Int) == 46) = false := by simp only [beq_eq_false_iff_ne, ne_eq]; omega
        clear hk
        go_wp2
        go_ret
        exact ⟨by rw [HG.out]; rfl, rfl⟩
      · have HG := hbad (by rw [hr]; simp [rangeC]; omega)
        clear hlow hbad hr hk256
        have f0 : 97 ≤ (n[m].toNat : Int) := by omega
        have f1 : ¬ (n[m].toNat : Int) ≤ 122 := by omega
        have f2 : 48 ≤ (n[m].toNat : Int) := by omega
        have f3 : ¬ (n[m].toNat : Int) ≤ 57 := by omega
        have f4 : ((n[m].toNat : Int) == 45) = false := by simp only [beq_eq_false_iff_ne, ne_eq]; omega
        have f5 : ((n[m].toNat : Int) == 46) = false := by simp only [beq_eq_false_iff_ne, ne_eq]; omega
        clear hk
        go_wp2
        go_ret
        exact ⟨by rw [HG.out]; rfl, rfl⟩
    · obtain rfl : m = n.size := by omega
      have HA : Hid (n.data.toList.all okC = true) := by
        rw [Hid, List.all_eq_true]
        intro c hc
        obtain ⟨j, hj, rfl⟩ := List.mem_iff_getElem.1 hc
        have hj' : j < n.size := by simpa using hj
        have := HLOW.out j hj' hj'
        rw [Array.getElem_toList]; exact this
      have HNB : Hid (nb = (decide (1 ≤ (n.size : Int)) && decide ((n.size : Int) ≤ 100))) := by
        rw [Hid, HN.out, HA.out, Bool.and_true]
        by_cases a : 1 ≤ n.size
        · by_cases b : n.size ≤ 100
          · rw [decide_eq_true (by omega), decide_eq_true (by omega), decide_eq_true (by omega)]; rfl
          · rw [decide_eq_false (by omega), decide_eq_true (by omega), decide_eq_false (by omega)]; rfl
        · rw [decide_eq_false (by omega), decide_eq_false (by omega)]; rfl
      by_cases a : 1 ≤ (n.size : Int)
      · rw [decide_eq_true a, Bool.true_and] at HNB
        go_wp2
        go_ret
        exact ⟨by rw [HNB.out]; rfl, rfl⟩
      · rw [decide_eq_false a, Bool.false_and] at HNB
        go_wp2
        go_ret
        exact ⟨by rw [HNB.out]; rfl, rfl⟩
end Go.Proofs.YtjhhmljebflanaaDoor
