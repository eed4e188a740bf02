/- Few: a program that is small has few steps. -/
import Derived.Test.YtccnmoicckjfbaaGreatDoorPConcat
namespace Go.Proofs.YtccnmoicckjfbaaGreatDoor
set_option linter.unusedVariables false
set_option linter.unusedSimpArgs false
open Go.RowKit

set_option maxRecDepth 100000 in
theorem few_split (M : Nat) : ∀ P : List RT, (∀ r ∈ P, r.l.length ≤ M) → ∃ k, (allS P).length ≤ minS P + k * M ∧ k * 300 ≤ minS P
  | [], _ => ⟨0, by simp [allS, minS]⟩
  | r :: P, h => by
    obtain ⟨k, h1, h2⟩ := few_split M P (fun x hx => h x (List.mem_cons_of_mem _ hx))
    have hr := h r List.mem_cons_self
    have e1 : (allS (r :: P)).length = r.l.length + (allS P).length := by simp [allS]
    have e2 : minS (r :: P) = min r.l.length 300 + minS P := by simp [minS]
    rw [e1, e2]
    rcases Nat.lt_or_ge r.l.length 300 with h3 | h3
    · exact ⟨k, by omega, by omega⟩
    · refine ⟨k + 1, ?_, ?_⟩
      · rw [Nat.add_mul]; omega
      · omega
set_option maxRecDepth 100000 in
theorem few_fin (M s n k : Nat) (h1 : n ≤ s + k * M) (h2 : k * 300 ≤ s) (hs : s ≤ 400) : n ≤ M + 400 := by
  rcases k with _ | _ | k
  · omega
  · omega
  · omega
theorem few_all {w : World} {v : Value} {P : List RT} (h : PrgU w v P) (hm : minS P ≤ 400) : (allS P).length ≤ 4398046600000 := by
  obtain ⟨M, hM⟩ : ∃ M : Nat, M = 4398046510976 := ⟨_, rfl⟩
  obtain ⟨k, h1, h2⟩ := few_split M P (fun r hr => by have := (h.each r hr).lb; omega)
  have := few_fin M _ _ k h1 h2 hm
  omega
end Go.Proofs.YtccnmoicckjfbaaGreatDoor
