/- The reference's word and field; programs that came in. -/
import Derived.Test.YtoocagpjcbagoaaDoorPStep2
namespace Go.Proofs.YtoocagpjcbagoaaDoor
set_option linter.unusedVariables false
set_option linter.unusedSimpArgs false
open Go.RowKit

def ST.ok (x : ST) : Prop := (-9223372036854775808 ≤ x.k ∧ x.k ≤ 9223372036854775807) ∧ (-9223372036854775808 ≤ x.n ∧ x.n ≤ 9223372036854775807) ∧ x.s.size ≤ maxLen
structure RT.inw (r : RT) (w : World) : Prop where
  rd : Reads w r.v r.l.length 3 (r.l.flatMap stcells)
  ll : r.l.length ≤ maxLen
  ok : ∀ x ∈ r.l, x.ok
  lb : r.l.length * 32 ≤ 140737488351232
/-- A program of any size. -/
structure PrgU (w : World) (v : Value) (P : List RT) : Prop where
  rd : Reads w v P.length 1 (P.map RT.v)
  each : ∀ r ∈ P, r.inw w
  ll : P.length ≤ maxLen
  lb : P.length * 24 ≤ 140737488351232
theorem RT.inw.later {r : RT} {w w' : World} (h : r.inw w) (hb : Below w.heap.size w w') : r.inw w' := ⟨h.rd.later hb, h.ll, h.ok, h.lb⟩
theorem PrgU.later {w w' : World} {v : Value} {P : List RT} (h : PrgU w v P) (hb : Below w.heap.size w w') : PrgU w' v P :=
  ⟨h.rd.later hb, fun r hr => (h.each r hr).later hb, h.ll, h.lb⟩
theorem PrgU.prg {w : World} {v : Value} {P : List RT} (h : PrgU w v P) (hl : ∀ r ∈ P, r.l.length ≤ 1000000) : Prg w v P := ⟨h.rd, fun r hr => (h.each r hr).rd, hl⟩

set_option maxRecDepth 100000 in
set_option maxHeartbeats 4000000 in
theorem rword_in (k : Nat) (hk : 1 ≤ k ∧ k ≤ 12) (w : World) :
    Calls Tryd.prog 29 #[.int .i64 k] w fun e w' => e = .returned (.string (wordsL.getD k ⟨#[]⟩)) ∧ Below w.heap.size w w' := by
  have hc : k = 1 ∨ k = 2 ∨ k = 3 ∨ k = 4 ∨ k = 5 ∨ k = 6 ∨ k = 7 ∨ k = 8 ∨ k = 9 ∨ k = 10 ∨ k = 11 ∨ k = 12 := by omega
  clear hk
  rcases hc with rfl | rfl | rfl | rfl | rfl | rfl | rfl | rfl | rfl | rfl | rfl | rfl
  all_goals
    go_enter Tryd.func29, Tryd.ntmps29
    go_wp2
    go_ret
    exact ⟨rfl, (Below.refl _ _).alloc (Nat.le_refl _) _⟩
set_option maxRecDepth 100000 in
theorem rword_out (k : Int) (hk : k < 1 ∨ 12 < k) (w : World) :
    Calls Tryd.prog 29 #[.int .i64 k] w fun e w' => e = .returned (.string ⟨#[]⟩) ∧ Below w.heap.size w w' := by
  have hc : k < 1 ∨ (¬ k < 1 ∧ 12 < k) := by omega
  clear hk
  rcases hc with h | ⟨h, h2⟩
  all_goals
    go_enter Tryd.func29, Tryd.ntmps29
    go_wp2
    go_ret
    exact ⟨rfl, Below.refl _ _⟩
def fieldI (k : Nat) : Int := if k = 1 ∨ k = 2 ∨ k = 4 ∨ k = 6 ∨ k = 8 ∨ k = 9 then 1 else if k = 3 ∨ k = 5 ∨ k = 10 ∨ k = 12 then 2 else 0
set_option maxRecDepth 100000 in
set_option maxHeartbeats 4000000 in
theorem rfield_in (k : Nat) (hk : 1 ≤ k ∧ k ≤ 12) (w : World) :
    Calls Tryd.prog 30 #[.int .i64 k] w fun e w' => e = .returned (.int .i64 (fieldI k)) ∧ w' = w := by
  have hc : k = 1 ∨ k = 2 ∨ k = 3 ∨ k = 4 ∨ k = 5 ∨ k = 6 ∨ k = 7 ∨ k = 8 ∨ k = 9 ∨ k = 10 ∨ k = 11 ∨ k = 12 := by omega
  clear hk
  rcases hc with rfl | rfl | rfl | rfl | rfl | rfl | rfl | rfl | rfl | rfl | rfl | rfl
  all_goals
    go_enter Tryd.func30, Tryd.ntmps30
    go_wp2
    go_ret
    exact ⟨rfl, rfl⟩
end Go.Proofs.YtoocagpjcbagoaaDoor
