/- Programs that came in. -/
import Derived.Test.YtccnmoicckjfbaaGreatDoorPAlive
namespace Go.Proofs.YtccnmoicckjfbaaGreatDoor
set_option linter.unusedVariables false
set_option linter.unusedSimpArgs false
open Go.RowKit

def ST.ok (x : ST) : Prop := (-9223372036854775808 ≤ x.k ∧ x.k ≤ 9223372036854775807) ∧ (-9223372036854775808 ≤ x.n ∧ x.n ≤ 9223372036854775807) ∧ x.s.size ≤ maxLen
structure RT.inw (r : RT) (w : World) : Prop where
  rd : Reads w r.v r.l.length 3 (r.l.flatMap stcells)
  ll : r.l.length ≤ maxLen
  ok : ∀ x ∈ r.l, x.ok
  lb : r.l.length * 32 ≤ 140737488351232
/-- A program of any size. -/
structure PrgU (w : World) (v : Value) (P : List RT) : Prop where
  rd : Reads w v P.length 1 (P.map RT.v)
  each : ∀ r ∈ P, r.inw w
  ll : P.length ≤ maxLen
  lb : P.length * 24 ≤ 140737488351232
theorem RT.inw.later {r : RT} {w w' : World} (h : r.inw w) (hb : Below w.heap.size w w') : r.inw w' := ⟨h.rd.later hb, h.ll, h.ok, h.lb⟩
theorem PrgU.later {w w' : World} {v : Value} {P : List RT} (h : PrgU w v P) (hb : Below w.heap.size w w') : PrgU w' v P :=
  ⟨h.rd.later hb, fun r hr => (h.each r hr).later hb, h.ll, h.lb⟩
theorem PrgU.prg {w : World} {v : Value} {P : List RT} (h : PrgU w v P) (hl : ∀ r ∈ P, r.l.length ≤ 1000000) : Prg w v P := ⟨h.rd, fun r hr => (h.each r hr).rd, hl⟩

end Go.Proofs.YtccnmoicckjfbaaGreatDoor
