/- The reference of a disk: what Do computes, and how it ends. -/
import Derived.Test.YtjhhmljebflanaaDoorRf5
import Derived.Test.YtjhhmljebflanaaDoorDRemove
namespace Go.Proofs.YtjhhmljebflanaaDoor
set_option linter.unusedVariables false
set_option linter.unusedSimpArgs false
open Go.RowKit

def outF (l : List DF) (n : ByteArray) : List DF := l.filter fun f => decide (f.name ≠ n)
def insF : List DF → DF → List DF
  | [], r => [r]
  | a :: l, r => if a.name.toList < r.name.toList then a :: insF l r else r :: a :: l
def putF (l : List DF) (f : DF) : List DF := insF (outF l f.name) f
theorem outR_f (R : List RF) (n : ByteArray) : (outR R n).map RF.f = outF (R.map RF.f) n := by
  unfold outR outF
  rw [List.filter_map]; rfl
theorem insR_f (R : List RF) (r : RF) : (insR R r).map RF.f = insF (R.map RF.f) r.f := by
  induction R with
  | nil => rfl
  | cons a l ih =>
    rw [insR, List.map_cons, insF]
    split
    · rw [List.map_cons, ih]
    · rfl
theorem putR_f (R : List RF) (r : RF) : (putR R r).map RF.f = putF (R.map RF.f) r.f := by
  unfold putR putF; rw [insR_f, outR_f]
theorem sumR_f (R : List RF) : sumR R = sumD (R.map RF.f) := by
  unfold sumR sumD; rw [List.map_map]; rfl

/-- What a change begins with. -/
def stepF (D : DS) : DS := { D with plan := max (D.plan - 1) 0 }
def doF (k : Nat) (D : DS) (name to : ByteArray) (b : List UInt8) : DS × Int :=
  if D.down then (D, 10)
  else if D.plan = 1 then ({ D with plan := 0, down := true }, 10)
  else if namedB name = false ∨ (k = 4 ∧ namedB to = false) ∨ (k ≠ 1 ∧ findD D.files name = none) then (stepF D, 6)
  else if k = 1 then (if (findD D.files name).isSome then (stepF D, 7) else ({ stepF D with files := putF D.files ⟨name, [], 0⟩ }, 0))
  else match findD D.files name with
  | none => (stepF D, 6)
  | some f =>
    if k = 2 then (if D.room < sumD D.files + b.length then (stepF D, 5) else ({ stepF D with files := putF D.files ⟨f.name, f.b ++ b, f.d⟩ }, 0))
    else if k = 3 then ({ stepF D with files := putF D.files ⟨f.name, f.b, f.b.length⟩ }, 0)
    else if k = 4 then ({ stepF D with files := putF (outF D.files name) ⟨to, f.b, f.d⟩ }, 0)
    else ({ stepF D with files := outF D.files name }, 0)

def RPost (w : World) (T : Nat → Prop) (r : DS × Int) : Ending → World → Prop := fun e w' =>
  ∃ v' R', e = .returned (.tuple #[rdisk r.1.room v' r.1.plan r.1.down, .int .i64 r.2]) ∧ R'.map RF.f = r.1.files ∧ RLi w' v' R' (fun k => T k ∨ w.heap.size ≤ k) ∧ Below w.heap.size w w'

theorem results_row_tmp1 {P : Program} {fn : Func} {p u : Tmp} {ty : TypeId} (h : fn.results = #[.cell p ty, .tmp u]) (tmps : Array Value) (w : World) (g : Nat) (t : TypeId) (cs : Array Value) (fr : Nat × Nat) (d : TypeDesc)
    (hp : tmps.getD p undef = .pointer (some ⟨g, 0, none⟩)) (hg : w.heap[g]? = some (.cells cs t fr))
    (hu : P.underlying ty = some d) (hd : (match d with | .struct _ | .array _ _ => true | _ => false) = true) (hi : (P.info? ty).map (·.size) = some cs.size) :
    (results fn tmps).run P w = .ok (.tuple #[.agg cs, tmps.getD u undef]) w := by
  rw [results_cell_tmp h, hp]
  simp [asAddr, run_loadVar_row w g t ty cs fr d hg hu hd hi, Result.andThen]

theorem RLi.store {w : World} {v : Value} {R : List RF} {T : Nat → Prop} (h : RLi w v R T) {p : Addr} (hp : ¬ T p.block) (u : Value) : RLi (w.setCell p u) v R T :=
  h.frame (fun k hk _ => Below.heap_setCell _ _ _ _ (fun e => hp (e ▸ hk)))
theorem RLi.tight {w : World} {v : Value} {R : List RF} {T : Nat → Prop} (h : RLi w v R T) : RLi w v R (fun k => T k ∧ k < w.heap.size) :=
  ⟨h.row.tight, fun r hr => ⟨(h.byt r hr).1.tight, (h.byt r hr).2⟩⟩

/-- The blocks of the reference's lists while Do runs: three of Do's own are not among them. -/
abbrev inDo (w : World) (T : Nat → Prop) : Nat → Prop := fun k => (T k ∧ k < w.heap.size) ∨ w.heap.size + 3 ≤ k

set_option maxRecDepth 100000 in
theorem rdo_end {w wz : World} {T : Nat → Prop} {room plan : Int} {down : Bool} {v : Value} {R : List RF} {r : DS × Int} {x0 x1 x2 x3 : Value} (code : Int) (hz : wz.heap[w.heap.size + 1 + 1]? = some (.cells #[x0, x1, x2, x3] 46 (0, 0)))
    (hb : Below w.heap.size w wz) (hr : RLi wz v R (inDo w T)) (he : r = (⟨room, R.map RF.f, plan, down⟩, code)) {tmps : Array Value} (h4 : tmps.getD 4 undef = .pointer (some ⟨w.heap.size + 1 + 1, 0, none⟩)) (h5 : tmps.getD 5 undef = .int .i64 code) :
    bodyPost Tryd.prog Tryd.f33 (RPost w T r) Exit.ret { tmps := tmps, defers := [] } ((((wz.setCell ⟨w.heap.size + 1 + 1, 0, none⟩ (.int .i64 room)).setCell ⟨w.heap.size + 1 + 1, 1, none⟩ v).setCell ⟨w.heap.size + 1 + 1, 2, none⟩ (.int .i64 plan)).setCell ⟨w.heap.size + 1 + 1, 3, none⟩ (.bool down)) := by
  have HRF := heap_store (heap_store (heap_store (heap_store hz 0 (.int .i64 room)) 1 v) 2 (.int .i64 plan)) 3 (.bool down)
  refine bodyPost_ret (results_row_tmp1 (P := Tryd.prog) Tryd.results33 _ _ (w.heap.size + 1 + 1) 46 #[.int .i64 room, v, .int .i64 plan, .bool down] (0, 0) _ h4 HRF Tryd.underlying46 rfl rfl) rfl ?_
  rw [h5, he]
  have hno : ¬ inDo w T (w.heap.size + 1 + 1) := by rintro (h | h) <;> omega
  have hle : w.heap.size ≤ w.heap.size + 1 + 1 := by omega
  refine ⟨v, R, rfl, rfl, ?_, (((hb.setCell (p := ⟨w.heap.size + 1 + 1, 0, none⟩) hle _).setCell (p := ⟨w.heap.size + 1 + 1, 1, none⟩) hle _).setCell (p := ⟨w.heap.size + 1 + 1, 2, none⟩) hle _).setCell (p := ⟨w.heap.size + 1 + 1, 3, none⟩) hle _⟩
  exact ((((hr.store (p := ⟨w.heap.size + 1 + 1, 0, none⟩) hno _).store (p := ⟨w.heap.size + 1 + 1, 1, none⟩) hno _).store (p := ⟨w.heap.size + 1 + 1, 2, none⟩) hno _).store (p := ⟨w.heap.size + 1 + 1, 3, none⟩) hno _).mono (fun k hk => by rcases hk with h | h; exact .inl h.1; exact .inr (by omega))
theorem heap3 (w : World) (x y z : Obj) : ((((w.alloc x).alloc y).alloc z).heap[w.heap.size]? = (w.alloc x).heap[w.heap.size]?) ∧ ((((w.alloc x).alloc y).alloc z).heap[w.heap.size + 1]? = ((w.alloc x).alloc y).heap[(w.alloc x).heap.size]?) ∧ ((((w.alloc x).alloc y).alloc z).heap[w.heap.size + 1 + 1]? = (((w.alloc x).alloc y).alloc z).heap[((w.alloc x).alloc y).heap.size]?) := by
  refine ⟨?_, ?_, ?_⟩
  · rw [Below.heap_alloc _ _ _ (by simp; omega), Below.heap_alloc _ _ _ (by simp)]
  · rw [Below.heap_alloc _ _ _ (by simp), World.size_alloc]
  · simp only [World.size_alloc]
theorem below3 (w : World) (x y z : Obj) : Below w.heap.size w (((w.alloc x).alloc y).alloc z) ∧ (((w.alloc x).alloc y).alloc z).heap.size = w.heap.size + 3 :=
  ⟨(((Below.refl _ _).alloc (Nat.le_refl _) _).alloc (by simp) _).alloc (by simp; omega) _, by simp⟩
end Go.Proofs.YtjhhmljebflanaaDoor
