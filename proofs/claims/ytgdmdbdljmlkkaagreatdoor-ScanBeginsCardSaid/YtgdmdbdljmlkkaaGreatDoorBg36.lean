/- Texts for scanBegins_holds, joined: ROpenE, ScBegI. -/
import Derived.Test.YtgdmdbdljmlkkaaGreatDoorBg33
import Derived.Test.YtgdmdbdljmlkkaaGreatDoorBg35
import Derived.Test.YtgdmdbdljmlkkaaGreatDoorBg30
import Derived.Test.YtgdmdbdljmlkkaaGreatDoorBg32
namespace Go.Proofs.YtgdmdbdljmlkkaaGreatDoor
set_option linter.unusedVariables false
set_option linter.unusedSimpArgs false
open Go.RowKit
theorem results_row_tmp2 {P : Program} {fn : Func} {p u v : Tmp} {ty : TypeId} (h : fn.results = #[.cell p ty, .tmp u, .tmp v]) (tmps : Array Value) (w : World) (g : Nat) (t : TypeId) (cs : Array Value) (fr : Nat × Nat) (d : TypeDesc)
    (hp : tmps.getD p undef = .pointer (some ⟨g, 0, none⟩)) (hg : w.heap[g]? = some (.cells cs t fr))
    (hu : P.underlying ty = some d) (hd : (match d with | .struct _ | .array _ _ => true | _ => false) = true) (hi : (P.info? ty).map (·.size) = some cs.size) :
    (results fn tmps).run P w = .ok (.tuple #[.agg cs, tmps.getD u undef, tmps.getD v undef]) w := by
  have hl := run_loadVar_row w g t ty cs fr d hg hu hd hi
  simp only [results, h]
  simp [Sem.run_bind, Result.andThen, show tmps[p]?.getD undef = _ from by simpa [Array.getD_eq_getD_getElem?] using hp, asAddr, hl]
set_option maxRecDepth 100000 in
theorem set8 {W : World} {B : Nat} {t : TypeId} {x0 x1 x2 x3 x4 x5 x6 x7 : Value} (c0 c1 c2 c3 c4 c5 c6 c7 : Value) (hz : W.heap[B]? = some (.cells #[x0, x1, x2, x3, x4, x5, x6, x7] t (0, 0))) :
    ((((((((W.setCell ⟨B, 0, none⟩ c0).setCell ⟨B, 1, none⟩ c1).setCell ⟨B, 2, none⟩ c2).setCell ⟨B, 3, none⟩ c3).setCell ⟨B, 4, none⟩ c4).setCell ⟨B, 5, none⟩ c5).setCell ⟨B, 6, none⟩ c6).setCell ⟨B, 7, none⟩ c7).heap[B]? = some (.cells #[c0, c1, c2, c3, c4, c5, c6, c7] t (0, 0)) ∧ (∀ k, k ≠ B → ((((((((W.setCell ⟨B, 0, none⟩ c0).setCell ⟨B, 1, none⟩ c1).setCell ⟨B, 2, none⟩ c2).setCell ⟨B, 3, none⟩ c3).setCell ⟨B, 4, none⟩ c4).setCell ⟨B, 5, none⟩ c5).setCell ⟨B, 6, none⟩ c6).setCell ⟨B, 7, none⟩ c7).heap[k]? = W.heap[k]?) ∧ (∀ n w0, Below n w0 W → n ≤ B → Below n w0 ((((((((W.setCell ⟨B, 0, none⟩ c0).setCell ⟨B, 1, none⟩ c1).setCell ⟨B, 2, none⟩ c2).setCell ⟨B, 3, none⟩ c3).setCell ⟨B, 4, none⟩ c4).setCell ⟨B, 5, none⟩ c5).setCell ⟨B, 6, none⟩ c6).setCell ⟨B, 7, none⟩ c7)) := by
  have H0 : (W.setCell ⟨B, 0, none⟩ c0).heap[B]? = some (.cells #[c0, x1, x2, x3, x4, x5, x6, x7] t (0, 0)) := heap_store hz 0 c0
  have H1 : ((W.setCell ⟨B, 0, none⟩ c0).setCell ⟨B, 1, none⟩ c1).heap[B]? = some (.cells #[c0, c1, x2, x3, x4, x5, x6, x7] t (0, 0)) := heap_store H0 1 c1
  have H2 : (((W.setCell ⟨B, 0, none⟩ c0).setCell ⟨B, 1, none⟩ c1).setCell ⟨B, 2, none⟩ c2).heap[B]? = some (.cells #[c0, c1, c2, x3, x4, x5, x6, x7] t (0, 0)) := heap_store H1 2 c2
  have H3 : ((((W.setCell ⟨B, 0, none⟩ c0).setCell ⟨B, 1, none⟩ c1).setCell ⟨B, 2, none⟩ c2).setCell ⟨B, 3, none⟩ c3).heap[B]? = some (.cells #[c0, c1, c2, c3, x4, x5, x6, x7] t (0, 0)) := heap_store H2 3 c3
  have H4 : (((((W.setCell ⟨B, 0, none⟩ c0).setCell ⟨B, 1, none⟩ c1).setCell ⟨B, 2, none⟩ c2).setCell ⟨B, 3, none⟩ c3).setCell ⟨B, 4, none⟩ c4).heap[B]? = some (.cells #[c0, c1, c2, c3, c4, x5, x6, x7] t (0, 0)) := heap_store H3 4 c4
  have H5 : ((((((W.setCell ⟨B, 0, none⟩ c0).setCell ⟨B, 1, none⟩ c1).setCell ⟨B, 2, none⟩ c2).setCell ⟨B, 3, none⟩ c3).setCell ⟨B, 4, none⟩ c4).setCell ⟨B, 5, none⟩ c5).heap[B]? = some (.cells #[c0, c1, c2, c3, c4, c5, x6, x7] t (0, 0)) := heap_store H4 5 c5
  have H6 : (((((((W.setCell ⟨B, 0, none⟩ c0).setCell ⟨B, 1, none⟩ c1).setCell ⟨B, 2, none⟩ c2).setCell ⟨B, 3, none⟩ c3).setCell ⟨B, 4, none⟩ c4).setCell ⟨B, 5, none⟩ c5).setCell ⟨B, 6, none⟩ c6).heap[B]? = some (.cells #[c0, c1, c2, c3, c4, c5, c6, x7] t (0, 0)) := heap_store H5 6 c6
  have H7 : ((((((((W.setCell ⟨B, 0, none⟩ c0).setCell ⟨B, 1, none⟩ c1).setCell ⟨B, 2, none⟩ c2).setCell ⟨B, 3, none⟩ c3).setCell ⟨B, 4, none⟩ c4).setCell ⟨B, 5, none⟩ c5).setCell ⟨B, 6, none⟩ c6).setCell ⟨B, 7, none⟩ c7).heap[B]? = some (.cells #[c0, c1, c2, c3, c4, c5, c6, c7] t (0, 0)) := heap_store H6 7 c7
  refine ⟨H7, fun k hne => ?_, fun n w0 hb hle => ?_⟩
  · rw [Below.heap_setCell _ _ _ _ hne, Below.heap_setCell _ _ _ _ hne, Below.heap_setCell _ _ _ _ hne, Below.heap_setCell _ _ _ _ hne, Below.heap_setCell _ _ _ _ hne, Below.heap_setCell _ _ _ _ hne, Below.heap_setCell _ _ _ _ hne, Below.heap_setCell _ _ _ _ hne]
  · exact ((((((((hb.setCell (p := ⟨B, 0, none⟩) hle _).setCell (p := ⟨B, 1, none⟩) hle _).setCell (p := ⟨B, 2, none⟩) hle _).setCell (p := ⟨B, 3, none⟩) hle _).setCell (p := ⟨B, 4, none⟩) hle _).setCell (p := ⟨B, 5, none⟩) hle _).setCell (p := ⟨B, 6, none⟩) hle _).setCell (p := ⟨B, 7, none⟩) hle _)
end Go.Proofs.YtgdmdbdljmlkkaaGreatDoor
namespace Go.Proofs.YtgdmdbdljmlkkaaGreatDoor
set_option linter.unusedVariables false
set_option linter.unusedSimpArgs false
open Go.RowKit
/-- The reference's log after Open, and its records. -/
def rlogOf (D' : DS) (f : FR) (most : Int) (e : Int) : LS :=
  if f.code ≠ 0 then ⟨0, 0, 0, 0, D'⟩
  else if f.last = 0 then ⟨1, 0, 0, most, D'⟩
  else if e ≠ 0 then ⟨0, 0, 0, 0, D'⟩
  else ⟨f.last, f.front.length, 0, most, D'⟩
def rrecsOf (f : FR) (e : Int) : List (List UInt8) := if f.code ≠ 0 then [] else if f.last = 0 then [] else if e ≠ 0 then [] else f.recs
def ROpenP (R : List RF) (w : World) (T : Nat → Prop) (f : FR) (most : Int) (r : DS × Int) : Ending → World → Prop := fun e w' =>
  ∃ (a : Option Addr) (c : Nat) (R' : List RF) (vr : Option Addr) (cr : Nat) (X : List SL),
    e = .returned (.tuple #[rlog (.slice a R'.length c) (rlogOf r.1 f most r.2), .slice vr X.length cr, .int .i64 r.2]) ∧ R'.map RF.f = r.1.files ∧ RLi w' (.slice a R'.length c) R' (fun k => T k ∨ w.heap.size ≤ k) ∧
    Row w' 72 1 (.slice vr X.length cr) X.length (X.map SL.v) (fun k => w.heap.size ≤ k) ∧ (∀ x ∈ X, RdR R x) ∧ X.map SL.l = rrecsOf f r.2 ∧ X.length ≤ 13000000 ∧ Below w.heap.size w w'
/-- Changes laid down in a row of one's own, with bytes that could be read in the beginning. -/
structure OpsL (w0 w : World) (v : Value) (P : List RO) (B : Nat) : Prop where
  row : Row w 112 4 v P.length (P.flatMap opcells) (fun k => B ≤ k)
  each : ∀ r ∈ P, Reads w0 (.slice r.a r.o.b.length r.c) r.o.b.length 1 (byts r.o.b)
  good : ∀ r ∈ P, (1 ≤ r.o.k ∧ r.o.k ≤ 5) ∧ r.o.n.size ≤ 100000 ∧ r.o.t.size ≤ 100000
theorem OpsL.ros {w0 w : World} {v : Value} {P : List RO} {B : Nat} (h : OpsL w0 w v P B) (hb : Below w0.heap.size w0 w) : ROs w v P := ⟨h.row.reads, fun r hr => (h.each r hr).later hb, h.good⟩
theorem OpsL.later {w0 w w' : World} {v : Value} {P : List RO} {B : Nat} (h : OpsL w0 w v P B) (hb : Below w.heap.size w w') : OpsL w0 w' v P B := ⟨h.row.frame (fun k _ hk => hb.block k hk), h.each, h.good⟩
theorem OpsL.snoc {w0 w w1 w5 : World} {v v5 : Value} {P Q : List RO} {B m : Nat} {news : List Value} {S : Nat → Prop} (h : OpsL w0 w v P B) (hr : Row w5 112 4 v5 (P.length + m) (P.flatMap opcells ++ news) (fun k => S k ∨ w1.heap.size ≤ k)) (hS : ∀ k, S k → B ≤ k) (hw : B ≤ w1.heap.size) (hm : m = Q.length) (hn : news = Q.flatMap opcells)
    (h1 : ∀ r ∈ Q, Reads w0 (.slice r.a r.o.b.length r.c) r.o.b.length 1 (byts r.o.b)) (h2 : ∀ r ∈ Q, (1 ≤ r.o.k ∧ r.o.k ≤ 5) ∧ r.o.n.size ≤ 100000 ∧ r.o.t.size ≤ 100000) : OpsL w0 w5 v5 (P ++ Q) B := by
  subst hm hn
  refine ⟨?_, fun r hr => ?_, fun r hr => ?_⟩
  · rw [List.length_append, List.flatMap_append]
    exact hr.mono (fun k hk => by rcases hk with hk | hk; exact hS k hk; omega)
  · rcases List.mem_append.1 hr with hr | hr
    · exact h.each r hr
    · exact h1 r hr
  · rcases List.mem_append.1 hr with hr | hr
    · exact h.good r hr
    · exact h2 r hr
theorem opsl_clean {w0 w : World} {v : Value} {D : DS} {ss : List ByteArray} {B C : Nat} (hr : Row w 112 4 v (cleanL D ss).length (((cleanL D ss).map bareO).flatMap opcells) (fun k => C ≤ k)) (hB : B ≤ C) (hs : ∀ n ∈ ss, n.size ≤ 100000) : OpsL w0 w v ((cleanL D ss).map bareO) B := by
  refine ⟨?_, fun r hr => ?_, fun r hr => ?_⟩
  · rw [List.length_map]; exact hr.mono (fun k hk => by omega)
  · obtain ⟨o, ho, rfl⟩ := List.mem_map.1 hr
    obtain ⟨n, hn, rfl⟩ := List.mem_map.1 ho
    exact Reads.nil _ _
  · obtain ⟨o, ho, rfl⟩ := List.mem_map.1 hr
    obtain ⟨n, hn, rfl⟩ := List.mem_map.1 ho
    exact ⟨⟨show 1 ≤ 5 by decide, show 5 ≤ 5 by decide⟩, hs n (List.mem_filter.1 hn).1, show (⟨#[]⟩ : ByteArray).size ≤ 100000 by decide⟩
theorem byts_take (l : List UInt8) (k : Nat) : byts (l.take k) = (byts l).take k := List.map_take ..
theorem bareO_o (l : List OP) : (l.map bareO).map RO.o = l := by rw [List.map_map]; exact List.map_id _
theorem bytsO_append (P Q : List RO) : bytsO (P ++ Q) = bytsO P + bytsO Q := by unfold bytsO; rw [List.map_append, List.sum_append]
theorem bytsO_clean (D : DS) (ss : List ByteArray) : bytsO ((cleanL D ss).map bareO) = 0 := by
  unfold cleanL bytsO
  induction (List.filter (fun n => (findD D.files n).isSome) ss) with
  | nil => rfl
  | cons a l ih => simpa using ih
theorem reads_twoS (w : World) (x y : Value) (T : TypeId) : Reads (w.alloc (.cells #[x, y] T)) (.slice (some ⟨w.heap.size, 0, none⟩) 2 2) 2 1 [x, y] := Reads.block (heap_alloc_new w _) 2 1 rfl
set_option maxRecDepth 100000 in
theorem ropen_core {R : List RF} {w W : World} {T : Nat → Prop} {f : FR} {most : Int} {r : DS × Int} {a vr : Option Addr} {c cr : Nat} {R' : List RF} {X : List SL} {room plan most' n size waiting : Int} {down : Bool}
    (H : W.heap[w.heap.size + 1]? = some (.cells #[.int .i64 room, .slice a R'.length c, .int .i64 plan, .bool down, .int .i64 most', .int .i64 n, .int .i64 size, .int .i64 waiting] 34 (0, 0))) (hb : Below w.heap.size w W) (hr : RLi W (.slice a R'.length c) R' (fun k => T k ∨ w.heap.size ≤ k))
    (hX : Row W 72 1 (.slice vr X.length cr) X.length (X.map SL.v) (fun k => w.heap.size ≤ k)) (hxx : ∀ x ∈ X, RdR R x) (hxl : X.map SL.l = rrecsOf f r.2) (hxn : X.length ≤ 13000000)
    (hM : (⟨n, size, waiting, most', ⟨room, R'.map RF.f, plan, down⟩⟩ : LS) = rlogOf r.1 f most r.2) (hrf : R'.map RF.f = r.1.files)
    {tmps : Array Value} (h4 : tmps.getD 4 undef = .pointer (some ⟨w.heap.size + 1, 0, none⟩)) (h5 : tmps.getD 5 undef = .slice vr X.length cr) (h6 : tmps.getD 6 undef = .int .i64 r.2) :
    bodyPost Tryz.prog Tryz.f28 (ROpenP R w T f most r) Exit.ret { tmps := tmps, defers := [] } W := by
  refine bodyPost_ret (results_row_tmp2 (P := Tryz.prog) Tryz.results28 _ _ (w.heap.size + 1) 34 _ (0, 0) _ h4 H Tryz.underlying34 rfl rfl) rfl ?_
  rw [h5, h6]
  exact ⟨a, c, R', vr, cr, X, by rw [← hM], hrf, hr, hX, hxx, hxl, hxn, hb⟩
set_option maxRecDepth 100000 in
theorem ropen_end {R : List RF} {w wz : World} {T TT : Nat → Prop} {f : FR} {most : Int} {r : DS × Int} {x0 x1 x2 x3 x4 x5 x6 x7 : Value} {a vr : Option Addr} {c cr : Nat} {R' : List RF} {X : List SL} {room plan most' n size waiting : Int} {down : Bool}
    (hz : wz.heap[w.heap.size + 1]? = some (.cells #[x0, x1, x2, x3, x4, x5, x6, x7] 34 (0, 0))) (hb : Below w.heap.size w wz) (hr : RLi wz (.slice a R'.length c) R' TT) (hTT : ∀ k, TT k → T k ∨ w.heap.size ≤ k) (hno : ¬ TT (w.heap.size + 1))
    (hX : Row wz 72 1 (.slice vr X.length cr) X.length (X.map SL.v) (fun k => w.heap.size + 2 ≤ k)) (hxx : ∀ x ∈ X, RdR R x) (hxl : X.map SL.l = rrecsOf f r.2) (hxn : X.length ≤ 13000000)
    (hM : (⟨n, size, waiting, most', ⟨room, R'.map RF.f, plan, down⟩⟩ : LS) = rlogOf r.1 f most r.2) (hrf : R'.map RF.f = r.1.files)
    {tmps : Array Value} (h4 : tmps.getD 4 undef = .pointer (some ⟨w.heap.size + 1, 0, none⟩)) (h5 : tmps.getD 5 undef = .slice vr X.length cr) (h6 : tmps.getD 6 undef = .int .i64 r.2) :
    bodyPost Tryz.prog Tryz.f28 (ROpenP R w T f most r) Exit.ret { tmps := tmps, defers := [] } ((((((((wz.setCell ⟨w.heap.size + 1, 0, none⟩ (.int .i64 room)).setCell ⟨w.heap.size + 1, 1, none⟩ (.slice a R'.length c)).setCell ⟨w.heap.size + 1, 2, none⟩ (.int .i64 plan)).setCell ⟨w.heap.size + 1, 3, none⟩ (.bool down)).setCell ⟨w.heap.size + 1, 4, none⟩ (.int .i64 most')).setCell ⟨w.heap.size + 1, 5, none⟩ (.int .i64 n)).setCell ⟨w.heap.size + 1, 6, none⟩ (.int .i64 size)).setCell ⟨w.heap.size + 1, 7, none⟩ (.int .i64 waiting)) := by
  obtain ⟨H, hk, hB⟩ := set8 (.int .i64 room) (.slice a R'.length c) (.int .i64 plan) (.bool down) (.int .i64 most') (.int .i64 n) (.int .i64 size) (.int .i64 waiting) hz
  have hb' := hB _ _ hb (by omega)
  have hr' := hr.frame (fun k hk' _ => hk k (fun e => hno (e ▸ hk')))
  have hX' := (hX.frame (fun k hk' _ => hk k (by omega))).mono (T := fun k => w.heap.size ≤ k) (fun k hk' => by omega)
  clear hk hB hz hb hr hX
  exact ropen_core H hb' (hr'.mono hTT) hX' hxx hxl hxn hM hrf h4 h5 h6
set_option maxRecDepth 100000 in
theorem ropen_end_drew {R : List RF} {w wz : World} {T TT : Nat → Prop} {f : FR} {most : Int} {r : DS × Int} {x0 x1 x2 x3 x4 x5 x6 x7 : Value} {a vr : Option Addr} {c cr : Nat} {R' : List RF} {X : List SL} {room plan most' n size waiting : Int} {down : Bool}
    (hz : wz.heap[w.heap.size + 1]? = some (.cells #[x0, x1, x2, x3, x4, x5, x6, x7] 34 (0, 0))) (hb : Below w.heap.size w wz) (hr : RLi wz (.slice a R'.length c) R' TT) (hTT : ∀ k, TT k → T k ∨ w.heap.size ≤ k) (hno : ¬ TT (w.heap.size + 1))
    (hX : Row wz 72 1 (.slice vr X.length cr) X.length (X.map SL.v) (fun k => w.heap.size + 2 ≤ k)) (hxx : ∀ x ∈ X, RdR R x) (hxl : X.map SL.l = rrecsOf f r.2) (hxn : X.length ≤ 13000000)
    (hM : (⟨n, size, waiting, most', ⟨room, R'.map RF.f, plan, down⟩⟩ : LS) = rlogOf r.1 f most r.2) (hrf : R'.map RF.f = r.1.files)
    {W : World} (hW : ((((((((wz.setCell ⟨w.heap.size + 1, 0, none⟩ (.int .i64 room)).setCell ⟨w.heap.size + 1, 1, none⟩ (.slice a R'.length c)).setCell ⟨w.heap.size + 1, 2, none⟩ (.int .i64 plan)).setCell ⟨w.heap.size + 1, 3, none⟩ (.bool down)).setCell ⟨w.heap.size + 1, 4, none⟩ (.int .i64 most')).setCell ⟨w.heap.size + 1, 5, none⟩ (.int .i64 n)).setCell ⟨w.heap.size + 1, 6, none⟩ (.int .i64 size)).setCell ⟨w.heap.size + 1, 7, none⟩ (.int .i64 waiting)) = W)
    {tmps : Array Value} (h4 : tmps.getD 4 undef = .pointer (some ⟨w.heap.size + 1, 0, none⟩)) (h5 : tmps.getD 5 undef = .slice vr X.length cr) (h6 : tmps.getD 6 undef = .int .i64 r.2) :
    bodyPost Tryz.prog Tryz.f28 (ROpenP R w T f most r) Exit.ret { tmps := tmps, defers := [] } W.drew := by
  obtain ⟨H, hk, hB⟩ := set8 (.int .i64 room) (.slice a R'.length c) (.int .i64 plan) (.bool down) (.int .i64 most') (.int .i64 n) (.int .i64 size) (.int .i64 waiting) hz
  rw [hW] at H hB
  simp only [hW] at hk
  have hb' := hB _ _ hb (by omega)
  have hr' := hr.frame (fun k hk' _ => hk k (fun e => hno (e ▸ hk')))
  have hX' := (hX.frame (fun k hk' _ => hk k (by omega))).mono (T := fun k => w.heap.size ≤ k) (fun k hk' => by omega)
  clear hk hB hz hb hr hX
  exact ropen_core (W := World.drew _) H hb'.drew ((hr'.mono hTT).frame (fun _ _ _ => rfl)) (hX'.frame (fun _ _ _ => rfl)) hxx hxl hxn hM hrf h4 h5 h6
end Go.Proofs.YtgdmdbdljmlkkaaGreatDoor
namespace Go.Proofs.YtgdmdbdljmlkkaaGreatDoor
set_option linter.unusedVariables false
set_option linter.unusedSimpArgs false
open Go.RowKit
/-- append at a guarded step of a region that draws. -/
theorem step_rowW {P : Program} {t e : TypeId} {z : Value} {size bytes : Nat} (hE : ElemOf P t e z size bytes) {ops : Array Oper} {o : Oper} {a : Act} {w : World} {K : Act → World → Prop} {Q : Exit → Act → World → Prop} {E : Prop}
    (hw : Region.wanted o (yielded ops a.tmps) = true) {s x : Operand} (ho : o.op = Op.call { callee := Callee.builtin Builtin.append, args := #[s, x], argTypes := #[t, t] })
    {S : Nat → Prop} {v : Value} {n : Nat} {xs : List Value} (hs : a.eval s = v) (hown : Row w e size v n xs S)
    {y : Value} {m : Nat} {news : List Value} (hx : a.eval x = y) (hy : Reads w y m size news) (h1 : ∀ u ∈ news, u.oneCell' = true)
    (h63 : n + m ≤ maxLen) (hbytes : (n + m) * bytes ≤ 140737488355328)
    (h : ∀ v' w', Row w' e size v' (n + m) (xs ++ news) (fun k => S k ∨ w.heap.size ≤ k) → Chg S w w' → K (a.put o.dst v') w') :
    if Region.wanted o (yielded ops a.tmps) = true then Oper.wp P o a w K Q else E := by
  rw [if_pos hw]
  subst hs; subst hx
  obtain ⟨v', w', hrun, r1, r2⟩ := run_append_row hE o.type w S _ n xs hown _ m news hy h1 h63 hbytes
  unfold Oper.wp
  simp [execOp, ho, resolve, invoke, builtin, hrun, Result.andThen]
  exact h v' w' r1 r2
/-- A log that lives goes on where other blocks are changed. -/
theorem Live8.off {w0 w w' : World} {bl bx : Nat} {L : LS} {room most : Int} {s : Seg} {q : Nat} {S T : Nat → Prop} (h : Live8 w0 w bl bx L room most s q S) (hc : Chg T w w') (hT : ∀ k, k < w.heap.size → T k → w0.heap.size ≤ k ∧ ¬ S k) : Live8 w0 w' bl bx L room most s q S where
  log := h.log.frame (fun k hk hlt => hc.block k hlt (fun e => (hT k hlt e).2 hk))
  sub := fun k hk => ⟨(h.sub k hk).1, Nat.lt_of_lt_of_le (h.sub k hk).2 hc.size⟩
  rel := h.rel
  bnd := h.bnd
  bel := h.bel.trans (hc.toBelow h.bel.size (fun k hk e => by have := hT k (Nat.lt_of_lt_of_le hk h.bel.size) e; omega))
  good := h.good
/-- The reference's log in the block bt. -/
structure BegR (w0 w : World) (bt : Nat) (most : Int) (s : Seg) (T : Nat → Prop) (a : Option Addr) (c : Nat) (R : List RF) : Prop where
  box : w.heap[bt]? = some (.cells (lcells (.slice a R.length c) (segL 100000 most s)) 34 (0, 0))
  lst : RLi w (.slice a R.length c) R T
  rf : R.map RF.f = s.files
  sT : ∀ k, T k → w0.heap.size ≤ k ∧ k < w.heap.size ∧ k ≠ bt
  bt0 : w0.heap.size ≤ bt
theorem BegR.off {w0 w w' : World} {bt : Nat} {most : Int} {s : Seg} {T X : Nat → Prop} {a : Option Addr} {c : Nat} {R : List RF} (h : BegR w0 w bt most s T a c R) (hc : Chg X w w') (hX : ∀ k, k < w.heap.size → X k → ¬ T k ∧ k ≠ bt) : BegR w0 w' bt most s T a c R where
  box := (hc.block bt (lt_of_heap h.box) (fun e => (hX bt (lt_of_heap h.box) e).2 rfl)).trans h.box
  lst := h.lst.frame (fun k hk hl => hc.block k hl (fun e => (hX k hl e).1 hk))
  rf := h.rf
  sT := fun k hk => ⟨(h.sT k hk).1, Nat.lt_of_lt_of_le (h.sT k hk).2.1 hc.size, (h.sT k hk).2.2⟩
  bt0 := h.bt0
/-- What was taken. -/
structure BegW (w0 w : World) (W : List SL) (v : Value) (V : Nat → Prop) : Prop where
  row : Row w 72 1 v W.length (W.map SL.v) V
  sub : ∀ k, V k → w0.heap.size ≤ k ∧ k < w.heap.size
  each : ∀ x ∈ W, Reads w0 x.v x.l.length 1 (byts x.l)
theorem BegW.off {w0 w w' : World} {W : List SL} {v : Value} {V X : Nat → Prop} (h : BegW w0 w W v V) (hc : Chg X w w') (hX : ∀ k, k < w.heap.size → X k → ¬ V k) : BegW w0 w' W v V where
  row := h.row.frame (fun k hk hl => hc.block k hl (fun e => hX k hl e hk))
  sub := fun k hk => ⟨(h.sub k hk).1, Nat.lt_of_lt_of_le (h.sub k hk).2 hc.size⟩
  each := h.each
set_option maxRecDepth 100000 in
/-- The reference's log behind a call, stored into its block. -/
theorem BegR.set {w0 w w1 W2 : World} {bt : Nat} {most : Int} {s s' : Seg} {T : Nat → Prop} {a a' : Option Addr} {c c' : Nat} {R R' : List RF} {M' : LS} (h : BegR w0 w bt most s T a c R) (hM : M' = segL 100000 most s') (hf : R'.map RF.f = s'.files) (hr : RLi w1 (.slice a' R'.length c') R' (fun k => T k ∨ w.heap.size ≤ k)) (hb : Below w.heap.size w w1)
    (hW : ((((((((w1.setCell ⟨bt, 0, none⟩ (.int .i64 M'.D.room)).setCell ⟨bt, 1, none⟩ (.slice a' R'.length c')).setCell ⟨bt, 2, none⟩ (.int .i64 M'.D.plan)).setCell ⟨bt, 3, none⟩ (.bool M'.D.down)).setCell ⟨bt, 4, none⟩ (.int .i64 M'.most)).setCell ⟨bt, 5, none⟩ (.int .i64 M'.n)).setCell ⟨bt, 6, none⟩ (.int .i64 M'.size)).setCell ⟨bt, 7, none⟩ (.int .i64 M'.waiting)) = W2) :
    BegR w0 W2 bt most s' (fun k => (T k ∨ w.heap.size ≤ k) ∧ k < w1.heap.size) a' c' R' ∧ Chg (fun k => k = bt) w W2 := by
  have hlt := lt_of_heap h.box
  have hw0 : w0.heap.size ≤ w.heap.size := by have := h.bt0; omega
  have hz := (hb.block bt hlt).trans h.box
  obtain ⟨H, hk, hB⟩ := set8 (.int .i64 M'.D.room) (.slice a' R'.length c') (.int .i64 M'.D.plan) (.bool M'.D.down) (.int .i64 M'.most) (.int .i64 M'.n) (.int .i64 M'.size) (.int .i64 M'.waiting) hz
  have hs := hb.size
  have hbt : Below bt w W2 := by
    rw [← hW]
    exact hB bt w ⟨hb.os, hb.tape, hb.output, hb.size, fun k hk => hb.block k (by omega)⟩ (Nat.le_refl _)
  rw [hW] at H hk
  have hsz : W2.heap.size = w1.heap.size := by
    rw [← hW]; simp only [World.size_setCell]
  have hno : ¬ ((T bt ∨ w.heap.size ≤ bt) ∧ bt < w1.heap.size) := by
    rintro ⟨h1 | h1, -⟩
    · exact (h.sT bt h1).2.2 rfl
    · omega
  refine ⟨⟨by rw [← hM]; exact H, hr.tight.frame (fun k hk' _ => hk k (fun e => hno (e ▸ hk'))), hf, fun k hk' => ?_, h.bt0⟩, hbt.os, hbt.tape, hbt.output, by rw [hsz]; exact hs, fun k hk' hne => ?_⟩
  · refine ⟨?_, by rw [hsz]; exact hk'.2, fun e => hno (e ▸ hk')⟩
    rcases hk'.1 with h1 | h1
    · exact (h.sT k h1).1
    · omega
  · exact (hk k hne).trans (hb.block k hk')
/-- The records that were taken so far. -/
structure BegS (most : Int) (s : Seg) (W : List SL) (i b du : Nat) : Prop where
  run : RunI most s i b
  all : W.map SL.l = s.all
  ne : ∀ r ∈ s.all, r ≠ []
  dur : du + s.wt ≤ s.all.length
  wl : W.length ≤ i
theorem BegS.no {most : Int} {s : Seg} {W : List SL} {i b du : Nat} (h : BegS most s W i b du) (hi : i ≤ 300) {r : List UInt8} (hr : r.length ≤ 2000) (ht : takes most r = false) : BegS most (stepS most s r).1 W (i + 1) (b + r.length) du := by
  have hal : (stepS most s r).1.all = s.all := by rw [stepS_all, ht]; simp
  exact ⟨h.run.step hi r hr, by rw [hal]; exact h.all, by rw [hal]; exact h.ne, stepS_wt r h.dur, by have := h.wl; omega⟩
theorem BegS.yes {most : Int} {s : Seg} {W : List SL} {i b du : Nat} (h : BegS most s W i b du) (hi : i ≤ 300) {r : List UInt8} {x : SL} (hx : x.l = r) (hr : r.length ≤ 2000) (ht : takes most r = true) : BegS most (stepS most s r).1 (W ++ [x]) (i + 1) (b + r.length) du := by
  have hal : (stepS most s r).1.all = s.all ++ [r] := by rw [stepS_all, ht, if_pos rfl]
  refine ⟨h.run.step hi r hr, by rw [hal, List.map_append, h.all]; simp [hx], fun y hy => ?_, stepS_wt r h.dur, by have := h.wl; simp; omega⟩
  rw [hal] at hy
  rcases List.mem_append.1 hy with hy | hy
  · exact h.ne y hy
  · rw [List.mem_singleton.1 hy]
    exact (of_decide_eq_true ht).1
theorem BegS.sync {most : Int} {s : Seg} {W : List SL} {i b du : Nat} (h : BegS most s W i b du) : BegS most { s with wt := 0 } W i b W.length :=
  ⟨h.run.synced, h.all, h.ne, by
    have := congrArg List.length h.all
    rw [List.length_map] at this
    show W.length + 0 ≤ s.all.length
    omega, h.wl⟩
theorem BegS.zero (most : Int) : BegS most seg0 [] 0 0 0 := ⟨runI_0 most, rfl, by simp [seg0, Seg.all], Nat.le_refl _, Nat.le_refl _⟩
theorem openSR_new (room : Int) : openS doR ⟨room, [], 0, false⟩ = (⟨room, [⟨nameI 1, [], 0⟩], 0, false⟩, 0) := by
  unfold openS
  have hf : findS ⟨room, [], 0, false⟩ = FR.bad 0 := by
    unfold findS
    rw [if_neg (by simp)]
    unfold findG
    rw [if_pos (by unfold segsD; rfl)]
  rw [hf]
  have hw : wipeG doR ⟨room, [], 0, false⟩ [cutNm, newNm] = (⟨room, [], 0, false⟩, 0) := rfl
  unfold openG
  rw [if_neg (by simp [FR.bad]), hw]
  unfold seqG endG
  rw [if_neg (by simp), if_pos (show (FR.bad 0).last = 0 from rfl)]
  exact doF_new room
end Go.Proofs.YtgdmdbdljmlkkaaGreatDoor
