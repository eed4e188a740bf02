/- ROpenE, ROpen0 -/
import Derived.Test.YtgdmdbdljmlkkaaGreatDoorTz33
import Derived.Deep.DrawnRows
set_option maxRecDepth 100000
set_option linter.unusedVariables false
set_option linter.unusedSimpArgs false
namespace Go.Proofs.YtgdmdbdljmlkkaaGreatDoor
open Go.RowKit
theorem results_row_tmp2 {P : Program} {fn : Func} {p u v : Tmp} {ty : TypeId} (h : fn.results = #[.cell p ty, .tmp u, .tmp v]) (tmps : Array Value) (w : World) (g : Nat) (t : TypeId) (cs : Array Value) (fr : Nat × Nat) (d : TypeDesc)
   (hp : tmps.getD p undef = .pointer (some ⟨g, 0, none⟩)) (hg : w.heap[g]? = some (.cells cs t fr))
   (hu : P.underlying ty = some d) (hd : (match d with | .struct _ | .array _ _ => true | _ => false) = true) (hi : (P.info? ty).map (·.size) = some cs.size) :
   (results fn tmps).run P w = .ok (.tuple #[.agg cs, tmps.getD u undef, tmps.getD v undef]) w := by
 have hl := run_loadVar_row w g t ty cs fr d hg hu hd hi
 simp only [results, h]
 simp [Sem.run_bind, Result.andThen, show tmps[p]?.getD undef = _ from by simpa [Array.getD_eq_getD_getElem?] using hp, asAddr, hl]
theorem set8 {W : World} {B : Nat} {t : TypeId} {x0 x1 x2 x3 x4 x5 x6 x7 : Value} (c0 c1 c2 c3 c4 c5 c6 c7 : Value) (hz : W.heap[B]? = some (.cells #[x0, x1, x2, x3, x4, x5, x6, x7] t (0, 0))) :
   ((((((((W.setCell ⟨B, 0, none⟩ c0).setCell ⟨B, 1, none⟩ c1).setCell ⟨B, 2, none⟩ c2).setCell ⟨B, 3, none⟩ c3).setCell ⟨B, 4, none⟩ c4).setCell ⟨B, 5, none⟩ c5).setCell ⟨B, 6, none⟩ c6).setCell ⟨B, 7, none⟩ c7).heap[B]? = some (.cells #[c0, c1, c2, c3, c4, c5, c6, c7] t (0, 0)) ∧ (∀ k, k ≠ B → ((((((((W.setCell ⟨B, 0, none⟩ c0).setCell ⟨B, 1, none⟩ c1).setCell ⟨B, 2, none⟩ c2).setCell ⟨B, 3, none⟩ c3).setCell ⟨B, 4, none⟩ c4).setCell ⟨B, 5, none⟩ c5).setCell ⟨B, 6, none⟩ c6).setCell ⟨B, 7, none⟩ c7).heap[k]? = W.heap[k]?) ∧ (∀ n w0, Below n w0 W → n ≤ B → Below n w0 ((((((((W.setCell ⟨B, 0, none⟩ c0).setCell ⟨B, 1, none⟩ c1).setCell ⟨B, 2, none⟩ c2).setCell ⟨B, 3, none⟩ c3).setCell ⟨B, 4, none⟩ c4).setCell ⟨B, 5, none⟩ c5).setCell ⟨B, 6, none⟩ c6).setCell ⟨B, 7, none⟩ c7)) := by
 have H0 : (W.setCell ⟨B, 0, none⟩ c0).heap[B]? = some (.cells #[c0, x1, x2, x3, x4, x5, x6, x7] t (0, 0)) := heap_store hz 0 c0
 have H1 : ((W.setCell ⟨B, 0, none⟩ c0).setCell ⟨B, 1, none⟩ c1).heap[B]? = some (.cells #[c0, c1, x2, x3, x4, x5, x6, x7] t (0, 0)) := heap_store H0 1 c1
 have H2 : (((W.setCell ⟨B, 0, none⟩ c0).setCell ⟨B, 1, none⟩ c1).setCell ⟨B, 2, none⟩ c2).heap[B]? = some (.cells #[c0, c1, c2, x3, x4, x5, x6, x7] t (0, 0)) := heap_store H1 2 c2
 have H3 : ((((W.setCell ⟨B, 0, none⟩ c0).setCell ⟨B, 1, none⟩ c1).setCell ⟨B, 2, none⟩ c2).setCell ⟨B, 3, none⟩ c3).heap[B]? = some (.cells #[c0, c1, c2, c3, x4, x5, x6, x7] t (0, 0)) := heap_store H2 3 c3
 have H4 : (((((W.setCell ⟨B, 0, none⟩ c0).setCell ⟨B, 1, none⟩ c1).setCell ⟨B, 2, none⟩ c2).setCell ⟨B, 3, none⟩ c3).setCell ⟨B, 4, none⟩ c4).heap[B]? = some (.cells #[c0, c1, c2, c3, c4, x5, x6, x7] t (0, 0)) := heap_store H3 4 c4
 have H5 : ((((((W.setCell ⟨B, 0, none⟩ c0).setCell ⟨B, 1, none⟩ c1).setCell ⟨B, 2, none⟩ c2).setCell ⟨B, 3, none⟩ c3).setCell ⟨B, 4, none⟩ c4).setCell ⟨B, 5, none⟩ c5).heap[B]? = some (.cells #[c0, c1, c2, c3, c4, c5, x6, x7] t (0, 0)) := heap_store H4 5 c5
 have H6 : (((((((W.setCell ⟨B, 0, none⟩ c0).setCell ⟨B, 1, none⟩ c1).setCell ⟨B, 2, none⟩ c2).setCell ⟨B, 3, none⟩ c3).setCell ⟨B, 4, none⟩ c4).setCell ⟨B, 5, none⟩ c5).setCell ⟨B, 6, none⟩ c6).heap[B]? = some (.cells #[c0, c1, c2, c3, c4, c5, c6, x7] t (0, 0)) := heap_store H5 6 c6
 have H7 : ((((((((W.setCell ⟨B, 0, none⟩ c0).setCell ⟨B, 1, none⟩ c1).setCell ⟨B, 2, none⟩ c2).setCell ⟨B, 3, none⟩ c3).setCell ⟨B, 4, none⟩ c4).setCell ⟨B, 5, none⟩ c5).setCell ⟨B, 6, none⟩ c6).setCell ⟨B, 7, none⟩ c7).heap[B]? = some (.cells #[c0, c1, c2, c3, c4, c5, c6, c7] t (0, 0)) := heap_store H6 7 c7
 refine ⟨H7, fun k hne => ?_, fun n w0 hb hle => ?_⟩
 · rw [Below.heap_setCell _ _ _ _ hne, Below.heap_setCell _ _ _ _ hne, Below.heap_setCell _ _ _ _ hne, Below.heap_setCell _ _ _ _ hne, Below.heap_setCell _ _ _ _ hne, Below.heap_setCell _ _ _ _ hne, Below.heap_setCell _ _ _ _ hne, Below.heap_setCell _ _ _ _ hne]
 · exact ((((((((hb.setCell (p := ⟨B, 0, none⟩) hle _).setCell (p := ⟨B, 1, none⟩) hle _).setCell (p := ⟨B, 2, none⟩) hle _).setCell (p := ⟨B, 3, none⟩) hle _).setCell (p := ⟨B, 4, none⟩) hle _).setCell (p := ⟨B, 5, none⟩) hle _).setCell (p := ⟨B, 6, none⟩) hle _).setCell (p := ⟨B, 7, none⟩) hle _)
def rlogOf (D' : DS) (f : FR) (most : Int) (e : Int) : LS :=
 if f.code ≠ 0 then ⟨0, 0, 0, 0, D'⟩
 else if f.last = 0 then ⟨1, 0, 0, most, D'⟩
 else if e ≠ 0 then ⟨0, 0, 0, 0, D'⟩
 else ⟨f.last, f.front.length, 0, most, D'⟩
def rrecsOf (f : FR) (e : Int) : List (List UInt8) := if f.code ≠ 0 then [] else if f.last = 0 then [] else if e ≠ 0 then [] else f.recs
def ROpenP (R : List RF) (w : World) (T : Nat → Prop) (f : FR) (most : Int) (r : DS × Int) : Ending → World → Prop := fun e w' =>
 ∃ (a : Option Addr) (c : Nat) (R' : List RF) (vr : Option Addr) (cr : Nat) (X : List SL),
   e = .returned (.tuple #[rlog (.slice a R'.length c) (rlogOf r.1 f most r.2), .slice vr X.length cr, .int .i64 r.2]) ∧ R'.map RF.f = r.1.files ∧ RLi w' (.slice a R'.length c) R' (fun k => T k ∨ w.heap.size ≤ k) ∧
   Row w' 72 1 (.slice vr X.length cr) X.length (X.map SL.v) (fun k => w.heap.size ≤ k) ∧ (∀ x ∈ X, RdR R x) ∧ X.map SL.l = rrecsOf f r.2 ∧ X.length ≤ 13000000 ∧ Below w.heap.size w w'
structure OpsL (w0 w : World) (v : Value) (P : List RO) (B : Nat) : Prop where
 row : Row w 112 4 v P.length (P.flatMap opcells) (fun k => B ≤ k)
 each : ∀ r ∈ P, Reads w0 (.slice r.a r.o.b.length r.c) r.o.b.length 1 (byts r.o.b)
 good : ∀ r ∈ P, (1 ≤ r.o.k ∧ r.o.k ≤ 5) ∧ r.o.n.size ≤ 100000 ∧ r.o.t.size ≤ 100000
theorem OpsL.ros {w0 w : World} {v : Value} {P : List RO} {B : Nat} (h : OpsL w0 w v P B) (hb : Below w0.heap.size w0 w) : ROs w v P := ⟨h.row.reads, fun r hr => (h.each r hr).later hb, h.good⟩
theorem OpsL.later {w0 w w' : World} {v : Value} {P : List RO} {B : Nat} (h : OpsL w0 w v P B) (hb : Below w.heap.size w w') : OpsL w0 w' v P B := ⟨h.row.frame (fun k _ hk => hb.block k hk), h.each, h.good⟩
theorem OpsL.snoc {w0 w w1 w5 : World} {v v5 : Value} {P Q : List RO} {B m : Nat} {news : List Value} {S : Nat → Prop} (h : OpsL w0 w v P B) (hr : Row w5 112 4 v5 (P.length + m) (P.flatMap opcells ++ news) (fun k => S k ∨ w1.heap.size ≤ k)) (hS : ∀ k, S k → B ≤ k) (hw : B ≤ w1.heap.size) (hm : m = Q.length) (hn : news = Q.flatMap opcells)
   (h1 : ∀ r ∈ Q, Reads w0 (.slice r.a r.o.b.length r.c) r.o.b.length 1 (byts r.o.b)) (h2 : ∀ r ∈ Q, (1 ≤ r.o.k ∧ r.o.k ≤ 5) ∧ r.o.n.size ≤ 100000 ∧ r.o.t.size ≤ 100000) : OpsL w0 w5 v5 (P ++ Q) B := by
 subst hm hn
 refine ⟨?_, fun r hr => ?_, fun r hr => ?_⟩
 · rw [List.length_append, List.flatMap_append]
   exact hr.mono (fun k hk => by rcases hk with hk | hk; exact hS k hk; omega)
 · rcases List.mem_append.1 hr with hr | hr
   · exact h.each r hr
   · exact h1 r hr
 · rcases List.mem_append.1 hr with hr | hr
   · exact h.good r hr
   · exact h2 r hr
theorem opsl_clean {w0 w : World} {v : Value} {D : DS} {ss : List ByteArray} {B C : Nat} (hr : Row w 112 4 v (cleanL D ss).length (((cleanL D ss).map bareO).flatMap opcells) (fun k => C ≤ k)) (hB : B ≤ C) (hs : ∀ n ∈ ss, n.size ≤ 100000) : OpsL w0 w v ((cleanL D ss).map bareO) B := by
 refine ⟨?_, fun r hr => ?_, fun r hr => ?_⟩
 · rw [List.length_map]; exact hr.mono (fun k hk => by omega)
 · obtain ⟨o, ho, rfl⟩ := List.mem_map.1 hr
   obtain ⟨n, hn, rfl⟩ := List.mem_map.1 ho
   exact Reads.nil _ _
 · obtain ⟨o, ho, rfl⟩ := List.mem_map.1 hr
   obtain ⟨n, hn, rfl⟩ := List.mem_map.1 ho
   exact ⟨⟨show 1 ≤ 5 by decide, show 5 ≤ 5 by decide⟩, hs n (List.mem_filter.1 hn).1, show (⟨#[]⟩ : ByteArray).size ≤ 100000 by decide⟩
theorem bareO_o (l : List OP) : (l.map bareO).map RO.o = l := by rw [List.map_map]; exact List.map_id _
theorem bytsO_append (P Q : List RO) : bytsO (P ++ Q) = bytsO P + bytsO Q := by unfold bytsO; rw [List.map_append, List.sum_append]
theorem bytsO_clean (D : DS) (ss : List ByteArray) : bytsO ((cleanL D ss).map bareO) = 0 := by
 unfold cleanL bytsO
 induction (List.filter (fun n => (findD D.files n).isSome) ss) with
 | nil => rfl
 | cons a l ih => simpa using ih
theorem reads_twoS (w : World) (x y : Value) (T : TypeId) : Reads (w.alloc (.cells #[x, y] T)) (.slice (some ⟨w.heap.size, 0, none⟩) 2 2) 2 1 [x, y] := Reads.block (heap_alloc_new w _) 2 1 rfl
theorem ropen_core {R : List RF} {w W : World} {T : Nat → Prop} {f : FR} {most : Int} {r : DS × Int} {a vr : Option Addr} {c cr : Nat} {R' : List RF} {X : List SL} {room plan most' n size waiting : Int} {down : Bool}
   (H : W.heap[w.heap.size + 1]? = some (.cells #[.int .i64 room, .slice a R'.length c, .int .i64 plan, .bool down, .int .i64 most', .int .i64 n, .int .i64 size, .int .i64 waiting] 34 (0, 0))) (hb : Below w.heap.size w W) (hr : RLi W (.slice a R'.length c) R' (fun k => T k ∨ w.heap.size ≤ k))
   (hX : Row W 72 1 (.slice vr X.length cr) X.length (X.map SL.v) (fun k => w.heap.size ≤ k)) (hxx : ∀ x ∈ X, RdR R x) (hxl : X.map SL.l = rrecsOf f r.2) (hxn : X.length ≤ 13000000)
   (hM : (⟨n, size, waiting, most', ⟨room, R'.map RF.f, plan, down⟩⟩ : LS) = rlogOf r.1 f most r.2) (hrf : R'.map RF.f = r.1.files)
   {tmps : Array Value} (h4 : tmps.getD 4 undef = .pointer (some ⟨w.heap.size + 1, 0, none⟩)) (h5 : tmps.getD 5 undef = .slice vr X.length cr) (h6 : tmps.getD 6 undef = .int .i64 r.2) :
   bodyPost Tryz.prog Tryz.f28 (ROpenP R w T f most r) Exit.ret { tmps := tmps, defers := [] } W := by
 refine bodyPost_ret (results_row_tmp2 (P := Tryz.prog) Tryz.results28 _ _ (w.heap.size + 1) 34 _ (0, 0) _ h4 H Tryz.underlying34 rfl rfl) rfl ?_
 rw [h5, h6]
 exact ⟨a, c, R', vr, cr, X, by rw [← hM], hrf, hr, hX, hxx, hxl, hxn, hb⟩
theorem ropen_end {R : List RF} {w wz : World} {T TT : Nat → Prop} {f : FR} {most : Int} {r : DS × Int} {x0 x1 x2 x3 x4 x5 x6 x7 : Value} {a vr : Option Addr} {c cr : Nat} {R' : List RF} {X : List SL} {room plan most' n size waiting : Int} {down : Bool}
   (hz : wz.heap[w.heap.size + 1]? = some (.cells #[x0, x1, x2, x3, x4, x5, x6, x7] 34 (0, 0))) (hb : Below w.heap.size w wz) (hr : RLi wz (.slice a R'.length c) R' TT) (hTT : ∀ k, TT k → T k ∨ w.heap.size ≤ k) (hno : ¬ TT (w.heap.size + 1))
   (hX : Row wz 72 1 (.slice vr X.length cr) X.length (X.map SL.v) (fun k => w.heap.size + 2 ≤ k)) (hxx : ∀ x ∈ X, RdR R x) (hxl : X.map SL.l = rrecsOf f r.2) (hxn : X.length ≤ 13000000)
   (hM : (⟨n, size, waiting, most', ⟨room, R'.map RF.f, plan, down⟩⟩ : LS) = rlogOf r.1 f most r.2) (hrf : R'.map RF.f = r.1.files)
   {tmps : Array Value} (h4 : tmps.getD 4 undef = .pointer (some ⟨w.heap.size + 1, 0, none⟩)) (h5 : tmps.getD 5 undef = .slice vr X.length cr) (h6 : tmps.getD 6 undef = .int .i64 r.2) :
   bodyPost Tryz.prog Tryz.f28 (ROpenP R w T f most r) Exit.ret { tmps := tmps, defers := [] } ((((((((wz.setCell ⟨w.heap.size + 1, 0, none⟩ (.int .i64 room)).setCell ⟨w.heap.size + 1, 1, none⟩ (.slice a R'.length c)).setCell ⟨w.heap.size + 1, 2, none⟩ (.int .i64 plan)).setCell ⟨w.heap.size + 1, 3, none⟩ (.bool down)).setCell ⟨w.heap.size + 1, 4, none⟩ (.int .i64 most')).setCell ⟨w.heap.size + 1, 5, none⟩ (.int .i64 n)).setCell ⟨w.heap.size + 1, 6, none⟩ (.int .i64 size)).setCell ⟨w.heap.size + 1, 7, none⟩ (.int .i64 waiting)) := by
 obtain ⟨H, hk, hB⟩ := set8 (.int .i64 room) (.slice a R'.length c) (.int .i64 plan) (.bool down) (.int .i64 most') (.int .i64 n) (.int .i64 size) (.int .i64 waiting) hz
 have hb' := hB _ _ hb (by omega)
 have hr' := hr.frame (fun k hk' _ => hk k (fun e => hno (e ▸ hk')))
 have hX' := (hX.frame (fun k hk' _ => hk k (by omega))).mono (T := fun k => w.heap.size ≤ k) (fun k hk' => by omega)
 clear hk hB hz hb hr hX
 exact ropen_core H hb' (hr'.mono hTT) hX' hxx hxl hxn hM hrf h4 h5 h6
end Go.Proofs.YtgdmdbdljmlkkaaGreatDoor
namespace Go.Proofs.YtgdmdbdljmlkkaaGreatDoor
open Go.RowKit
attribute [local go_sem ↓] Go.wp_at_zero Go.wp_at_succ
set_option maxHeartbeats 4000000 in
theorem rfind0_any (room plan : Int) (down : Bool) (v : Value) (R : List RF) (T : Nat → Prop) (w : World) (h : RLi w v R T) (hl : R.length ≤ 1000) (hem : segsD ⟨room, R.map RF.f, plan, down⟩ = []) :
   Calls Tryz.prog 32 #[rdisk room v plan down] w (RFindP R w ⟨room, R.map RF.f, plan, down⟩ (findS ⟨room, R.map RF.f, plan, down⟩)) := by
 obtain ⟨la, lc, rfl⟩ := slice_form h.row
 have HN := Lib.hid (fun (w' : World) (hb : Below w.heap.size w w') => rnames_any room plan down (.slice la R.length lc) R T w' (h.below hb) (by omega))
 obtain ⟨D, hD⟩ : ∃ D : DS, D = ⟨room, R.map RF.f, plan, down⟩ := ⟨_, rfl⟩
 rw [← hD]
 obtain ⟨f, hf⟩ : ∃ f, f = findS D := ⟨_, rfl⟩
 have HFD := Lib.hid hf
 rw [← hf]
 clear hf
 have HSEG : Hid (segsD D = refL (R.map fun r => r.f.name)) := by rw [Hid, hD]; unfold segsD; rw [List.map_map]; rfl
 have HEM : Hid (segsD D = []) := by rw [Hid, hD]; exact hem
 unfold rdisk at HN ⊢
 have HBW : Hid (Below w.heap.size w ((w.alloc (.cells #[.int .i64 room, .slice la R.length lc, .int .i64 plan, .bool down] 32)).alloc (.cells #[.slice none 0 0, .int .i64 0, .int .i64 0, .slice none 0 0, .int .i64 0, .int .i64 0, .int .i64 0] 61))) := ((Below.refl _ _).alloc (Nat.le_refl _) _).alloc (by simp) _
 have HBX : Hid (((w.alloc (.cells #[.int .i64 room, .slice la R.length lc, .int .i64 plan, .bool down] 32)).alloc (.cells #[.slice none 0 0, .int .i64 0, .int .i64 0, .slice none 0 0, .int .i64 0, .int .i64 0, .int .i64 0] 61)).heap[w.heap.size]? = some (.cells #[.int .i64 room, .slice la R.length lc, .int .i64 plan, .bool down] 32 (0, 0))) := (alloc2_low w _ _).trans (heap_alloc_new _ _)
 have HBZ : Hid (((w.alloc (.cells #[.int .i64 room, .slice la R.length lc, .int .i64 plan, .bool down] 32)).alloc (.cells #[.slice none 0 0, .int .i64 0, .int .i64 0, .slice none 0 0, .int .i64 0, .int .i64 0, .int .i64 0] 61)).heap[w.heap.size + 1]? = some (.cells #[.slice none 0 0, .int .i64 0, .int .i64 0, .slice none 0 0, .int .i64 0, .int .i64 0, .int .i64 0] 61 (0, 0))) := alloc2_high w _ _ (heap_alloc_new _ _)
 have HSZ : Hid (((w.alloc (.cells #[.int .i64 room, .slice la R.length lc, .int .i64 plan, .bool down] 32)).alloc (.cells #[.slice none 0 0, .int .i64 0, .int .i64 0, .slice none 0 0, .int .i64 0, .int .i64 0, .int .i64 0] 61)).heap.size = w.heap.size + 2) := by simp [Hid]
 have HDD := Lib.hid hD
 clear h hem hD
 go_enter Tryz.func32, Tryz.ntmps32
 go_upto_region 1 with fail
 generalize (w.alloc (.cells #[.int .i64 room, .slice la R.length lc, .int .i64 plan, .bool down] 32)).alloc (.cells #[.slice none 0 0, .int .i64 0, .int .i64 0, .slice none 0 0, .int .i64 0, .int .i64 0, .int .i64 0] 61) = wa at *
 obtain ⟨x0, x1, x2, x3⟩ := cells4 HBX.out
 cases down with
 | true =>
   have hf : f = FR.bad 10 := by rw [HFD.out]; unfold findS; rw [HDD.out]; rfl
   obtain ⟨z0, z1, z2, z3, z4, z5, z6⟩ := cells7 HBZ.out
   obtain ⟨y0, y1, y2, y3, y4, y5, y6⟩ := free7 HBZ.out
   have HF := Lib.hid hf
   clear hf
   go_wp2
   exact rfind_bad HBZ.out HBW.out HF.out (fun h => absurd h (by decide)) rfl
 | false =>
   have HF : Hid (f = findG (contD D) (segsD D)) := by rw [Hid, HFD.out]; unfold findS; rw [HDD.out]; rfl
   obtain ⟨L, hL⟩ : ∃ L, L = segsD D := ⟨_, rfl⟩
   have HSE := Lib.hid hL
   have HINC : Hid (Inc L) := by rw [hL]; exact inc_segs D
   have HRG : Hid (∀ n ∈ L, 1 ≤ n ∧ n ≤ 99999999) := fun n hn => mem_segs (by rw [← hL]; exact hn)
   have hll : L.length ≤ 1000 := by have := refL_length (R.map fun r => r.f.name); rw [← HSEG.out, ← hL, List.length_map] at this; omega
   rw [← hL] at HF HSEG
   clear HFD hL
   go_wp2_with fail
   refine (HN.out wa HBW.out).mono ?_
   rintro e w1 ⟨v1, rfl, hr1, hb1⟩
   have hls := refList_any v1 (R.map fun r => r.f.name) w1 (by rw [← namesR_V, List.length_map]; exact hr1.reads) (by rw [List.length_map]; omega)
   rw [← HSEG.out] at hls
   have HLS := Lib.hid hls
   have HA1 := Lib.hid hb1
   clear hr1 hb1 hls HN x0 x1 x2 x3 HSEG
   go_wp2_with fail
   refine HLS.out.mono ?_
   rintro e w2 ⟨v2, rfl, hr2, hb2⟩
   have hr2' : Row w2 3 1 v2 L.length (ints L) (fun k => w.heap.size + 2 ≤ k) := (Row.ofOwns hr2).mono (fun k hk => by have := HA1.out.size; have := HSZ.out; omega)
   obtain ⟨va, vc, rfl⟩ := slice_form hr2'
   have HR2 := Lib.hid hr2'
   have HA2 := Lib.hid (HA1.out.trans (hb2.mono HA1.out.size))
   clear hr2 hr2' hb2 HLS HA1
   have HZ2 := Lib.hid ((HA2.out.block _ (lt_of_heap HBZ.out)).trans HBZ.out)
   have HW2 := Lib.hid (HBW.out.trans (HA2.out.mono HBW.out.size))
   by_cases hL0 : L = []
   · subst hL0
     have hf : f = FR.bad 0 := by rw [HF.out, findG, if_pos rfl]
     have HFB := Lib.hid hf
     simp only [List.length_nil] at *
     obtain ⟨z0, z1, z2, z3, z4, z5, z6⟩ := cells7 HZ2.out
     obtain ⟨y0, y1, y2, y3, y4, y5, y6⟩ := free7 HZ2.out
     clear hf
     go_wp2
     exact rfind_bad HZ2.out HW2.out HFB.out (fun _ => HSE.out.symm) rfl
   · exact absurd (HSE.out.trans HEM.out) hL0
set_option maxHeartbeats 8000000 in
theorem ropen0_any (room plan most : Int) (down : Bool) (v : Value) (R : List RF) (T : Nat → Prop) (w : World) (h : RLi w v R T) (hT : ∀ k, T k → k < w.heap.size) (hl : R.length ≤ 1000) (hem : segsD ⟨room, R.map RF.f, plan, down⟩ = []) (hcode : (findS ⟨room, R.map RF.f, plan, down⟩).code = 0) {s : Nat} (hbr : BR ⟨room, R.map RF.f, plan, down⟩ s 1000) (hs : s ≤ 100000) :
   Calls Tryz.prog 28 #[rdisk room v plan down, .int .i64 most] w (ROpenP R w T (findS ⟨room, R.map RF.f, plan, down⟩) most (openS doR ⟨room, R.map RF.f, plan, down⟩)) := by
 obtain ⟨la, lc, rfl⟩ := slice_form h.row
 have HR := Lib.hid h
 have HTT := Lib.hid hT
 have HFI := Lib.hid (fun (w' : World) (hb' : Below w.heap.size w w') => rfind0_any room plan down (.slice la R.length lc) R T w' (h.below hb') hl hem)
 have HCL := Lib.hid (fun (va : Value) (ss : List ByteArray) (w' : World) (hb' : Below w.heap.size w w') (hr : Reads w' va ss.length 1 (strsV ss)) (hss : ss.length ≤ 1000) => rclean_any room plan down (.slice la R.length lc) R T va ss w' (h.below hb') (by omega) hr hss)
 have HST := Lib.hid (fun (w' : World) (a : Option Addr) (c : Nat) (P : List RO) (B : Nat) (hb' : Below w.heap.size w w') (ho : OpsL w w' (.slice a P.length c) P B) (hp : P.length ≤ 2000) (hby : bytsO P ≤ 100000) => (rsteps_any room plan down (.slice la R.length lc) R T a c P w' (h.below hb') (ho.ros hb') hp hbr (by omega) (by omega)).mono (fun e w2 he => dop_of he))
 have hfs : (segsD ⟨room, R.map RF.f, plan, down⟩).length ≤ 1000 := by
   have := refL_length ((R.map RF.f).map DF.name)
   rw [List.length_map, List.length_map] at this
   unfold segsD; show (refL ((R.map RF.f).map DF.name)).length ≤ 1000; omega
 obtain ⟨D, hD⟩ : ∃ D : DS, D = ⟨room, R.map RF.f, plan, down⟩ := ⟨_, rfl⟩
 rw [← hD] at HFI HCL HST hfs ⊢
 obtain ⟨f, hf⟩ : ∃ f, f = findS D := ⟨_, rfl⟩
 rw [← hf] at HFI ⊢
 have HF := Lib.hid hf
 have HD := Lib.hid hD
 have HFS := Lib.hid hfs
 have HEM : Hid (segsD D = []) := by rw [Hid, hD]; exact hem
 have HCO : Hid (f.code = 0) := by rw [Hid, hf, hD]; exact hcode
 unfold rdisk at HFI HCL HST ⊢
 have HBW : Hid (Below w.heap.size w ((w.alloc (.cells #[.int .i64 room, .slice la R.length lc, .int .i64 plan, .bool down] 32)).alloc (.cells #[.int .i64 0, .slice none 0 0, .int .i64 0, .bool false, .int .i64 0, .int .i64 0, .int .i64 0, .int .i64 0] 34))) := ((Below.refl _ _).alloc (Nat.le_refl _) _).alloc (by simp) _
 have HBX : Hid (((w.alloc (.cells #[.int .i64 room, .slice la R.length lc, .int .i64 plan, .bool down] 32)).alloc (.cells #[.int .i64 0, .slice none 0 0, .int .i64 0, .bool false, .int .i64 0, .int .i64 0, .int .i64 0, .int .i64 0] 34)).heap[w.heap.size]? = some (.cells #[.int .i64 room, .slice la R.length lc, .int .i64 plan, .bool down] 32 (0, 0))) := (alloc2_low w _ _).trans (heap_alloc_new _ _)
 have HBZ : Hid (((w.alloc (.cells #[.int .i64 room, .slice la R.length lc, .int .i64 plan, .bool down] 32)).alloc (.cells #[.int .i64 0, .slice none 0 0, .int .i64 0, .bool false, .int .i64 0, .int .i64 0, .int .i64 0, .int .i64 0] 34)).heap[w.heap.size + 1]? = some (.cells #[.int .i64 0, .slice none 0 0, .int .i64 0, .bool false, .int .i64 0, .int .i64 0, .int .i64 0, .int .i64 0] 34 (0, 0))) := alloc2_high w _ _ (heap_alloc_new _ _)
 have HSZ : Hid (((w.alloc (.cells #[.int .i64 room, .slice la R.length lc, .int .i64 plan, .bool down] 32)).alloc (.cells #[.int .i64 0, .slice none 0 0, .int .i64 0, .bool false, .int .i64 0, .int .i64 0, .int .i64 0, .int .i64 0] 34)).heap.size = w.heap.size + 2) := by simp [Hid]
 clear h hem hcode hf hD hT hbr hs hfs hl
 go_enter Tryz.func28, Tryz.ntmps28
 go_upto_region 1 with fail
 generalize (w.alloc (.cells #[.int .i64 room, .slice la R.length lc, .int .i64 plan, .bool down] 32)).alloc (.cells #[.int .i64 0, .slice none 0 0, .int .i64 0, .bool false, .int .i64 0, .int .i64 0, .int .i64 0, .int .i64 0] 34) = wa at *
 obtain ⟨x0, x1, x2, x3⟩ := cells4 HBX.out
 go_wp2_with fail
 refine (HFI.out wa HBW.out).mono ?_
 rintro e w1 ⟨hb1, L, va, vr, ca, cr, first, X, rfl, hLr, hXr, hxx, hxl, hLs, hold, hxn⟩
 have hb2 : Below wa.heap.size wa (w1.alloc (.cells #[.slice va L.length ca, .int .i64 first, .int .i64 f.last, .slice vr X.length cr, .int .i64 f.front.length, .int .i64 f.torn, .int .i64 f.code] 61)) := hb1.alloc hb1.size _
 have HB2 := Lib.hid (HBW.out.trans (hb2.mono HBW.out.size))
 have HY2 : Hid ((w1.alloc (.cells #[.slice va L.length ca, .int .i64 first, .int .i64 f.last, .slice vr X.length cr, .int .i64 f.front.length, .int .i64 f.torn, .int .i64 f.code] 61)).heap[w1.heap.size]? = some (.cells #[.slice va L.length ca, .int .i64 first, .int .i64 f.last, .slice vr X.length cr, .int .i64 f.front.length, .int .i64 f.torn, .int .i64 f.code] 61 (0, 0))) := heap_alloc_new _ _
 have HX2 := Lib.hid ((hb2.block _ (lt_of_heap HBX.out)).trans HBX.out)
 have HZ2 := Lib.hid ((hb2.block _ (lt_of_heap HBZ.out)).trans HBZ.out)
 have HLR := Lib.hid (hLr.frame (w' := w1.alloc (.cells #[.slice va L.length ca, .int .i64 first, .int .i64 f.last, .slice vr X.length cr, .int .i64 f.front.length, .int .i64 f.torn, .int .i64 f.code] 61)) (fun k _ hk => Below.heap_alloc w1 _ _ hk)).reads
 have HXR := Lib.hid ((hXr.frame (w' := w1.alloc (.cells #[.slice va L.length ca, .int .i64 first, .int .i64 f.last, .slice vr X.length cr, .int .i64 f.front.length, .int .i64 f.torn, .int .i64 f.code] 61)) (fun k _ hk => Below.heap_alloc w1 _ _ hk)).tight.mono (T := fun k => w.heap.size + 2 ≤ k ∧ k < (w1.alloc (.cells #[.slice va L.length ca, .int .i64 first, .int .i64 f.last, .slice vr X.length cr, .int .i64 f.front.length, .int .i64 f.torn, .int .i64 f.code] 61)).heap.size) (fun k hk => ⟨by have := hk.1; have := HSZ.out; omega, hk.2⟩))
 have HXX : Hid (∀ x ∈ X, RdR R x) := fun x hx => (hxx x hx).2
 have HXL := Lib.hid hxl
 have HXN := Lib.hid hxn
 have HLS := Lib.hid hLs
 have HOL := Lib.hid hold
 have hlt1 : w.heap.size + 1 < w1.heap.size := by have h1 := lt_of_heap HBZ.out; have h2 := hb1.size; omega
 have HLT1 := Lib.hid hlt1
 clear hb1 hb2 hLr hXr hxx hxl hLs hold x0 x1 x2 x3 HFI HSZ hxn HBW HBX HBZ
 unfold logV at *
 go_upto_region 2 with fail
 generalize w1.alloc (.cells #[.slice va L.length ca, .int .i64 first, .int .i64 f.last, .slice vr X.length cr, .int .i64 f.front.length, .int .i64 f.torn, .int .i64 f.code] 61) = w2 at *
 obtain ⟨y0, y1, y2, y3, y4, y5, y6⟩ := cells7 HY2.out
 obtain ⟨x0, x1, x2, x3⟩ := cells4 HX2.out
 by_cases hc : f.code = 0
 · have HC := Lib.hid hc
   rw [hc] at y6
   have hdn : D.down = false := by
     cases hdd : D.down with
     | false => rfl
     | true => exfalso; rw [HF.out] at hc; unfold findS at hc; rw [hdd] at hc; exact absurd (show (10 : Int) = 0 from hc) (by decide)
   have HSH := Lib.hid (find_shape hdn (by rw [← HF.out]; exact hc))
   have HOS := Lib.hid (open_steps hdn (by rw [← HF.out]; exact hc))
   rw [← HF.out] at HSH HOS
   have HLE : Hid (L = segsD D) := by rw [Hid, HLS.out, if_pos hc]
   have HDN := Lib.hid hdn
   clear hc hdn HLS
   go_upto_region 4 with fail
   go_wp2_with fail
   refine (HCL.out _ [cutNm, newNm] _ (HB2.out.alloc HB2.out.size _) (reads_twoS w2 _ _ _) (by decide)).mono ?_
   rintro e w3 ⟨v3, rfl, hr3, hb3⟩
   have ho3 := opsl_clean (w0 := w) (B := w2.heap.size) hr3 (by simp) (by intro n hn; simp only [List.mem_cons, List.not_mem_nil, or_false] at hn; rcases hn with rfl | rfl <;> decide)
   have hcl : (cleanL D [cutNm, newNm]).length ≤ 2 := cleanL_len _ _
   obtain ⟨P0, hP0⟩ : ∃ P0, P0 = (cleanL D [cutNm, newNm]).map bareO := ⟨_, rfl⟩
   have hln : (cleanL D [cutNm, newNm]).length = P0.length := by rw [hP0, List.length_map]
   rw [← hP0] at ho3
   rw [hln] at hcl hr3
   obtain ⟨oa, oc, rfl⟩ := slice_form hr3
   have HO3 := Lib.hid ho3
   have HP0 : Hid ((cleanL D [cutNm, newNm]).map bareO = P0) := hP0.symm
   have HBA3 := Lib.hid (((Below.refl w2.heap.size w2).alloc (Nat.le_refl _) (.cells #[.string ⟨#[99, 117, 116]⟩, .string ⟨#[110, 101, 119]⟩] 9)).trans (hb3.mono (by simp)))
   have HB3 := Lib.hid (HB2.out.trans (HBA3.out.mono HB2.out.size))
   clear hr3 hb3 ho3 hP0 hln x0 x1 x2 x3 y0 y1 y2 y3 y4 y5 y6
   have HX3 := Lib.hid ((HBA3.out.block _ (lt_of_heap HX2.out)).trans HX2.out)
   have HY3 := Lib.hid ((HBA3.out.block _ (lt_of_heap HY2.out)).trans HY2.out)
   have HZ3 := Lib.hid ((HBA3.out.block _ (lt_of_heap HZ2.out)).trans HZ2.out)
   have HOL3 := Lib.hid (HLR.out.later HBA3.out)
   have HXR3 := Lib.hid (HXR.out.frame (w' := w3) (fun k hk hlt => HBA3.out.block k hlt))
   have HN23 : Hid (w1.heap.size < w2.heap.size) := lt_of_heap HY2.out
   have hsz23 := HBA3.out.size
   have HKD : Hid (∀ w', Hid (Below w2.heap.size w2 w') → w'.cell? ⟨w.heap.size, 0, none⟩ = some (.int .i64 room) ∧ w'.cell? ⟨w.heap.size, 1, none⟩ = some (.slice la R.length lc) ∧ w'.cell? ⟨w.heap.size, 2, none⟩ = some (.int .i64 plan) ∧ w'.cell? ⟨w.heap.size, 3, none⟩ = some (.bool down)) := fun w' hb => cells4 ((hb.out.block _ (lt_of_heap HX2.out)).trans HX2.out)
   have HKZ : Hid (∀ w', Below w2.heap.size w2 w' → w'.heap[w.heap.size + 1]? = some (.cells #[.int .i64 0, .slice none 0 0, .int .i64 0, .bool false, .int .i64 0, .int .i64 0, .int .i64 0, .int .i64 0] 34 (0, 0))) := fun w' hb => (hb.block _ (lt_of_heap HZ2.out)).trans HZ2.out
   have HKB : Hid (∀ w', Below w2.heap.size w2 w' → Below w.heap.size w w') := fun w' hb => HB2.out.trans (hb.mono HB2.out.size)
   have HTW : Hid (∀ k, T k → k < w2.heap.size) := fun k hk => by have h1 := HTT.out k hk; have h2 := HB2.out.size; omega
   obtain ⟨rr, hrr⟩ : ∃ rr, rr = openS doR D := ⟨_, rfl⟩
   rw [← hrr] at HOS ⊢
   have HRR := Lib.hid hrr
   clear hrr
   rcases HSH.out with ⟨hs0, hfb⟩ | hsh
   · have hL0 : L = [] := by rw [HLE.out]; exact hs0
     subst hL0
     simp only [List.length_nil] at *
     have hf0 : f.last = 0 := by rw [hfb]; rfl
     have HRE : Hid (rr = stepsG doR D ((P0 ++ [bareO ⟨1, nameI 1, ⟨#[]⟩, []⟩]).map RO.o)) := by
       rw [Hid, HOS.out]; unfold openOps; rw [if_pos hf0, List.map_append, ← HP0.out, bareO_o]; rfl
     have HF0 := Lib.hid hf0
     obtain ⟨y0, y1, y2, y3, y4, y5, y6⟩ := cells7 HY3.out
     clear hs0 hfb HSH hf0 HX2 HOS HLE HOL HOL3 HXR3 HXX HXL
     go_upto_region 6 with fail
     clear y0 y1 y2 y3 y4 y5 y6
     have HOW : Hid (Row w3 112 4 (.slice oa P0.length oc) P0.length (P0.flatMap opcells) (fun k => w2.heap.size ≤ k ∧ k < w3.heap.size)) := HO3.out.row.tight
     have OA : Hid (Row (w3.drew.alloc (.cells #[.int .i64 1, .string ⟨#[108, 111, 103, 45, 48, 48, 48, 48, 48, 48, 48, 49]⟩, .string ⟨#[]⟩, .slice none 0 0] 112)) 112 4 (.slice oa P0.length oc) P0.length (P0.flatMap opcells) (fun k => w2.heap.size ≤ k ∧ k < w3.heap.size)) := HOW.out.frame (fun k _ hk => Below.heap_alloc w3.drew _ _ hk)
     have OB : Hid (Row ((w3.drew.alloc (.cells #[.int .i64 0, .slice none 0 0, .int .i64 0, .bool false] 32)).alloc (.cells #[.int .i64 1, .string ⟨#[108, 111, 103, 45, 48, 48, 48, 48, 48, 48, 48, 49]⟩, .string ⟨#[]⟩, .slice none 0 0] 112)) 112 4 (.slice oa P0.length oc) P0.length (P0.flatMap opcells) (fun k => w2.heap.size ≤ k ∧ k < w3.heap.size)) := HOW.out.frame (fun k _ hk => (Below.heap_alloc (w3.drew.alloc (.cells #[.int .i64 0, .slice none 0 0, .int .i64 0, .bool false] 32)) _ _ (by simp; omega)).trans (Below.heap_alloc w3.drew _ _ hk))
     have OC : Hid (Row ((w3.drew.alloc (.cells #[.int .i64 1, .string ⟨#[108, 111, 103, 45, 48, 48, 48, 48, 48, 48, 48, 49]⟩, .string ⟨#[]⟩, .slice none 0 0] 112)).alloc (.cells #[.int .i64 0, .slice none 0 0, .int .i64 0, .bool false] 32)) 112 4 (.slice oa P0.length oc) P0.length (P0.flatMap opcells) (fun k => w2.heap.size ≤ k ∧ k < w3.heap.size)) := HOW.out.frame (fun k _ hk => (Below.heap_alloc (w3.drew.alloc (.cells #[.int .i64 1, .string ⟨#[108, 111, 103, 45, 48, 48, 48, 48, 48, 48, 48, 49]⟩, .string ⟨#[]⟩, .slice none 0 0] 112)) _ _ (by simp; omega)).trans (Below.heap_alloc w3.drew _ _ hk))
     have RA : Hid (Reads (w3.drew.alloc (.cells #[.int .i64 1, .string ⟨#[108, 111, 103, 45, 48, 48, 48, 48, 48, 48, 48, 49]⟩, .string ⟨#[]⟩, .slice none 0 0] 112)) (.slice (some ⟨w3.heap.size, 0, none⟩) 1 1) 1 4 [.int .i64 1, .string ⟨#[108, 111, 103, 45, 48, 48, 48, 48, 48, 48, 48, 49]⟩, .string ⟨#[]⟩, .slice none 0 0]) := Reads.single (heap_alloc_new w3.drew _)
     have RB : Hid (Reads ((w3.drew.alloc (.cells #[.int .i64 0, .slice none 0 0, .int .i64 0, .bool false] 32)).alloc (.cells #[.int .i64 1, .string ⟨#[108, 111, 103, 45, 48, 48, 48, 48, 48, 48, 48, 49]⟩, .string ⟨#[]⟩, .slice none 0 0] 112)) (.slice (some ⟨w3.heap.size + 1, 0, none⟩) 1 1) 1 4 [.int .i64 1, .string ⟨#[108, 111, 103, 45, 48, 48, 48, 48, 48, 48, 48, 49]⟩, .string ⟨#[]⟩, .slice none 0 0]) := Reads.single (alloc2_high w3.drew _ _ (heap_alloc_new _ _))
     have RC : Hid (Reads ((w3.drew.alloc (.cells #[.int .i64 1, .string ⟨#[108, 111, 103, 45, 48, 48, 48, 48, 48, 48, 48, 49]⟩, .string ⟨#[]⟩, .slice none 0 0] 112)).alloc (.cells #[.int .i64 0, .slice none 0 0, .int .i64 0, .bool false] 32)) (.slice (some ⟨w3.heap.size, 0, none⟩) 1 1) 1 4 [.int .i64 1, .string ⟨#[108, 111, 103, 45, 48, 48, 48, 48, 48, 48, 48, 49]⟩, .string ⟨#[]⟩, .slice none 0 0]) := Reads.single ((alloc2_low w3.drew _ _).trans (heap_alloc_new _ _))
     have BA : Hid (Below w2.heap.size w2 w3.drew) := HBA3.out.drew
     have BB : Hid (Below w2.heap.size w2 (w3.drew.alloc (.cells #[.int .i64 1, .string ⟨#[108, 111, 103, 45, 48, 48, 48, 48, 48, 48, 48, 49]⟩, .string ⟨#[]⟩, .slice none 0 0] 112))) := BA.out.alloc hsz23 _
     have BC : Hid (Below w2.heap.size w2 (w3.drew.alloc (.cells #[.int .i64 0, .slice none 0 0, .int .i64 0, .bool false] 32))) := BA.out.alloc hsz23 _
     have BD : Hid (Below w2.heap.size w2 ((w3.drew.alloc (.cells #[.int .i64 0, .slice none 0 0, .int .i64 0, .bool false] 32)).alloc (.cells #[.int .i64 1, .string ⟨#[108, 111, 103, 45, 48, 48, 48, 48, 48, 48, 48, 49]⟩, .string ⟨#[]⟩, .slice none 0 0] 112))) := BC.out.alloc (by simp; omega) _
     have BE : Hid (Below w2.heap.size w2 ((w3.drew.alloc (.cells #[.int .i64 1, .string ⟨#[108, 111, 103, 45, 48, 48, 48, 48, 48, 48, 48, 49]⟩, .string ⟨#[]⟩, .slice none 0 0] 112)).alloc (.cells #[.int .i64 0, .slice none 0 0, .int .i64 0, .bool false] 32))) := BB.out.alloc (by simp; omega) _
     have H1C : Hid (∀ u ∈ ([.int .i64 1, .string ⟨#[108, 111, 103, 45, 48, 48, 48, 48, 48, 48, 48, 49]⟩, .string ⟨#[]⟩, .slice none 0 0] : List Value), u.oneCell' = true) := by intro u hu; simp only [List.mem_cons, List.not_mem_nil, or_false] at hu; rcases hu with rfl | rfl | rfl | rfl <;> rfl
     have HMX : Hid (P0.length + 1 ≤ maxLen) := by unfold maxLen; rw [Hid]; omega
     have HBT : Hid ((P0.length + 1) * 64 ≤ 140737488355328) := by rw [Hid]; omega
     have HGO : Hid (∀ (w1' w5 : World) (v5 : Value), Row w5 112 4 v5 (P0.length + 1) (P0.flatMap opcells ++ [.int .i64 1, .string ⟨#[108, 111, 103, 45, 48, 48, 48, 48, 48, 48, 48, 49]⟩, .string ⟨#[]⟩, .slice none 0 0]) (fun k => (w2.heap.size ≤ k ∧ k < w3.heap.size) ∨ w1'.heap.size ≤ k) → w3.heap.size ≤ w1'.heap.size → Below w2.heap.size w2 w5 →
         ∃ a5 c5, v5 = .slice a5 (P0.length + 1) c5 ∧ Hid (∀ w', Below w5.heap.size w5 w' → Calls Tryz.prog 71 #[.agg #[.int .i64 room, .slice la R.length lc, .int .i64 plan, .bool down], .slice a5 (P0.length + 1) c5] w' (DoP w' T rr))) := by
       intro w1' w5 v5 hr hw hb
       have ho := HO3.out.snoc (Q := [bareO ⟨1, nameI 1, ⟨#[]⟩, []⟩]) (w1 := w1') hr (fun k hk => hk.1) (by omega) rfl (by rw [nameI_one]; rfl) (by intro r hr; rw [List.mem_singleton] at hr; subst hr; exact Reads.nil _ _) (by intro r hr; rw [List.mem_singleton] at hr; subst hr; exact ⟨⟨show 1 ≤ 1 by decide, show 1 ≤ 5 by decide⟩, by have := nameI_size 1; show (nameI 1).size ≤ 100000; omega, show (⟨#[]⟩ : ByteArray).size ≤ 100000 by decide⟩)
       obtain ⟨a5, c5, rfl⟩ := slice_form hr
       refine ⟨a5, c5, rfl, fun w' hb' => ?_⟩
       have hln : (P0 ++ [bareO ⟨1, nameI 1, ⟨#[]⟩, []⟩]).length = P0.length + 1 := by simp
       have hby : bytsO (P0 ++ [bareO ⟨1, nameI 1, ⟨#[]⟩, []⟩]) ≤ 100000 := by rw [bytsO_append, ← HP0.out, bytsO_clean]; simp [bytsO]
       have := HST.out w' a5 c5 (P0 ++ [bareO ⟨1, nameI 1, ⟨#[]⟩, []⟩]) w2.heap.size (HKB.out _ (hb.trans (hb'.mono hb.size))) (by rw [hln]; exact ho.later hb') (by rw [hln]; omega) hby
       rwa [hln, ← HRE.out] at this
     obtain ⟨⟨r1, r2, r3, r4⟩, r5⟩ := rr
     unfold DoP rdisk at HGO
     clear HO3 HOW HST HCL
     go_region_held3 (fun w' => w'.cell? ⟨w.heap.size, 0, none⟩ = some (.int .i64 room) ∧ w'.cell? ⟨w.heap.size, 1, none⟩ = some (.slice la R.length lc) ∧ w'.cell? ⟨w.heap.size, 2, none⟩ = some (.int .i64 plan) ∧ w'.cell? ⟨w.heap.size, 3, none⟩ = some (.bool down)) (first | exact HKD.out _ (by assumption) | exact HKD.out _ (Lib.hid (by repeat (first | exact Hid.out (by assumption) | (refine Below.setCell ?_ (by first | (dsimp only; assumption) | (dsimp only; omega)) _)))))
       (first
       | (first
          | (refine step_row elemOp rfl rfl (S := fun k => w2.heap.size ≤ k ∧ k < w3.heap.size) (v := .slice oa P0.length oc) (n := P0.length) (xs := P0.flatMap opcells) rfl OA.out (y := .slice (some ⟨w3.heap.size, 0, none⟩) 1 1) (m := 1) (news := [.int .i64 1, .string ⟨#[108, 111, 103, 45, 48, 48, 48, 48, 48, 48, 48, 49]⟩, .string ⟨#[]⟩, .slice none 0 0]) rfl RA.out H1C.out HMX.out HBT.out ?_; intro v5 w5 hr5 hc5
             have HC5 := Lib.hid hc5
             have HB5 : Hid (Below w2.heap.size w2 w5) := BB.out.trans (hc5.toBelow (B := w2.heap.size) (by simp; omega) (fun k hk h => by omega))
             obtain ⟨a5, c5, rfl, HS5⟩ := HGO.out _ w5 _ hr5 (by simp <;> omega) HB5.out)
          | (refine step_row elemOp rfl rfl (S := fun k => w2.heap.size ≤ k ∧ k < w3.heap.size) (v := .slice oa P0.length oc) (n := P0.length) (xs := P0.flatMap opcells) rfl OB.out (y := .slice (some ⟨w3.heap.size + 1, 0, none⟩) 1 1) (m := 1) (news := [.int .i64 1, .string ⟨#[108, 111, 103, 45, 48, 48, 48, 48, 48, 48, 48, 49]⟩, .string ⟨#[]⟩, .slice none 0 0]) rfl RB.out H1C.out HMX.out HBT.out ?_; intro v5 w5 hr5 hc5
             have HC5 := Lib.hid hc5
             have HB5 : Hid (Below w2.heap.size w2 w5) := BD.out.trans (hc5.toBelow (B := w2.heap.size) (by simp; omega) (fun k hk h => by omega))
             obtain ⟨a5, c5, rfl, HS5⟩ := HGO.out _ w5 _ hr5 (by simp <;> omega) HB5.out
             have HSZ5 : Hid (w3.heap.size < w5.heap.size) := by have h1 := HC5.out.size; simp at h1; rw [Hid]; omega
             have HZ5 : Hid (w5.heap[w3.heap.size]? = some (.cells #[.int .i64 0, .slice none 0 0, .int .i64 0, .bool false] 32 (0, 0))) := (hc5.block w3.heap.size (by simp <;> omega) (fun h => by omega)).trans ((alloc2_low w3.drew _ _).trans (heap_alloc_new _ _)))
          | (refine step_row elemOp rfl rfl (S := fun k => w2.heap.size ≤ k ∧ k < w3.heap.size) (v := .slice oa P0.length oc) (n := P0.length) (xs := P0.flatMap opcells) rfl OC.out (y := .slice (some ⟨w3.heap.size, 0, none⟩) 1 1) (m := 1) (news := [.int .i64 1, .string ⟨#[108, 111, 103, 45, 48, 48, 48, 48, 48, 48, 48, 49]⟩, .string ⟨#[]⟩, .slice none 0 0]) rfl RC.out H1C.out HMX.out HBT.out ?_; intro v5 w5 hr5 hc5
             have HC5 := Lib.hid hc5
             have HB5 : Hid (Below w2.heap.size w2 w5) := BE.out.trans (hc5.toBelow (B := w2.heap.size) (by simp; omega) (fun k hk h => by omega))
             obtain ⟨a5, c5, rfl, HS5⟩ := HGO.out _ w5 _ hr5 (by simp <;> omega) HB5.out
             have HSZ5 : Hid (w3.heap.size + 1 < w5.heap.size) := by have h1 := HC5.out.size; simp at h1; rw [Hid]; omega
             have HZ5 : Hid (w5.heap[w3.heap.size + 1]? = some (.cells #[.int .i64 0, .slice none 0 0, .int .i64 0, .bool false] 32 (0, 0))) := (hc5.block (w3.heap.size + 1) (by simp <;> omega) (fun h => by omega)).trans (alloc2_high w3.drew _ _ (heap_alloc_new _ _)));
          have hsz5 : w2.heap.size ≤ w5.heap.size := HB5.out.size
          have HB5a := Lib.hid (HB5.out.alloc HB5.out.size (.cells #[.int .i64 0, .slice none 0 0, .int .i64 0, .bool false] 32))
          clear hr5 hc5)
       | (go_at_call 71
          first
          | (refine (HS5.out w5 (Below.refl _ _)).mono ?_; rintro e w6 ⟨a6, c6, R6, rfl, hf6, hr6, hb6⟩
             have HB6 := Lib.hid (HB5.out.trans (hb6.mono HB5.out.size)))
          | (refine (HS5.out (w5.alloc (.cells #[.int .i64 0, .slice none 0 0, .int .i64 0, .bool false] 32)) ((Below.refl _ _).alloc (Nat.le_refl _) _)).mono ?_; rintro e w6 ⟨a6, c6, R6, rfl, hf6, hr6, hb6⟩
             have HB6 := Lib.hid (HB5a.out.trans (hb6.mono HB5a.out.size)));
          have HF6 := Lib.hid hf6
          have HR6 := Lib.hid hr6
          have HB6a := Lib.hid (HB6.out.alloc HB6.out.size (.cells #[.int .i64 0, .slice none 0 0, .int .i64 0, .bool false] 32))
          have HB6b := Lib.hid (HB6.out.alloc HB6.out.size (.cells #[.int .i64 r1, .slice a6 R6.length c6, .int .i64 r3, .bool r4] 32))
          first
          | (have Z6 : Hid (w6.heap[w5.heap.size]? = some (.cells #[.int .i64 0, .slice none 0 0, .int .i64 0, .bool false] 32 (0, 0))) := (hb6.block w5.heap.size (by simp)).trans (heap_alloc_new w5 _)
             obtain ⟨z0, z1, z2, z3⟩ := cells4 Z6.out
             have f0 := freeAt Z6.out 0
             have f1 := freeAt Z6.out 1
             have f2 := freeAt Z6.out 2
             have f3 := freeAt Z6.out 3)
          | (have Z6 := Lib.hid ((hb6.block _ (lt_of_heap HZ5.out)).trans HZ5.out)
             obtain ⟨z0, z1, z2, z3⟩ := cells4 Z6.out
             have f0 := freeAt Z6.out 0
             have f1 := freeAt Z6.out 1
             have f2 := freeAt Z6.out 2
             have f3 := freeAt Z6.out 3)
          | skip
          clear hf6 hr6 hb6))
     all_goals clear HGO OA OB OC RA RB RC BA BB BC BD BE H1C HMX HBT HS5
     all_goals first
     | (have HM := Lib.hid (mids_set (U := T) (r1 := r1) (r3 := r3) (r4 := r4) (b4 := w5.heap.size) Z6.out HB6.out HR6.out HTW.out hsz5 (by simp))
        generalize (((w6.setCell ⟨w5.heap.size, 0, none⟩ (.int .i64 r1)).setCell ⟨w5.heap.size, 1, none⟩ (.slice a6 R6.length c6)).setCell ⟨w5.heap.size, 2, none⟩ (.int .i64 r3)).setCell ⟨w5.heap.size, 3, none⟩ (.bool r4) = W7 at HM ⊢
        generalize hb4 : w5.heap.size = b4 at HM ⊢
        clear hb4)
     | (have HM := Lib.hid (mids_set (U := T) (r1 := r1) (r3 := r3) (r4 := r4) (b4 := w3.heap.size) Z6.out HB6.out HR6.out HTW.out hsz23 HSZ5.out)
        generalize (((w6.setCell ⟨w3.heap.size, 0, none⟩ (.int .i64 r1)).setCell ⟨w3.heap.size, 1, none⟩ (.slice a6 R6.length c6)).setCell ⟨w3.heap.size, 2, none⟩ (.int .i64 r3)).setCell ⟨w3.heap.size, 3, none⟩ (.bool r4) = W7 at HM ⊢
        generalize hb4 : w3.heap.size = b4 at HM ⊢
        clear hb4)
     | (have HM := Lib.hid (mids_set (U := T) (r1 := r1) (r3 := r3) (r4 := r4) (b4 := w3.heap.size + 1) Z6.out HB6.out HR6.out HTW.out (Nat.le_succ_of_le hsz23) HSZ5.out)
        generalize (((w6.setCell ⟨w3.heap.size + 1, 0, none⟩ (.int .i64 r1)).setCell ⟨w3.heap.size + 1, 1, none⟩ (.slice a6 R6.length c6)).setCell ⟨w3.heap.size + 1, 2, none⟩ (.int .i64 r3)).setCell ⟨w3.heap.size + 1, 3, none⟩ (.bool r4) = W7 at HM ⊢
        generalize hb4 : w3.heap.size + 1 = b4 at HM ⊢
        clear hb4)
     | (have HM := Lib.hid (mids_late (U := T) (r1 := r1) (r3 := r3) (r4 := r4) HB6.out HR6.out hsz5)
        generalize w6.alloc (.cells #[.int .i64 r1, .slice a6 R6.length c6, .int .i64 r3, .bool r4] 32) = W7 at HM ⊢
        generalize w6.heap.size = b4 at HM ⊢)
     all_goals
       have HZ7 := Lib.hid (HKZ.out _ HM.out.bel)
       have HB7 := Lib.hid (HKB.out _ HM.out.bel)
       obtain ⟨z0', z1', z2', z3', z4', z5', z6', z7'⟩ := cells8w HZ7.out
       obtain ⟨y0', y1', y2', y3'⟩ := cells4 HM.out.blk
       have q0 := freeAt HZ7.out 0
       have q1 := freeAt HZ7.out 1
       have q2 := freeAt HZ7.out 2
       have q3 := freeAt HZ7.out 3
       have q4 := freeAt HZ7.out 4
       have q5 := freeAt HZ7.out 5
       have q6 := freeAt HZ7.out 6
       have q7 := freeAt HZ7.out 7
       have HW2 : Hid (w.heap.size + 1 < w2.heap.size) := lt_of_heap HZ2.out
       go_wp2
       rw [← HRR.out]
       refine ropen_end (X := []) (room := r1) (plan := r3) (most' := most) (n := 1) (size := 0) (waiting := 0) (down := r4) (R' := R6) (TT := fun k => (T k ∨ w2.heap.size ≤ k) ∧ k ≠ b4) HZ7.out HB7.out HM.out.lst (fun k hk => by rcases hk.1 with h | h; exact .inl h; exact .inr (by have := HW2.out; omega)) (fun hk => by rcases hk.1 with h | h; (have := HTT.out _ h; omega); (have := HW2.out; omega)) (Row.nil _ _ _ _) (by simp) ?_ (by simp) ?_ HF6.out rfl rfl rfl
       · unfold rrecsOf; rw [if_neg (by rw [HC.out]; decide), if_pos HF0.out]; rfl
       · unfold rlogOf; rw [if_neg (by rw [HC.out]; decide), if_pos HF0.out]
         have e : R6.map RF.f = r2 := HF6.out
         rw [e]
   · exact absurd HEM.out hsh.1
 · exact absurd HCO.out hc
end Go.Proofs.YtgdmdbdljmlkkaaGreatDoor
