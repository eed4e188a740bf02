/- Helpers for the reference's Open.
The end of the reference's Open, and the changes that it lays down. -/
import Derived.Test.YtgdmdbdljmlkkaaGreatDoorScR2
import Derived.Test.YtgdmdbdljmlkkaaGreatDoorRFindW
namespace Go.Proofs.YtgdmdbdljmlkkaaGreatDoor
set_option linter.unusedVariables false
set_option linter.unusedSimpArgs false
open Go.RowKit

theorem results_row_tmp2 {P : Program} {fn : Func} {p u v : Tmp} {ty : TypeId} (h : fn.results = #[.cell p ty, .tmp u, .tmp v]) (tmps : Array Value) (w : World) (g : Nat) (t : TypeId) (cs : Array Value) (fr : Nat × Nat) (d : TypeDesc)
    (hp : tmps.getD p undef = .pointer (some ⟨g, 0, none⟩)) (hg : w.heap[g]? = some (.cells cs t fr))
    (hu : P.underlying ty = some d) (hd : (match d with | .struct _ | .array _ _ => true | _ => false) = true) (hi : (P.info? ty).map (·.size) = some cs.size) :
    (results fn tmps).run P w = .ok (.tuple #[.agg cs, tmps.getD u undef, tmps.getD v undef]) w := by
  have hl := run_loadVar_row w g t ty cs fr d hg hu hd hi
  simp only [results, h]
  simp [Sem.run_bind, Result.andThen, show tmps[p]?.getD undef = _ from by simpa [Array.getD_eq_getD_getElem?] using hp, asAddr, hl]

set_option maxRecDepth 100000 in
theorem set8 {W : World} {B : Nat} {t : TypeId} {x0 x1 x2 x3 x4 x5 x6 x7 : Value} (c0 c1 c2 c3 c4 c5 c6 c7 : Value) (hz : W.heap[B]? = some (.cells #[x0, x1, x2, x3, x4, x5, x6, x7] t (0, 0))) :
    ((((((((W.setCell ⟨B, 0, none⟩ c0).setCell ⟨B, 1, none⟩ c1).setCell ⟨B, 2, none⟩ c2).setCell ⟨B, 3, none⟩ c3).setCell ⟨B, 4, none⟩ c4).setCell ⟨B, 5, none⟩ c5).setCell ⟨B, 6, none⟩ c6).setCell ⟨B, 7, none⟩ c7).heap[B]? = some (.cells #[c0, c1, c2, c3, c4, c5, c6, c7] t (0, 0)) ∧ (∀ k, k ≠ B → ((((((((W.setCell ⟨B, 0, none⟩ c0).setCell ⟨B, 1, none⟩ c1).setCell ⟨B, 2, none⟩ c2).setCell ⟨B, 3, none⟩ c3).setCell ⟨B, 4, none⟩ c4).setCell ⟨B, 5, none⟩ c5).setCell ⟨B, 6, none⟩ c6).setCell ⟨B, 7, none⟩ c7).heap[k]? = W.heap[k]?) ∧ (∀ n w0, Below n w0 W → n ≤ B → Below n w0 ((((((((W.setCell ⟨B, 0, none⟩ c0).setCell ⟨B, 1, none⟩ c1).setCell ⟨B, 2, none⟩ c2).setCell ⟨B, 3, none⟩ c3).setCell ⟨B, 4, none⟩ c4).setCell ⟨B, 5, none⟩ c5).setCell ⟨B, 6, none⟩ c6).setCell ⟨B, 7, none⟩ c7)) := by
  have H0 : (W.setCell ⟨B, 0, none⟩ c0).heap[B]? = some (.cells #[c0, x1, x2, x3, x4, x5, x6, x7] t (0, 0)) := heap_store hz 0 c0
  have H1 : ((W.setCell ⟨B, 0, none⟩ c0).setCell ⟨B, 1, none⟩ c1).heap[B]? = some (.cells #[c0, c1, x2, x3, x4, x5, x6, x7] t (0, 0)) := heap_store H0 1 c1
  have H2 : (((W.setCell ⟨B, 0, none⟩ c0).setCell ⟨B, 1, none⟩ c1).setCell ⟨B, 2, none⟩ c2).heap[B]? = some (.cells #[c0, c1, c2, x3, x4, x5, x6, x7] t (0, 0)) := heap_store H1 2 c2
  have H3 : ((((W.setCell ⟨B, 0, none⟩ c0).setCell ⟨B, 1, none⟩ c1).setCell ⟨B, 2, none⟩ c2).setCell ⟨B, 3, none⟩ c3).heap[B]? = some (.cells #[c0, c1, c2, c3, x4, x5, x6, x7] t (0, 0)) := heap_store H2 3 c3
  have H4 : (((((W.setCell ⟨B, 0, none⟩ c0).setCell ⟨B, 1, none⟩ c1).setCell ⟨B, 2, none⟩ c2).setCell ⟨B, 3, none⟩ c3).setCell ⟨B, 4, none⟩ c4).heap[B]? = some (.cells #[c0, c1, c2, c3, c4, x5, x6, x7] t (0, 0)) := heap_store H3 4 c4
  have H5 : ((((((W.setCell ⟨B, 0, none⟩ c0).setCell ⟨B, 1, none⟩ c1).setCell ⟨B, 2, none⟩ c2).setCell ⟨B, 3, none⟩ c3).setCell ⟨B, 4, none⟩ c4).setCell ⟨B, 5, none⟩ c5).heap[B]? = some (.cells #[c0, c1, c2, c3, c4, c5, x6, x7] t (0, 0)) := heap_store H4 5 c5
  have H6 : (((((((W.setCell ⟨B, 0, none⟩ c0).setCell ⟨B, 1, none⟩ c1).setCell ⟨B, 2, none⟩ c2).setCell ⟨B, 3, none⟩ c3).setCell ⟨B, 4, none⟩ c4).setCell ⟨B, 5, none⟩ c5).setCell ⟨B, 6, none⟩ c6).heap[B]? = some (.cells #[c0, c1, c2, c3, c4, c5, c6, x7] t (0, 0)) := heap_store H5 6 c6
  have H7 : ((((((((W.setCell ⟨B, 0, none⟩ c0).setCell ⟨B, 1, none⟩ c1).setCell ⟨B, 2, none⟩ c2).setCell ⟨B, 3, none⟩ c3).setCell ⟨B, 4, none⟩ c4).setCell ⟨B, 5, none⟩ c5).setCell ⟨B, 6, none⟩ c6).setCell ⟨B, 7, none⟩ c7).heap[B]? = some (.cells #[c0, c1, c2, c3, c4, c5, c6, c7] t (0, 0)) := heap_store H6 7 c7
  refine ⟨H7, fun k hne => ?_, fun n w0 hb hle => ?_⟩
  · rw [Below.heap_setCell _ _ _ _ hne, Below.heap_setCell _ _ _ _ hne, Below.heap_setCell _ _ _ _ hne, Below.heap_setCell _ _ _ _ hne, Below.heap_setCell _ _ _ _ hne, Below.heap_setCell _ _ _ _ hne, Below.heap_setCell _ _ _ _ hne, Below.heap_setCell _ _ _ _ hne]
  · exact ((((((((hb.setCell (p := ⟨B, 0, none⟩) hle _).setCell (p := ⟨B, 1, none⟩) hle _).setCell (p := ⟨B, 2, none⟩) hle _).setCell (p := ⟨B, 3, none⟩) hle _).setCell (p := ⟨B, 4, none⟩) hle _).setCell (p := ⟨B, 5, none⟩) hle _).setCell (p := ⟨B, 6, none⟩) hle _).setCell (p := ⟨B, 7, none⟩) hle _)

/-- Bytes do not lie in a block without bytes. -/
theorem bytes_not_in {w : World} {v : Value} {l : List UInt8} {b : Nat} {cs : Array Value} {t : TypeId} {fr : Nat × Nat} (h : Reads w v l.length 1 (byts l)) (hl : l ≠ []) (hb : w.heap[b]? = some (.cells cs t fr)) (hcs : ∀ u ∈ cs, ∀ n, u ≠ .int .u8 n) :
    ∀ k, v.ownBlock = some k → k ≠ b := by
  have hlp := List.length_pos_iff.2 hl
  obtain ⟨bk, o, c, rfl, -, -, hc⟩ := h.at hlp
  intro k hk e
  have hk2 : bk = k := by simpa [Value.ownBlock] using hk
  obtain ⟨y, l', rfl⟩ := List.exists_cons_of_ne_nil hl
  have h0 := hc 0 (.int .u8 y.toNat) (by rfl)
  have hb2 : w.heap[bk]? = some (.cells cs t fr) := by rw [hk2, e]; exact hb
  have h1 : cs[o + 0]? = some (.int .u8 y.toNat) := by
    simpa [World.cell?, hb2] using h0
  exact hcs _ (Array.mem_of_getElem? h1) _ rfl

theorem recs_full {g : Int → List UInt8} {L : List Int} {x : List UInt8} (h : x ∈ recsG g L) : x ≠ [] := by
  unfold recsG at h
  obtain ⟨n, -, h2⟩ := List.mem_flatMap.1 h
  unfold fullL at h2
  simpa using (List.mem_filter.1 h2).2
end Go.Proofs.YtgdmdbdljmlkkaaGreatDoor
namespace Go.Proofs.YtgdmdbdljmlkkaaGreatDoor
set_option linter.unusedVariables false
set_option linter.unusedSimpArgs false
open Go.RowKit

/-- The reference's log after Open, and its records. -/
def rlogOf (D' : DS) (f : FR) (most : Int) (e : Int) : LS :=
  if f.code ≠ 0 then ⟨0, 0, 0, 0, D'⟩
  else if f.last = 0 then ⟨1, 0, 0, most, D'⟩
  else if e ≠ 0 then ⟨0, 0, 0, 0, D'⟩
  else ⟨f.last, f.front.length, 0, most, D'⟩
def rrecsOf (f : FR) (e : Int) : List (List UInt8) := if f.code ≠ 0 then [] else if f.last = 0 then [] else if e ≠ 0 then [] else f.recs
def ROpenP (w : World) (T : Nat → Prop) (f : FR) (most : Int) (r : DS × Int) : Ending → World → Prop := fun e w' =>
  ∃ (a : Option Addr) (c : Nat) (R' : List RF) (vr : Option Addr) (cr : Nat) (X : List SL),
    e = .returned (.tuple #[rlog (.slice a R'.length c) (rlogOf r.1 f most r.2), .slice vr X.length cr, .int .i64 r.2]) ∧ R'.map RF.f = r.1.files ∧ RLi w' (.slice a R'.length c) R' (fun k => T k ∨ w.heap.size ≤ k) ∧
    SLs w' (.slice vr X.length cr) X ∧ X.map SL.l = rrecsOf f r.2 ∧ X.length ≤ 13000000 ∧ Below w.heap.size w w'

theorem Reads.keep {w w' : World} {v : Value} {n size : Nat} {xs : List Value} (h : Reads w v n size xs) (hb : ∀ k, v.ownBlock = some k → w'.heap[k]? = w.heap[k]?) : Reads w' v n size xs := by
  obtain ⟨hl, ao, c, rfl, hnc, hnone, hcells⟩ := h
  refine ⟨hl, ao, c, rfl, hnc, hnone, fun ad had j u hu => ?_⟩
  subst had
  have e : (ad.add j).block = ad.block := by unfold Addr.add; split <;> rfl
  have hc := hcells ad rfl j u hu
  rw [← hc]
  exact World.cell?_of_block (by rw [e]; exact hb _ rfl)

theorem row_own {w : World} {e : TypeId} {size : Nat} {a : Option Addr} {n c : Nat} {xs : List Value} {S : Nat → Prop} (h : Row w e size (.slice a n c) n xs S) : ∀ k, (Value.slice a n c).ownBlock = some k → S k := by
  intro k hk
  cases a with
  | none => cases hk
  | some ad =>
    have h1 := h.at_block
    have h2 : ad.block = k := by simpa [Value.ownBlock] using hk
    exact h2 ▸ h1

/-- What can be read in a later world in blocks that were there already could be read before. -/
theorem Reads.before {w w' : World} {v : Value} {n size : Nat} {xs : List Value} (h : Reads w' v n size xs) (hb : Below w.heap.size w w') (hlt : ∀ k, v.ownBlock = some k → k < w.heap.size) : Reads w v n size xs :=
  h.keep fun k hk => (hb.block k (hlt k hk)).symm

/-- Bytes that can be read behind two blocks without bytes could be read ahead of them. -/
theorem bytes_before {w : World} {o1 o2 : Array Value} {t1 t2 : TypeId} {v : Value} {l : List UInt8} (h : Reads ((w.alloc (.cells o1 t1)).alloc (.cells o2 t2)) v l.length 1 (byts l)) (hl : l ≠ []) (h1 : ∀ u ∈ o1, ∀ n, u ≠ .int .u8 n) (h2 : ∀ u ∈ o2, ∀ n, u ≠ .int .u8 n) : Reads w v l.length 1 (byts l) := by
  have hb : Below w.heap.size w ((w.alloc (.cells o1 t1)).alloc (.cells o2 t2)) := ((Below.refl _ _).alloc (Nat.le_refl _) _).alloc (by simp) _
  have n1 := bytes_not_in h hl ((alloc2_low w _ _).trans (heap_alloc_new _ _)) h1
  have n2 := bytes_not_in h hl (alloc2_high w _ _ (heap_alloc_new _ _)) h2
  refine h.before hb fun k hk => ?_
  obtain ⟨b, o, c, rfl, -, hlt, -⟩ := h.at (List.length_pos_iff.2 hl)
  have hk2 : b = k := by simpa [Value.ownBlock] using hk
  have a1 := n1 k hk
  have a2 := n2 k hk
  simp at hlt
  omega

/-- Changes laid down in a row of one's own, with bytes that could be read in the beginning. -/
structure OpsL (w0 w : World) (v : Value) (P : List RO) (B : Nat) : Prop where
  row : Row w 112 4 v P.length (P.flatMap opcells) (fun k => B ≤ k)
  each : ∀ r ∈ P, Reads w0 (.slice r.a r.o.b.length r.c) r.o.b.length 1 (byts r.o.b)
  good : ∀ r ∈ P, (1 ≤ r.o.k ∧ r.o.k ≤ 5) ∧ r.o.n.size ≤ 100000 ∧ r.o.t.size ≤ 100000
theorem OpsL.ros {w0 w : World} {v : Value} {P : List RO} {B : Nat} (h : OpsL w0 w v P B) (hb : Below w0.heap.size w0 w) : ROs w v P := ⟨h.row.reads, fun r hr => (h.each r hr).later hb, h.good⟩
theorem OpsL.later {w0 w w' : World} {v : Value} {P : List RO} {B : Nat} (h : OpsL w0 w v P B) (hb : Below w.heap.size w w') : OpsL w0 w' v P B := ⟨h.row.frame (fun k _ hk => hb.block k hk), h.each, h.good⟩
theorem OpsL.snoc {w0 w w1 w5 : World} {v v5 : Value} {P Q : List RO} {B m : Nat} {news : List Value} {S : Nat → Prop} (h : OpsL w0 w v P B) (hr : Row w5 112 4 v5 (P.length + m) (P.flatMap opcells ++ news) (fun k => S k ∨ w1.heap.size ≤ k)) (hS : ∀ k, S k → B ≤ k) (hw : B ≤ w1.heap.size) (hm : m = Q.length) (hn : news = Q.flatMap opcells)
    (h1 : ∀ r ∈ Q, Reads w0 (.slice r.a r.o.b.length r.c) r.o.b.length 1 (byts r.o.b)) (h2 : ∀ r ∈ Q, (1 ≤ r.o.k ∧ r.o.k ≤ 5) ∧ r.o.n.size ≤ 100000 ∧ r.o.t.size ≤ 100000) : OpsL w0 w5 v5 (P ++ Q) B := by
  subst hm hn
  refine ⟨?_, fun r hr => ?_, fun r hr => ?_⟩
  · rw [List.length_append, List.flatMap_append]
    exact hr.mono (fun k hk => by rcases hk with hk | hk; exact hS k hk; omega)
  · rcases List.mem_append.1 hr with hr | hr
    · exact h.each r hr
    · exact h1 r hr
  · rcases List.mem_append.1 hr with hr | hr
    · exact h.good r hr
    · exact h2 r hr
theorem opsl_clean {w0 w : World} {v : Value} {D : DS} {ss : List ByteArray} {B C : Nat} (hr : Row w 112 4 v (cleanL D ss).length (((cleanL D ss).map bareO).flatMap opcells) (fun k => C ≤ k)) (hB : B ≤ C) (hs : ∀ n ∈ ss, n.size ≤ 100000) : OpsL w0 w v ((cleanL D ss).map bareO) B := by
  refine ⟨?_, fun r hr => ?_, fun r hr => ?_⟩
  · rw [List.length_map]; exact hr.mono (fun k hk => by omega)
  · obtain ⟨o, ho, rfl⟩ := List.mem_map.1 hr
    obtain ⟨n, hn, rfl⟩ := List.mem_map.1 ho
    exact Reads.nil _ _
  · obtain ⟨o, ho, rfl⟩ := List.mem_map.1 hr
    obtain ⟨n, hn, rfl⟩ := List.mem_map.1 ho
    exact ⟨⟨show 1 ≤ 5 by decide, show 5 ≤ 5 by decide⟩, hs n (List.mem_filter.1 hn).1, show (⟨#[]⟩ : ByteArray).size ≤ 100000 by decide⟩
theorem byts_take (l : List UInt8) (k : Nat) : byts (l.take k) = (byts l).take k := List.map_take ..
theorem bareO_o (l : List OP) : (l.map bareO).map RO.o = l := by rw [List.map_map]; exact List.map_id _
theorem bytsO_append (P Q : List RO) : bytsO (P ++ Q) = bytsO P + bytsO Q := by unfold bytsO; rw [List.map_append, List.sum_append]
theorem bytsO_clean (D : DS) (ss : List ByteArray) : bytsO ((cleanL D ss).map bareO) = 0 := by
  unfold cleanL bytsO
  induction (List.filter (fun n => (findD D.files n).isSome) ss) with
  | nil => rfl
  | cons a l ih => simpa using ih

theorem findS_full {D : DS} {x : List UInt8} (h : x ∈ (findS D).recs) : x ≠ [] := by
  unfold findS at h
  split at h
  · simp [FR.bad] at h
  · unfold findG at h
    split at h
    · simp [FR.bad] at h
    · split at h
      · exact recs_full h
      · simp [FR.bad] at h
theorem reads_twoS (w : World) (x y : Value) (T : TypeId) : Reads (w.alloc (.cells #[x, y] T)) (.slice (some ⟨w.heap.size, 0, none⟩) 2 2) 2 1 [x, y] := Reads.block (heap_alloc_new w _) 2 1 rfl

set_option maxRecDepth 100000 in
theorem ropen_core {w W : World} {T : Nat → Prop} {f : FR} {most : Int} {r : DS × Int} {a vr : Option Addr} {c cr : Nat} {R' : List RF} {X : List SL} {room plan most' n size waiting : Int} {down : Bool}
    (H : W.heap[w.heap.size + 1]? = some (.cells #[.int .i64 room, .slice a R'.length c, .int .i64 plan, .bool down, .int .i64 most', .int .i64 n, .int .i64 size, .int .i64 waiting] 34 (0, 0))) (hb : Below w.heap.size w W) (hr : RLi W (.slice a R'.length c) R' (fun k => T k ∨ w.heap.size ≤ k))
    (hX : Reads W (.slice vr X.length cr) X.length 1 (X.map SL.v)) (hxx : ∀ x ∈ X, Reads w x.v x.l.length 1 (byts x.l)) (hxl : X.map SL.l = rrecsOf f r.2) (hxn : X.length ≤ 13000000)
    (hM : (⟨n, size, waiting, most', ⟨room, R'.map RF.f, plan, down⟩⟩ : LS) = rlogOf r.1 f most r.2) (hrf : R'.map RF.f = r.1.files)
    {tmps : Array Value} (h4 : tmps.getD 4 undef = .pointer (some ⟨w.heap.size + 1, 0, none⟩)) (h5 : tmps.getD 5 undef = .slice vr X.length cr) (h6 : tmps.getD 6 undef = .int .i64 r.2) :
    bodyPost Tryz.prog Tryz.f28 (ROpenP w T f most r) Exit.ret { tmps := tmps, defers := [] } W := by
  refine bodyPost_ret (results_row_tmp2 (P := Tryz.prog) Tryz.results28 _ _ (w.heap.size + 1) 34 _ (0, 0) _ h4 H Tryz.underlying34 rfl rfl) rfl ?_
  rw [h5, h6]
  exact ⟨a, c, R', vr, cr, X, by rw [← hM], hrf, hr, ⟨hX, fun x hx => (hxx x hx).later hb⟩, hxl, hxn, hb⟩

set_option maxRecDepth 100000 in
theorem ropen_end {w wz : World} {T TT : Nat → Prop} {f : FR} {most : Int} {r : DS × Int} {x0 x1 x2 x3 x4 x5 x6 x7 : Value} {a vr : Option Addr} {c cr : Nat} {R' : List RF} {X : List SL} {room plan most' n size waiting : Int} {down : Bool}
    (hz : wz.heap[w.heap.size + 1]? = some (.cells #[x0, x1, x2, x3, x4, x5, x6, x7] 34 (0, 0))) (hb : Below w.heap.size w wz) (hr : RLi wz (.slice a R'.length c) R' TT) (hTT : ∀ k, TT k → T k ∨ w.heap.size ≤ k) (hno : ¬ TT (w.heap.size + 1))
    (hX : Reads wz (.slice vr X.length cr) X.length 1 (X.map SL.v)) (hXb : ∀ k, (Value.slice vr X.length cr).ownBlock = some k → k ≠ w.heap.size + 1) (hxx : ∀ x ∈ X, Reads w x.v x.l.length 1 (byts x.l)) (hxl : X.map SL.l = rrecsOf f r.2) (hxn : X.length ≤ 13000000)
    (hM : (⟨n, size, waiting, most', ⟨room, R'.map RF.f, plan, down⟩⟩ : LS) = rlogOf r.1 f most r.2) (hrf : R'.map RF.f = r.1.files)
    {tmps : Array Value} (h4 : tmps.getD 4 undef = .pointer (some ⟨w.heap.size + 1, 0, none⟩)) (h5 : tmps.getD 5 undef = .slice vr X.length cr) (h6 : tmps.getD 6 undef = .int .i64 r.2) :
    bodyPost Tryz.prog Tryz.f28 (ROpenP w T f most r) Exit.ret { tmps := tmps, defers := [] } ((((((((wz.setCell ⟨w.heap.size + 1, 0, none⟩ (.int .i64 room)).setCell ⟨w.heap.size + 1, 1, none⟩ (.slice a R'.length c)).setCell ⟨w.heap.size + 1, 2, none⟩ (.int .i64 plan)).setCell ⟨w.heap.size + 1, 3, none⟩ (.bool down)).setCell ⟨w.heap.size + 1, 4, none⟩ (.int .i64 most')).setCell ⟨w.heap.size + 1, 5, none⟩ (.int .i64 n)).setCell ⟨w.heap.size + 1, 6, none⟩ (.int .i64 size)).setCell ⟨w.heap.size + 1, 7, none⟩ (.int .i64 waiting)) := by
  obtain ⟨H, hk, hB⟩ := set8 (.int .i64 room) (.slice a R'.length c) (.int .i64 plan) (.bool down) (.int .i64 most') (.int .i64 n) (.int .i64 size) (.int .i64 waiting) hz
  have hb' := hB _ _ hb (by omega)
  have hr' := hr.frame (fun k hk' _ => hk k (fun e => hno (e ▸ hk')))
  have hX' := hX.keep (fun k hk' => hk k (hXb k hk'))
  clear hk hB hz hb hr hX
  exact ropen_core H hb' (hr'.mono hTT) hX' hxx hxl hxn hM hrf h4 h5 h6
set_option maxRecDepth 100000 in
theorem ropen_end_drew {w wz : World} {T TT : Nat → Prop} {f : FR} {most : Int} {r : DS × Int} {x0 x1 x2 x3 x4 x5 x6 x7 : Value} {a vr : Option Addr} {c cr : Nat} {R' : List RF} {X : List SL} {room plan most' n size waiting : Int} {down : Bool}
    (hz : wz.heap[w.heap.size + 1]? = some (.cells #[x0, x1, x2, x3, x4, x5, x6, x7] 34 (0, 0))) (hb : Below w.heap.size w wz) (hr : RLi wz (.slice a R'.length c) R' TT) (hTT : ∀ k, TT k → T k ∨ w.heap.size ≤ k) (hno : ¬ TT (w.heap.size + 1))
    (hX : Reads wz (.slice vr X.length cr) X.length 1 (X.map SL.v)) (hXb : ∀ k, (Value.slice vr X.length cr).ownBlock = some k → k ≠ w.heap.size + 1) (hxx : ∀ x ∈ X, Reads w x.v x.l.length 1 (byts x.l)) (hxl : X.map SL.l = rrecsOf f r.2) (hxn : X.length ≤ 13000000)
    (hM : (⟨n, size, waiting, most', ⟨room, R'.map RF.f, plan, down⟩⟩ : LS) = rlogOf r.1 f most r.2) (hrf : R'.map RF.f = r.1.files)
    {W : World} (hW : ((((((((wz.setCell ⟨w.heap.size + 1, 0, none⟩ (.int .i64 room)).setCell ⟨w.heap.size + 1, 1, none⟩ (.slice a R'.length c)).setCell ⟨w.heap.size + 1, 2, none⟩ (.int .i64 plan)).setCell ⟨w.heap.size + 1, 3, none⟩ (.bool down)).setCell ⟨w.heap.size + 1, 4, none⟩ (.int .i64 most')).setCell ⟨w.heap.size + 1, 5, none⟩ (.int .i64 n)).setCell ⟨w.heap.size + 1, 6, none⟩ (.int .i64 size)).setCell ⟨w.heap.size + 1, 7, none⟩ (.int .i64 waiting)) = W)
    {tmps : Array Value} (h4 : tmps.getD 4 undef = .pointer (some ⟨w.heap.size + 1, 0, none⟩)) (h5 : tmps.getD 5 undef = .slice vr X.length cr) (h6 : tmps.getD 6 undef = .int .i64 r.2) :
    bodyPost Tryz.prog Tryz.f28 (ROpenP w T f most r) Exit.ret { tmps := tmps, defers := [] } W.drew := by
  obtain ⟨H, hk, hB⟩ := set8 (.int .i64 room) (.slice a R'.length c) (.int .i64 plan) (.bool down) (.int .i64 most') (.int .i64 n) (.int .i64 size) (.int .i64 waiting) hz
  rw [hW] at H hB
  simp only [hW] at hk
  have hb' := hB _ _ hb (by omega)
  have hr' := hr.frame (fun k hk' _ => hk k (fun e => hno (e ▸ hk')))
  have hX' := hX.keep (fun k hk' => hk k (hXb k hk'))
  clear hk hB hz hb hr hX
  exact ropen_core (W := World.drew _) H hb'.drew ((hr'.mono hTT).frame (fun _ _ _ => rfl)) (hX'.keep (fun _ _ => rfl)) hxx hxl hxn hM hrf h4 h5 h6
end Go.Proofs.YtgdmdbdljmlkkaaGreatDoor
