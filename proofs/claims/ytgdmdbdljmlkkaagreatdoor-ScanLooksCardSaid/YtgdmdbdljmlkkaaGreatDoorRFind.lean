/- The reference's Find: the log on its files. -/
import Derived.Test.YtgdmdbdljmlkkaaGreatDoorScR2
import Derived.Test.YtgdmdbdljmlkkaaGreatDoorScan3
namespace Go.Proofs.YtgdmdbdljmlkkaaGreatDoor
set_option linter.unusedVariables false
set_option linter.unusedSimpArgs false
open Go.RowKit

set_option maxRecDepth 100000 in
set_option maxHeartbeats 2000000 in
/-- The bytes of a segment that is there: where they lie. -/
theorem rsbytes_fix (room plan : Int) (down : Bool) (v : Value) (R : List RF) (T : Nat → Prop) (n : Int) (w : World) (h : RLi w v R T) (hl : R.length ≤ 1000) (j : Nat) (hj : j < R.length) (hpos : posR R (nameI n) = (j : Int)) :
    Calls Tryz.prog 88 #[rdisk room v plan down, .int .i64 n] w fun e w' => e = .returned (.slice R[j].a R[j].f.b.length R[j].c) ∧ Below w.heap.size w w' := by
  obtain ⟨la, lc, rfl⟩ := slice_form h.row
  have HFD := Lib.hid (fun (w' : World) (hb : Below w.heap.size w w') => rfind_any room plan down (.slice la R.length lc) R T (nameI n) w' (h.below hb) (by omega))
  rw [hpos] at HFD
  unfold rdisk at HFD ⊢
  have HBX : Hid ((w.alloc (.cells #[.int .i64 room, .slice la R.length lc, .int .i64 plan, .bool down] 32)).heap[w.heap.size]? = some (.cells #[.int .i64 room, .slice la R.length lc, .int .i64 plan, .bool down] 32 (0, 0))) := heap_alloc_new w _
  have HBW : Hid (Below w.heap.size w (w.alloc (.cells #[.int .i64 room, .slice la R.length lc, .int .i64 plan, .bool down] 32))) := (Below.refl _ _).alloc (Nat.le_refl _) _
  obtain ⟨lb, lo, lcc, hlv, hlle, hlb, hlc⟩ := h.cells (by omega)
  obtain ⟨rfl, rfl⟩ : la = some ⟨lb, lo, none⟩ ∧ lc = lcc := by cases hlv; exact ⟨rfl, rfl⟩
  have hl1 := (hlc j hj).2.1
  clear hlc hpos hlv h
  generalize R[j].a = fa at *
  generalize R[j].c = fc at *
  generalize R[j].f.b = fb at *
  go_enter Tryz.func88, Tryz.ntmps88
  go_upto_region 1 with fail
  have HK : Hid (∀ w', Hid (Below w.heap.size w w') → w'.heap[w.heap.size]? = some (.cells #[.int .i64 room, .slice (some ⟨lb, lo, none⟩) R.length lc, .int .i64 plan, .bool down] 32 (0, 0)) → (w'.cell? ⟨w.heap.size, 0, none⟩ = some (.int .i64 room) ∧ w'.cell? ⟨w.heap.size, 1, none⟩ = some (.slice (some ⟨lb, lo, none⟩) R.length lc) ∧ w'.cell? ⟨w.heap.size, 2, none⟩ = some (.int .i64 plan) ∧ w'.cell? ⟨w.heap.size, 3, none⟩ = some (.bool down)) ∧ w'.cell? ⟨lb, lo + j * 3 + 1, none⟩ = some (.slice fa fb.length fc)) := fun w' hb hx => ⟨cells4 hx, (hb.out.cell (p := ⟨lb, lo + j * 3 + 1, none⟩) hlb).trans hl1⟩
  generalize w.alloc (.cells #[.int .i64 room, .slice (some ⟨lb, lo, none⟩) R.length lc, .int .i64 plan, .bool down] 32) = wa at *
  go_wp2_with fail
  refine (refName_any n _).mono ?_
  rintro e w3 ⟨rfl, rfl⟩
  have HK2 : Hid (∀ w', Hid (Below wa.heap.size wa w') → (w'.cell? ⟨w.heap.size, 0, none⟩ = some (.int .i64 room) ∧ w'.cell? ⟨w.heap.size, 1, none⟩ = some (.slice (some ⟨lb, lo, none⟩) R.length lc) ∧ w'.cell? ⟨w.heap.size, 2, none⟩ = some (.int .i64 plan) ∧ w'.cell? ⟨w.heap.size, 3, none⟩ = some (.bool down)) ∧ w'.cell? ⟨lb, lo + j * 3 + 1, none⟩ = some (.slice fa fb.length fc)) := fun w' hb => HK.out w' (Lib.hid (HBW.out.trans (hb.out.mono HBW.out.size))) ((hb.out.block _ (lt_of_heap HBX.out)).trans HBX.out)
  have HFD2 : Hid (∀ w', Hid (Below wa.heap.size wa w') → Calls Tryz.prog 70 #[.agg #[.int .i64 room, .slice (some ⟨lb, lo, none⟩) R.length lc, .int .i64 plan, .bool down], .string (nameI n)] w' fun e w'' => e = .returned (.int .i64 j) ∧ Below w'.heap.size w' w'') := fun w' hb => HFD.out w' (HBW.out.trans (hb.out.mono HBW.out.size))
  have HB00 : Hid (Below wa.heap.size wa wa.drew) := (Below.refl _ _).drew
  have hk0 : (0 : Int) ≤ (j : Int) := by omega
  have hk1 : (j : Int) < (R.length : Int) := by omega
  clear HK HFD hl1 hlb
  go_upto_region 2 with fail
  go_region_held3 (fun w' => (w'.cell? ⟨w.heap.size, 0, none⟩ = some (.int .i64 room) ∧ w'.cell? ⟨w.heap.size, 1, none⟩ = some (.slice (some ⟨lb, lo, none⟩) R.length lc) ∧ w'.cell? ⟨w.heap.size, 2, none⟩ = some (.int .i64 plan) ∧ w'.cell? ⟨w.heap.size, 3, none⟩ = some (.bool down)) ∧ w'.cell? ⟨lb, lo + j * 3 + 1, none⟩ = some (.slice fa fb.length fc)) (exact HK2.out _ (by assumption))
    (first
    | (go_at_call 70; refine (HFD2.out _ (by assumption)).mono ?_; rintro e wb ⟨rfl, hba⟩
       have HBa := belh_step (w0 := wa) (by assumption) hba
       clear hba))
  all_goals
    go_wp2
    go_ret
    exact ⟨rfl, HBW.out.trans (HBa.out.mono HBW.out.size)⟩

theorem contD_fileB {D : DS} (h : D.down = false) (n : Int) : contD D n = fileB D.files n := by
  unfold contD readD fileB
  rw [h]
  cases findD D.files (nameI n) <;> rfl

theorem results_row1 {P : Program} {fn : Func} {p : Tmp} {ty : TypeId} (h : fn.results = #[.cell p ty]) (tmps : Array Value) (w : World) (g : Nat) (t : TypeId) (cs : Array Value) (fr : Nat × Nat) (d : TypeDesc)
    (hp : tmps.getD p undef = .pointer (some ⟨g, 0, none⟩)) (hg : w.heap[g]? = some (.cells cs t fr))
    (hu : P.underlying ty = some d) (hd : (match d with | .struct _ | .array _ _ => true | _ => false) = true) (hi : (P.info? ty).map (·.size) = some cs.size) :
    (results fn tmps).run P w = .ok (.agg cs) w := by
  have e : (results fn tmps).run P w = ((asAddr (tmps.getD p undef)).run P w).andThen fun a w₁ => (loadVar ty a).run P w₁ := by
    simp only [results, h]
    simp [Sem.run_bind, Result.andThen]
  rw [e, hp]
  simp [asAddr, run_loadVar_row w g t ty cs fr d hg hu hd hi, Result.andThen]

abbrev logV (va : Option Addr) (nl ca : Nat) (first last : Int) (vr : Option Addr) (nr cr : Nat) (size torn code : Int) : Array Value := #[.slice va nl ca, .int .i64 first, .int .i64 last, .slice vr nr cr, .int .i64 size, .int .i64 torn, .int .i64 code]
def RFindP (w : World) (D : DS) (f : FR) : Ending → World → Prop := fun e w' =>
  Below w.heap.size w w' ∧ ∃ (L : List Int) (va vr : Option Addr) (ca cr : Nat) (first : Int) (X : List SL),
    e = .returned (.agg (logV va L.length ca first f.last vr X.length cr f.front.length f.torn f.code)) ∧
    Row w' 3 1 (.slice va L.length ca) L.length (ints L) (fun k => w.heap.size ≤ k) ∧ Row w' 72 1 (.slice vr X.length cr) X.length (X.map SL.v) (fun k => w.heap.size ≤ k) ∧
    (∀ x ∈ X, (∃ a c, x.v = .slice a x.l.length c) ∧ Reads w x.v x.l.length 1 (byts x.l)) ∧ X.map SL.l = f.recs ∧ (L = if f.code = 0 then segsD D else []) ∧ olderL L first = f.older.map nameI ∧ X.length ≤ 13000000

set_option maxRecDepth 100000 in
theorem set7 {W : World} {B : Nat} {t : TypeId} {x0 x1 x2 x3 x4 x5 x6 : Value} (c0 c1 c2 c3 c4 c5 c6 : Value) (hz : W.heap[B]? = some (.cells #[x0, x1, x2, x3, x4, x5, x6] t (0, 0))) :
    (((((((W.setCell ⟨B, 0, none⟩ c0).setCell ⟨B, 1, none⟩ c1).setCell ⟨B, 2, none⟩ c2).setCell ⟨B, 3, none⟩ c3).setCell ⟨B, 4, none⟩ c4).setCell ⟨B, 5, none⟩ c5).setCell ⟨B, 6, none⟩ c6).heap[B]? = some (.cells #[c0, c1, c2, c3, c4, c5, c6] t (0, 0)) ∧ (∀ k, k ≠ B → (((((((W.setCell ⟨B, 0, none⟩ c0).setCell ⟨B, 1, none⟩ c1).setCell ⟨B, 2, none⟩ c2).setCell ⟨B, 3, none⟩ c3).setCell ⟨B, 4, none⟩ c4).setCell ⟨B, 5, none⟩ c5).setCell ⟨B, 6, none⟩ c6).heap[k]? = W.heap[k]?) ∧ (∀ n w0, Below n w0 W → n ≤ B → Below n w0 (((((((W.setCell ⟨B, 0, none⟩ c0).setCell ⟨B, 1, none⟩ c1).setCell ⟨B, 2, none⟩ c2).setCell ⟨B, 3, none⟩ c3).setCell ⟨B, 4, none⟩ c4).setCell ⟨B, 5, none⟩ c5).setCell ⟨B, 6, none⟩ c6)) := by
  have H0 : (W.setCell ⟨B, 0, none⟩ c0).heap[B]? = some (.cells #[c0, x1, x2, x3, x4, x5, x6] t (0, 0)) := heap_store hz 0 c0
  have H1 : ((W.setCell ⟨B, 0, none⟩ c0).setCell ⟨B, 1, none⟩ c1).heap[B]? = some (.cells #[c0, c1, x2, x3, x4, x5, x6] t (0, 0)) := heap_store H0 1 c1
  have H2 : (((W.setCell ⟨B, 0, none⟩ c0).setCell ⟨B, 1, none⟩ c1).setCell ⟨B, 2, none⟩ c2).heap[B]? = some (.cells #[c0, c1, c2, x3, x4, x5, x6] t (0, 0)) := heap_store H1 2 c2
  have H3 : ((((W.setCell ⟨B, 0, none⟩ c0).setCell ⟨B, 1, none⟩ c1).setCell ⟨B, 2, none⟩ c2).setCell ⟨B, 3, none⟩ c3).heap[B]? = some (.cells #[c0, c1, c2, c3, x4, x5, x6] t (0, 0)) := heap_store H2 3 c3
  have H4 : (((((W.setCell ⟨B, 0, none⟩ c0).setCell ⟨B, 1, none⟩ c1).setCell ⟨B, 2, none⟩ c2).setCell ⟨B, 3, none⟩ c3).setCell ⟨B, 4, none⟩ c4).heap[B]? = some (.cells #[c0, c1, c2, c3, c4, x5, x6] t (0, 0)) := heap_store H3 4 c4
  have H5 : ((((((W.setCell ⟨B, 0, none⟩ c0).setCell ⟨B, 1, none⟩ c1).setCell ⟨B, 2, none⟩ c2).setCell ⟨B, 3, none⟩ c3).setCell ⟨B, 4, none⟩ c4).setCell ⟨B, 5, none⟩ c5).heap[B]? = some (.cells #[c0, c1, c2, c3, c4, c5, x6] t (0, 0)) := heap_store H4 5 c5
  have H6 : (((((((W.setCell ⟨B, 0, none⟩ c0).setCell ⟨B, 1, none⟩ c1).setCell ⟨B, 2, none⟩ c2).setCell ⟨B, 3, none⟩ c3).setCell ⟨B, 4, none⟩ c4).setCell ⟨B, 5, none⟩ c5).setCell ⟨B, 6, none⟩ c6).heap[B]? = some (.cells #[c0, c1, c2, c3, c4, c5, c6] t (0, 0)) := heap_store H5 6 c6
  refine ⟨H6, fun k hne => ?_, fun n w0 hb hle => ?_⟩
  · rw [Below.heap_setCell _ _ _ _ hne, Below.heap_setCell _ _ _ _ hne, Below.heap_setCell _ _ _ _ hne, Below.heap_setCell _ _ _ _ hne, Below.heap_setCell _ _ _ _ hne, Below.heap_setCell _ _ _ _ hne, Below.heap_setCell _ _ _ _ hne]
  · exact ((((((hb.setCell (p := ⟨B, 0, none⟩) hle _).setCell (p := ⟨B, 1, none⟩) hle _).setCell (p := ⟨B, 2, none⟩) hle _).setCell (p := ⟨B, 3, none⟩) hle _).setCell (p := ⟨B, 4, none⟩) hle _).setCell (p := ⟨B, 5, none⟩) hle _).setCell (p := ⟨B, 6, none⟩) hle _

set_option maxRecDepth 100000 in
theorem rfind_end {w wz : World} {D : DS} {f : FR} {x0 x1 x2 x3 x4 x5 x6 : Value} {L : List Int} {va vr : Option Addr} {nl ca nr cr : Nat} {first last size torn code : Int} {X : List SL}
    (hz : wz.heap[w.heap.size + 1]? = some (.cells #[x0, x1, x2, x3, x4, x5, x6] 61 (0, 0))) (hb : Below w.heap.size w wz)
    (hL : Row wz 3 1 (.slice va nl ca) L.length (ints L) (fun k => w.heap.size + 2 ≤ k)) (hX : Row wz 72 1 (.slice vr nr cr) X.length (X.map SL.v) (fun k => w.heap.size + 2 ≤ k))
    (hrx : ∀ x ∈ X, (∃ a c, x.v = .slice a x.l.length c) ∧ Reads w x.v x.l.length 1 (byts x.l)) (hre : X.map SL.l = f.recs) (hLs : L = if f.code = 0 then segsD D else []) (ho : olderL L first = f.older.map nameI) (hxl : X.length ≤ 13000000)
    (e1 : nl = L.length) (e2 : nr = X.length) (e3 : last = f.last) (e4 : size = f.front.length) (e5 : torn = f.torn) (e6 : code = f.code) {tmps : Array Value} (h4 : tmps.getD 2 undef = .pointer (some ⟨w.heap.size + 1, 0, none⟩)) :
    bodyPost Tryz.prog Tryz.f32 (RFindP w D f) Exit.ret { tmps := tmps, defers := [] } (((((((wz.setCell ⟨w.heap.size + 1, 0, none⟩ (.slice va nl ca)).setCell ⟨w.heap.size + 1, 1, none⟩ (.int .i64 first)).setCell ⟨w.heap.size + 1, 2, none⟩ (.int .i64 last)).setCell ⟨w.heap.size + 1, 3, none⟩ (.slice vr nr cr)).setCell ⟨w.heap.size + 1, 4, none⟩ (.int .i64 size)).setCell ⟨w.heap.size + 1, 5, none⟩ (.int .i64 torn)).setCell ⟨w.heap.size + 1, 6, none⟩ (.int .i64 code)) := by
  subst e1 e2 e3 e4 e5 e6
  obtain ⟨H, hk, hB⟩ := set7 (.slice va L.length ca) (.int .i64 first) (.int .i64 f.last) (.slice vr X.length cr) (.int .i64 f.front.length) (.int .i64 f.torn) (.int .i64 f.code) hz
  have hb' := hB _ _ hb (by omega)
  have hkeep : ∀ k, w.heap.size + 2 ≤ k → _ := fun k hk' => hk k (by omega)
  have hL' := hL.frame (fun k hk _ => hkeep k hk)
  have hX' := hX.frame (fun k hk _ => hkeep k hk)
  clear hk hB hkeep hz hL hX hb
  refine bodyPost_ret (results_row1 (P := Tryz.prog) Tryz.results32 _ _ (w.heap.size + 1) 61 (logV va L.length ca first f.last vr X.length cr f.front.length f.torn f.code) (0, 0) _ h4 H Tryz.underlying61 rfl rfl) rfl ?_
  exact ⟨hb', L, va, vr, ca, cr, first, X, rfl, hL'.mono (fun k hk => by omega), hX'.mono (fun k hk => by omega), hrx, hre, hLs, ho, hxl⟩

set_option maxRecDepth 100000 in
theorem rfind_bad {w wz : World} {D : DS} {f : FR} {x0 x1 x2 x3 x4 x5 x6 : Value} {code : Int} (hz : wz.heap[w.heap.size + 1]? = some (.cells #[x0, x1, x2, x3, x4, x5, x6] 61 (0, 0))) (hb : Below w.heap.size w wz) (hf : f = FR.bad code) (hc : code = 0 → segsD D = [])
    {tmps : Array Value} (h4 : tmps.getD 2 undef = .pointer (some ⟨w.heap.size + 1, 0, none⟩)) :
    bodyPost Tryz.prog Tryz.f32 (RFindP w D f) Exit.ret { tmps := tmps, defers := [] } (((((((wz.setCell ⟨w.heap.size + 1, 0, none⟩ (.slice none 0 0)).setCell ⟨w.heap.size + 1, 1, none⟩ (.int .i64 0)).setCell ⟨w.heap.size + 1, 2, none⟩ (.int .i64 0)).setCell ⟨w.heap.size + 1, 3, none⟩ (.slice none 0 0)).setCell ⟨w.heap.size + 1, 4, none⟩ (.int .i64 0)).setCell ⟨w.heap.size + 1, 5, none⟩ (.int .i64 0)).setCell ⟨w.heap.size + 1, 6, none⟩ (.int .i64 code)) := by
  refine rfind_end (L := []) (X := []) hz hb (Row.nil _ _ _ _) (Row.nil _ _ _ _) (by simp) (by rw [hf]; rfl) ?_ (by rw [hf]; rfl) (by simp) rfl rfl (by rw [hf]; rfl) (by rw [hf]; rfl) (by rw [hf]; rfl) (by rw [hf]; rfl) h4
  rw [hf]
  show [] = if code = 0 then segsD D else []
  by_cases h : code = 0
  · rw [if_pos h, hc h]
  · rw [if_neg h]

theorem cells7 {w : World} {b : Nat} {x0 x1 x2 x3 x4 x5 x6 : Value} {t : TypeId} {fr : Nat × Nat} (h : w.heap[b]? = some (.cells #[x0, x1, x2, x3, x4, x5, x6] t fr)) :
    w.cell? ⟨b, 0, none⟩ = some x0 ∧ w.cell? ⟨b, 1, none⟩ = some x1 ∧ w.cell? ⟨b, 2, none⟩ = some x2 ∧ w.cell? ⟨b, 3, none⟩ = some x3 ∧ w.cell? ⟨b, 4, none⟩ = some x4 ∧ w.cell? ⟨b, 5, none⟩ = some x5 ∧ w.cell? ⟨b, 6, none⟩ = some x6 :=
  ⟨cellAt h 0 rfl, cellAt h 1 rfl, cellAt h 2 rfl, cellAt h 3 rfl, cellAt h 4 rfl, cellAt h 5 rfl, cellAt h 6 rfl⟩
theorem free7 {w : World} {b : Nat} {cs : Array Value} {t : TypeId} (h : w.heap[b]? = some (.cells cs t (0, 0))) :
    w.frozen? ⟨b, 0, none⟩ = false ∧ w.frozen? ⟨b, 1, none⟩ = false ∧ w.frozen? ⟨b, 2, none⟩ = false ∧ w.frozen? ⟨b, 3, none⟩ = false ∧ w.frozen? ⟨b, 4, none⟩ = false ∧ w.frozen? ⟨b, 5, none⟩ = false ∧ w.frozen? ⟨b, 6, none⟩ = false :=
  ⟨freeAt h 0, freeAt h 1, freeAt h 2, freeAt h 3, freeAt h 4, freeAt h 5, freeAt h 6⟩

/-- A record is appended to the reference's. -/
theorem rlog_step {W W2 : World} {bf : Nat} {x0 x1 x2 rv x4 x5 x6 v2 xv : Value} {X : List SL} {S2 : Nat → Prop} {B : Nat} {w : World} (o : Obj) (hx : W.heap[bf]? = some (.cells #[x0, x1, x2, rv, x4, x5, x6] 61 (0, 0))) (hS : ∀ k, S2 k → B < k) (hbf : bf = B)
    (hr : Row W2 72 1 v2 (X.length + 1) (X.map SL.v ++ [xv]) (fun k => S2 k ∨ (W.alloc o).heap.size ≤ k)) (hc : Chg S2 (W.alloc o) W2) (hb : Below B w W) :
    (W2.setCell ⟨bf, 3, none⟩ v2).heap[bf]? = some (.cells #[x0, x1, x2, v2, x4, x5, x6] 61 (0, 0)) ∧ Row (W2.setCell ⟨bf, 3, none⟩ v2) 72 1 v2 (X.length + 1) (X.map SL.v ++ [xv]) (fun k => S2 k ∨ W.heap.size < k) ∧
      (∀ k, k < W.heap.size → k ≠ bf → ¬ S2 k → (W2.setCell ⟨bf, 3, none⟩ v2).heap[k]? = W.heap[k]?) ∧ Below B w (W2.setCell ⟨bf, 3, none⟩ v2) ∧ W.heap.size ≤ (W2.setCell ⟨bf, 3, none⟩ v2).heap.size := by
  have hlt := lt_of_heap hx
  have hsz := hc.size
  rw [World.size_alloc] at hsz
  have hbfn : ¬ S2 bf := fun h => by have := hS bf h; omega
  have h1 : W2.heap[bf]? = some (.cells #[x0, x1, x2, rv, x4, x5, x6] 61 (0, 0)) := ((hc.block bf (by simp; omega) hbfn).trans (Below.heap_alloc _ _ _ hlt)).trans hx
  refine ⟨heap_store h1 3 v2, ?_, fun k hk hne hq => ?_, ?_, ?_⟩
  · refine (hr.mono (T := fun k => S2 k ∨ W.heap.size < k) (fun k hk => ?_)).frame (fun k hk _ => Below.heap_setCell _ _ _ _ (fun e => ?_))
    · rcases hk with h | h
      · exact .inl h
      · rw [World.size_alloc] at h; exact .inr (by omega)
    · have e2 : k = bf := e
      rw [e2] at hk
      rcases hk with h | h
      · exact hbfn h
      · omega
  · rw [Below.heap_setCell _ ⟨bf, 3, none⟩ _ _ hne]
    exact (hc.block k (by simp; omega) hq).trans (Below.heap_alloc _ _ _ hk)
  · have hbW : B ≤ W.heap.size := by omega
    exact ((hb.alloc hbW o).trans (hc.toBelow (by simp; omega) (fun n hn h => by have := hS n h; omega))).setCell (p := ⟨bf, 3, none⟩) (by show B ≤ bf; omega) _
  · rw [World.size_setCell]; omega
end Go.Proofs.YtgdmdbdljmlkkaaGreatDoor
