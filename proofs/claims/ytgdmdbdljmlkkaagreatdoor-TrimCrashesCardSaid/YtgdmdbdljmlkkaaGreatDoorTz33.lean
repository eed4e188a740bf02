/- RFindW -/
import Derived.Test.YtgdmdbdljmlkkaaGreatDoorTz29
import Derived.Test.YtgdmdbdljmlkkaaGreatDoorTz26
set_option maxRecDepth 100000
set_option linter.unusedVariables false
set_option linter.unusedSimpArgs false
namespace Go.Proofs.YtgdmdbdljmlkkaaGreatDoor
open Go.RowKit
set_option maxHeartbeats 2000000 in
theorem rsbytes_fix (room plan : Int) (down : Bool) (v : Value) (R : List RF) (T : Nat → Prop) (n : Int) (w : World) (h : RLi w v R T) (hl : R.length ≤ 1000) (j : Nat) (hj : j < R.length) (hpos : posR R (nameI n) = (j : Int)) :
   Calls Tryz.prog 88 #[rdisk room v plan down, .int .i64 n] w fun e w' => e = .returned (.slice R[j].a R[j].f.b.length R[j].c) ∧ Below w.heap.size w w' := by
 obtain ⟨la, lc, rfl⟩ := slice_form h.row
 have HFD := Lib.hid (fun (w' : World) (hb : Below w.heap.size w w') => rfind_any room plan down (.slice la R.length lc) R T (nameI n) w' (h.below hb) (by omega))
 rw [hpos] at HFD
 unfold rdisk at HFD ⊢
 have HBX : Hid ((w.alloc (.cells #[.int .i64 room, .slice la R.length lc, .int .i64 plan, .bool down] 32)).heap[w.heap.size]? = some (.cells #[.int .i64 room, .slice la R.length lc, .int .i64 plan, .bool down] 32 (0, 0))) := heap_alloc_new w _
 have HBW : Hid (Below w.heap.size w (w.alloc (.cells #[.int .i64 room, .slice la R.length lc, .int .i64 plan, .bool down] 32))) := (Below.refl _ _).alloc (Nat.le_refl _) _
 obtain ⟨lb, lo, lcc, hlv, hlle, hlb, hlc⟩ := h.cells (by omega)
 obtain ⟨rfl, rfl⟩ : la = some ⟨lb, lo, none⟩ ∧ lc = lcc := by cases hlv; exact ⟨rfl, rfl⟩
 have hl1 := (hlc j hj).2.1
 clear hlc hpos hlv h
 generalize R[j].a = fa at *
 generalize R[j].c = fc at *
 generalize R[j].f.b = fb at *
 go_enter Tryz.func88, Tryz.ntmps88
 go_upto_region 1 with fail
 have HK : Hid (∀ w', Hid (Below w.heap.size w w') → w'.heap[w.heap.size]? = some (.cells #[.int .i64 room, .slice (some ⟨lb, lo, none⟩) R.length lc, .int .i64 plan, .bool down] 32 (0, 0)) → (w'.cell? ⟨w.heap.size, 0, none⟩ = some (.int .i64 room) ∧ w'.cell? ⟨w.heap.size, 1, none⟩ = some (.slice (some ⟨lb, lo, none⟩) R.length lc) ∧ w'.cell? ⟨w.heap.size, 2, none⟩ = some (.int .i64 plan) ∧ w'.cell? ⟨w.heap.size, 3, none⟩ = some (.bool down)) ∧ w'.cell? ⟨lb, lo + j * 3 + 1, none⟩ = some (.slice fa fb.length fc)) := fun w' hb hx => ⟨cells4 hx, (hb.out.cell (p := ⟨lb, lo + j * 3 + 1, none⟩) hlb).trans hl1⟩
 generalize w.alloc (.cells #[.int .i64 room, .slice (some ⟨lb, lo, none⟩) R.length lc, .int .i64 plan, .bool down] 32) = wa at *
 go_wp2_with fail
 refine (refName_any n _).mono ?_
 rintro e w3 ⟨rfl, rfl⟩
 have HK2 : Hid (∀ w', Hid (Below wa.heap.size wa w') → (w'.cell? ⟨w.heap.size, 0, none⟩ = some (.int .i64 room) ∧ w'.cell? ⟨w.heap.size, 1, none⟩ = some (.slice (some ⟨lb, lo, none⟩) R.length lc) ∧ w'.cell? ⟨w.heap.size, 2, none⟩ = some (.int .i64 plan) ∧ w'.cell? ⟨w.heap.size, 3, none⟩ = some (.bool down)) ∧ w'.cell? ⟨lb, lo + j * 3 + 1, none⟩ = some (.slice fa fb.length fc)) := fun w' hb => HK.out w' (Lib.hid (HBW.out.trans (hb.out.mono HBW.out.size))) ((hb.out.block _ (lt_of_heap HBX.out)).trans HBX.out)
 have HFD2 : Hid (∀ w', Hid (Below wa.heap.size wa w') → Calls Tryz.prog 70 #[.agg #[.int .i64 room, .slice (some ⟨lb, lo, none⟩) R.length lc, .int .i64 plan, .bool down], .string (nameI n)] w' fun e w'' => e = .returned (.int .i64 j) ∧ Below w'.heap.size w' w'') := fun w' hb => HFD.out w' (HBW.out.trans (hb.out.mono HBW.out.size))
 have HB00 : Hid (Below wa.heap.size wa wa.drew) := (Below.refl _ _).drew
 have hk0 : (0 : Int) ≤ (j : Int) := by omega
 have hk1 : (j : Int) < (R.length : Int) := by omega
 clear HK HFD hl1 hlb
 go_upto_region 2 with fail
 go_region_held3 (fun w' => (w'.cell? ⟨w.heap.size, 0, none⟩ = some (.int .i64 room) ∧ w'.cell? ⟨w.heap.size, 1, none⟩ = some (.slice (some ⟨lb, lo, none⟩) R.length lc) ∧ w'.cell? ⟨w.heap.size, 2, none⟩ = some (.int .i64 plan) ∧ w'.cell? ⟨w.heap.size, 3, none⟩ = some (.bool down)) ∧ w'.cell? ⟨lb, lo + j * 3 + 1, none⟩ = some (.slice fa fb.length fc)) (exact HK2.out _ (by assumption))
   (first
   | (go_at_call 70; refine (HFD2.out _ (by assumption)).mono ?_; rintro e wb ⟨rfl, hba⟩
      have HBa := belh_step (w0 := wa) (by assumption) hba
      clear hba))
 all_goals
   go_wp2
   go_ret
   exact ⟨rfl, HBW.out.trans (HBa.out.mono HBW.out.size)⟩
theorem contD_fileB {D : DS} (h : D.down = false) (n : Int) : contD D n = fileB D.files n := by
 unfold contD readD fileB
 rw [h]
 cases findD D.files (nameI n) <;> rfl
theorem results_row1 {P : Program} {fn : Func} {p : Tmp} {ty : TypeId} (h : fn.results = #[.cell p ty]) (tmps : Array Value) (w : World) (g : Nat) (t : TypeId) (cs : Array Value) (fr : Nat × Nat) (d : TypeDesc)
   (hp : tmps.getD p undef = .pointer (some ⟨g, 0, none⟩)) (hg : w.heap[g]? = some (.cells cs t fr))
   (hu : P.underlying ty = some d) (hd : (match d with | .struct _ | .array _ _ => true | _ => false) = true) (hi : (P.info? ty).map (·.size) = some cs.size) :
   (results fn tmps).run P w = .ok (.agg cs) w := by
 have e : (results fn tmps).run P w = ((asAddr (tmps.getD p undef)).run P w).andThen fun a w₁ => (loadVar ty a).run P w₁ := by
   simp only [results, h]
   simp [Sem.run_bind, Result.andThen]
 rw [e, hp]
 simp [asAddr, run_loadVar_row w g t ty cs fr d hg hu hd hi, Result.andThen]
abbrev logV (va : Option Addr) (nl ca : Nat) (first last : Int) (vr : Option Addr) (nr cr : Nat) (size torn code : Int) : Array Value := #[.slice va nl ca, .int .i64 first, .int .i64 last, .slice vr nr cr, .int .i64 size, .int .i64 torn, .int .i64 code]
def RdR (R : List RF) (x : SL) : Prop := ∀ W : World, (∀ r ∈ R, Reads W (.slice r.a r.f.b.length r.c) r.f.b.length 1 (byts r.f.b)) → Reads W x.v x.l.length 1 (byts x.l)
theorem rdr_of {w : World} {v : Value} {R : List RF} {T : Nat → Prop} (h : RLi w v R T) : ∀ r ∈ R, Reads w (.slice r.a r.f.b.length r.c) r.f.b.length 1 (byts r.f.b) := fun r hr => (h.byt r hr).1.reads
def RFindP (R : List RF) (w : World) (D : DS) (f : FR) : Ending → World → Prop := fun e w' =>
 Below w.heap.size w w' ∧ ∃ (L : List Int) (va vr : Option Addr) (ca cr : Nat) (first : Int) (X : List SL),
   e = .returned (.agg (logV va L.length ca first f.last vr X.length cr f.front.length f.torn f.code)) ∧
   Row w' 3 1 (.slice va L.length ca) L.length (ints L) (fun k => w.heap.size ≤ k) ∧ Row w' 72 1 (.slice vr X.length cr) X.length (X.map SL.v) (fun k => w.heap.size ≤ k) ∧
   (∀ x ∈ X, (∃ a c, x.v = .slice a x.l.length c) ∧ RdR R x) ∧ X.map SL.l = f.recs ∧ (L = if f.code = 0 then segsD D else []) ∧ olderL L first = f.older.map nameI ∧ X.length ≤ 13000000
theorem set7 {W : World} {B : Nat} {t : TypeId} {x0 x1 x2 x3 x4 x5 x6 : Value} (c0 c1 c2 c3 c4 c5 c6 : Value) (hz : W.heap[B]? = some (.cells #[x0, x1, x2, x3, x4, x5, x6] t (0, 0))) :
   (((((((W.setCell ⟨B, 0, none⟩ c0).setCell ⟨B, 1, none⟩ c1).setCell ⟨B, 2, none⟩ c2).setCell ⟨B, 3, none⟩ c3).setCell ⟨B, 4, none⟩ c4).setCell ⟨B, 5, none⟩ c5).setCell ⟨B, 6, none⟩ c6).heap[B]? = some (.cells #[c0, c1, c2, c3, c4, c5, c6] t (0, 0)) ∧ (∀ k, k ≠ B → (((((((W.setCell ⟨B, 0, none⟩ c0).setCell ⟨B, 1, none⟩ c1).setCell ⟨B, 2, none⟩ c2).setCell ⟨B, 3, none⟩ c3).setCell ⟨B, 4, none⟩ c4).setCell ⟨B, 5, none⟩ c5).setCell ⟨B, 6, none⟩ c6).heap[k]? = W.heap[k]?) ∧ (∀ n w0, Below n w0 W → n ≤ B → Below n w0 (((((((W.setCell ⟨B, 0, none⟩ c0).setCell ⟨B, 1, none⟩ c1).setCell ⟨B, 2, none⟩ c2).setCell ⟨B, 3, none⟩ c3).setCell ⟨B, 4, none⟩ c4).setCell ⟨B, 5, none⟩ c5).setCell ⟨B, 6, none⟩ c6)) := by
 have H0 : (W.setCell ⟨B, 0, none⟩ c0).heap[B]? = some (.cells #[c0, x1, x2, x3, x4, x5, x6] t (0, 0)) := heap_store hz 0 c0
 have H1 : ((W.setCell ⟨B, 0, none⟩ c0).setCell ⟨B, 1, none⟩ c1).heap[B]? = some (.cells #[c0, c1, x2, x3, x4, x5, x6] t (0, 0)) := heap_store H0 1 c1
 have H2 : (((W.setCell ⟨B, 0, none⟩ c0).setCell ⟨B, 1, none⟩ c1).setCell ⟨B, 2, none⟩ c2).heap[B]? = some (.cells #[c0, c1, c2, x3, x4, x5, x6] t (0, 0)) := heap_store H1 2 c2
 have H3 : ((((W.setCell ⟨B, 0, none⟩ c0).setCell ⟨B, 1, none⟩ c1).setCell ⟨B, 2, none⟩ c2).setCell ⟨B, 3, none⟩ c3).heap[B]? = some (.cells #[c0, c1, c2, c3, x4, x5, x6] t (0, 0)) := heap_store H2 3 c3
 have H4 : (((((W.setCell ⟨B, 0, none⟩ c0).setCell ⟨B, 1, none⟩ c1).setCell ⟨B, 2, none⟩ c2).setCell ⟨B, 3, none⟩ c3).setCell ⟨B, 4, none⟩ c4).heap[B]? = some (.cells #[c0, c1, c2, c3, c4, x5, x6] t (0, 0)) := heap_store H3 4 c4
 have H5 : ((((((W.setCell ⟨B, 0, none⟩ c0).setCell ⟨B, 1, none⟩ c1).setCell ⟨B, 2, none⟩ c2).setCell ⟨B, 3, none⟩ c3).setCell ⟨B, 4, none⟩ c4).setCell ⟨B, 5, none⟩ c5).heap[B]? = some (.cells #[c0, c1, c2, c3, c4, c5, x6] t (0, 0)) := heap_store H4 5 c5
 have H6 : (((((((W.setCell ⟨B, 0, none⟩ c0).setCell ⟨B, 1, none⟩ c1).setCell ⟨B, 2, none⟩ c2).setCell ⟨B, 3, none⟩ c3).setCell ⟨B, 4, none⟩ c4).setCell ⟨B, 5, none⟩ c5).setCell ⟨B, 6, none⟩ c6).heap[B]? = some (.cells #[c0, c1, c2, c3, c4, c5, c6] t (0, 0)) := heap_store H5 6 c6
 refine ⟨H6, fun k hne => ?_, fun n w0 hb hle => ?_⟩
 · rw [Below.heap_setCell _ _ _ _ hne, Below.heap_setCell _ _ _ _ hne, Below.heap_setCell _ _ _ _ hne, Below.heap_setCell _ _ _ _ hne, Below.heap_setCell _ _ _ _ hne, Below.heap_setCell _ _ _ _ hne, Below.heap_setCell _ _ _ _ hne]
 · exact ((((((hb.setCell (p := ⟨B, 0, none⟩) hle _).setCell (p := ⟨B, 1, none⟩) hle _).setCell (p := ⟨B, 2, none⟩) hle _).setCell (p := ⟨B, 3, none⟩) hle _).setCell (p := ⟨B, 4, none⟩) hle _).setCell (p := ⟨B, 5, none⟩) hle _).setCell (p := ⟨B, 6, none⟩) hle _
theorem rfind_end {R : List RF} {w wz : World} {D : DS} {f : FR} {x0 x1 x2 x3 x4 x5 x6 : Value} {L : List Int} {va vr : Option Addr} {nl ca nr cr : Nat} {first last size torn code : Int} {X : List SL}
   (hz : wz.heap[w.heap.size + 1]? = some (.cells #[x0, x1, x2, x3, x4, x5, x6] 61 (0, 0))) (hb : Below w.heap.size w wz)
   (hL : Row wz 3 1 (.slice va nl ca) L.length (ints L) (fun k => w.heap.size + 2 ≤ k)) (hX : Row wz 72 1 (.slice vr nr cr) X.length (X.map SL.v) (fun k => w.heap.size + 2 ≤ k))
   (hrx : ∀ x ∈ X, (∃ a c, x.v = .slice a x.l.length c) ∧ RdR R x) (hre : X.map SL.l = f.recs) (hLs : L = if f.code = 0 then segsD D else []) (ho : olderL L first = f.older.map nameI) (hxl : X.length ≤ 13000000)
   (e1 : nl = L.length) (e2 : nr = X.length) (e3 : last = f.last) (e4 : size = f.front.length) (e5 : torn = f.torn) (e6 : code = f.code) {tmps : Array Value} (h4 : tmps.getD 2 undef = .pointer (some ⟨w.heap.size + 1, 0, none⟩)) :
   bodyPost Tryz.prog Tryz.f32 (RFindP R w D f) Exit.ret { tmps := tmps, defers := [] } (((((((wz.setCell ⟨w.heap.size + 1, 0, none⟩ (.slice va nl ca)).setCell ⟨w.heap.size + 1, 1, none⟩ (.int .i64 first)).setCell ⟨w.heap.size + 1, 2, none⟩ (.int .i64 last)).setCell ⟨w.heap.size + 1, 3, none⟩ (.slice vr nr cr)).setCell ⟨w.heap.size + 1, 4, none⟩ (.int .i64 size)).setCell ⟨w.heap.size + 1, 5, none⟩ (.int .i64 torn)).setCell ⟨w.heap.size + 1, 6, none⟩ (.int .i64 code)) := by
 subst e1 e2 e3 e4 e5 e6
 obtain ⟨H, hk, hB⟩ := set7 (.slice va L.length ca) (.int .i64 first) (.int .i64 f.last) (.slice vr X.length cr) (.int .i64 f.front.length) (.int .i64 f.torn) (.int .i64 f.code) hz
 have hb' := hB _ _ hb (by omega)
 have hkeep : ∀ k, w.heap.size + 2 ≤ k → _ := fun k hk' => hk k (by omega)
 have hL' := hL.frame (fun k hk _ => hkeep k hk)
 have hX' := hX.frame (fun k hk _ => hkeep k hk)
 clear hk hB hkeep hz hL hX hb
 refine bodyPost_ret (results_row1 (P := Tryz.prog) Tryz.results32 _ _ (w.heap.size + 1) 61 (logV va L.length ca first f.last vr X.length cr f.front.length f.torn f.code) (0, 0) _ h4 H Tryz.underlying61 rfl rfl) rfl ?_
 exact ⟨hb', L, va, vr, ca, cr, first, X, rfl, hL'.mono (fun k hk => by omega), hX'.mono (fun k hk => by omega), hrx, hre, hLs, ho, hxl⟩
theorem rfind_bad {R : List RF} {w wz : World} {D : DS} {f : FR} {x0 x1 x2 x3 x4 x5 x6 : Value} {code : Int} (hz : wz.heap[w.heap.size + 1]? = some (.cells #[x0, x1, x2, x3, x4, x5, x6] 61 (0, 0))) (hb : Below w.heap.size w wz) (hf : f = FR.bad code) (hc : code = 0 → segsD D = [])
   {tmps : Array Value} (h4 : tmps.getD 2 undef = .pointer (some ⟨w.heap.size + 1, 0, none⟩)) :
   bodyPost Tryz.prog Tryz.f32 (RFindP R w D f) Exit.ret { tmps := tmps, defers := [] } (((((((wz.setCell ⟨w.heap.size + 1, 0, none⟩ (.slice none 0 0)).setCell ⟨w.heap.size + 1, 1, none⟩ (.int .i64 0)).setCell ⟨w.heap.size + 1, 2, none⟩ (.int .i64 0)).setCell ⟨w.heap.size + 1, 3, none⟩ (.slice none 0 0)).setCell ⟨w.heap.size + 1, 4, none⟩ (.int .i64 0)).setCell ⟨w.heap.size + 1, 5, none⟩ (.int .i64 0)).setCell ⟨w.heap.size + 1, 6, none⟩ (.int .i64 code)) := by
 refine rfind_end (L := []) (X := []) hz hb (Row.nil _ _ _ _) (Row.nil _ _ _ _) (by simp) (by rw [hf]; rfl) ?_ (by rw [hf]; rfl) (by simp) rfl rfl (by rw [hf]; rfl) (by rw [hf]; rfl) (by rw [hf]; rfl) (by rw [hf]; rfl) h4
 rw [hf]
 show [] = if code = 0 then segsD D else []
 by_cases h : code = 0
 · rw [if_pos h, hc h]
 · rw [if_neg h]
theorem cells7 {w : World} {b : Nat} {x0 x1 x2 x3 x4 x5 x6 : Value} {t : TypeId} {fr : Nat × Nat} (h : w.heap[b]? = some (.cells #[x0, x1, x2, x3, x4, x5, x6] t fr)) :
   w.cell? ⟨b, 0, none⟩ = some x0 ∧ w.cell? ⟨b, 1, none⟩ = some x1 ∧ w.cell? ⟨b, 2, none⟩ = some x2 ∧ w.cell? ⟨b, 3, none⟩ = some x3 ∧ w.cell? ⟨b, 4, none⟩ = some x4 ∧ w.cell? ⟨b, 5, none⟩ = some x5 ∧ w.cell? ⟨b, 6, none⟩ = some x6 :=
 ⟨cellAt h 0 rfl, cellAt h 1 rfl, cellAt h 2 rfl, cellAt h 3 rfl, cellAt h 4 rfl, cellAt h 5 rfl, cellAt h 6 rfl⟩
theorem free7 {w : World} {b : Nat} {cs : Array Value} {t : TypeId} (h : w.heap[b]? = some (.cells cs t (0, 0))) :
   w.frozen? ⟨b, 0, none⟩ = false ∧ w.frozen? ⟨b, 1, none⟩ = false ∧ w.frozen? ⟨b, 2, none⟩ = false ∧ w.frozen? ⟨b, 3, none⟩ = false ∧ w.frozen? ⟨b, 4, none⟩ = false ∧ w.frozen? ⟨b, 5, none⟩ = false ∧ w.frozen? ⟨b, 6, none⟩ = false :=
 ⟨freeAt h 0, freeAt h 1, freeAt h 2, freeAt h 3, freeAt h 4, freeAt h 5, freeAt h 6⟩
theorem rlog_step {W W2 : World} {bf : Nat} {x0 x1 x2 rv x4 x5 x6 v2 xv : Value} {X : List SL} {S2 : Nat → Prop} {B : Nat} {w : World} (o : Obj) (hx : W.heap[bf]? = some (.cells #[x0, x1, x2, rv, x4, x5, x6] 61 (0, 0))) (hS : ∀ k, S2 k → B < k) (hbf : bf = B)
   (hr : Row W2 72 1 v2 (X.length + 1) (X.map SL.v ++ [xv]) (fun k => S2 k ∨ (W.alloc o).heap.size ≤ k)) (hc : Chg S2 (W.alloc o) W2) (hb : Below B w W) :
   (W2.setCell ⟨bf, 3, none⟩ v2).heap[bf]? = some (.cells #[x0, x1, x2, v2, x4, x5, x6] 61 (0, 0)) ∧ Row (W2.setCell ⟨bf, 3, none⟩ v2) 72 1 v2 (X.length + 1) (X.map SL.v ++ [xv]) (fun k => S2 k ∨ W.heap.size < k) ∧
     (∀ k, k < W.heap.size → k ≠ bf → ¬ S2 k → (W2.setCell ⟨bf, 3, none⟩ v2).heap[k]? = W.heap[k]?) ∧ Below B w (W2.setCell ⟨bf, 3, none⟩ v2) ∧ W.heap.size ≤ (W2.setCell ⟨bf, 3, none⟩ v2).heap.size := by
 have hlt := lt_of_heap hx
 have hsz := hc.size
 rw [World.size_alloc] at hsz
 have hbfn : ¬ S2 bf := fun h => by have := hS bf h; omega
 have h1 : W2.heap[bf]? = some (.cells #[x0, x1, x2, rv, x4, x5, x6] 61 (0, 0)) := ((hc.block bf (by simp; omega) hbfn).trans (Below.heap_alloc _ _ _ hlt)).trans hx
 refine ⟨heap_store h1 3 v2, ?_, fun k hk hne hq => ?_, ?_, ?_⟩
 · refine (hr.mono (T := fun k => S2 k ∨ W.heap.size < k) (fun k hk => ?_)).frame (fun k hk _ => Below.heap_setCell _ _ _ _ (fun e => ?_))
   · rcases hk with h | h
     · exact .inl h
     · rw [World.size_alloc] at h; exact .inr (by omega)
   · have e2 : k = bf := e
     rw [e2] at hk
     rcases hk with h | h
     · exact hbfn h
     · omega
 · rw [Below.heap_setCell _ ⟨bf, 3, none⟩ _ _ hne]
   exact (hc.block k (by simp; omega) hq).trans (Below.heap_alloc _ _ _ hk)
 · have hbW : B ≤ W.heap.size := by omega
   exact ((hb.alloc hbW o).trans (hc.toBelow (by simp; omega) (fun n hn h => by have := hS n h; omega))).setCell (p := ⟨bf, 3, none⟩) (by show B ≤ bf; omega) _
 · rw [World.size_setCell]; omega
theorem mark_step (g : Int → List UInt8) (L : List Int) {i : Nat} (h : i < L.length) : markK g L i = if markedB (g L[i]) = true then i else markK g L (i - 1) := by
 cases i with
 | zero => simp [markK]
 | succ j =>
   rw [markK, Nat.add_sub_cancel, List.getD_eq_getElem?_getD, List.getElem?_eq_getElem h]; rfl
def firstAt (g : Int → List UInt8) (L : List Int) (i : Nat) : Int := L.getD (markK g L (i - 1)) 0
theorem firstAt_succ (g : Int → List UInt8) (L : List Int) {i : Nat} (h : i < L.length) : firstAt g L (i + 1) = if markedB (g L[i]) = true then L[i] else firstAt g L i := by
 unfold firstAt
 rw [Nat.add_sub_cancel, mark_step g L h]
 split
 · rw [List.getD_eq_getElem?_getD, List.getElem?_eq_getElem h]; rfl
 · rfl
set_option maxHeartbeats 4000000 in
theorem rfindlog_any (room plan : Int) (down : Bool) (v : Value) (R : List RF) (T : Nat → Prop) (w : World) (h : RLi w v R T) (hl : R.length ≤ 1000) (hb : ∀ r ∈ R, r.f.b.length ≤ 100000) :
   Calls Tryz.prog 32 #[rdisk room v plan down] w (RFindP R w ⟨room, R.map RF.f, plan, down⟩ (findS ⟨room, R.map RF.f, plan, down⟩)) := by
 obtain ⟨la, lc, rfl⟩ := slice_form h.row
 have HN := Lib.hid (fun (w' : World) (hb : Below w.heap.size w w') => rnames_any room plan down (.slice la R.length lc) R T w' (h.below hb) (by omega))
 obtain ⟨D, hD⟩ : ∃ D : DS, D = ⟨room, R.map RF.f, plan, down⟩ := ⟨_, rfl⟩
 rw [← hD]
 obtain ⟨f, hf⟩ : ∃ f, f = findS D := ⟨_, rfl⟩
 have HFD := Lib.hid hf
 rw [← hf]
 clear hf
 have HSEG : Hid (segsD D = refL (R.map fun r => r.f.name)) := by rw [Hid, hD]; unfold segsD; rw [List.map_map]; rfl
 have HSB : Hid (∀ n ∈ segsD D, down = false → ∃ a c, Reads w (.slice a (contD D n).length c) (contD D n).length 1 (byts (contD D n)) ∧ (∀ W : World, (∀ r ∈ R, Reads W (.slice r.a r.f.b.length r.c) r.f.b.length 1 (byts r.f.b)) → Reads W (.slice a (contD D n).length c) (contD D n).length 1 (byts (contD D n))) ∧ ((a = none ∧ c = 0) ∨ ∃ g o, a = some ⟨g, o, none⟩) ∧ (contD D n).length ≤ 100000 ∧ ∀ w', Below w.heap.size w w' → Calls Tryz.prog 88 #[.agg #[.int .i64 room, .slice la R.length lc, .int .i64 plan, .bool down], .int .i64 n] w' fun e w'' => e = .returned (.slice a (contD D n).length c) ∧ Below w'.heap.size w' w'') := by
   intro n hn hdn
   rw [HSEG.out] at hn
   obtain ⟨j, hj, hpos, hfb⟩ := pos_find hn
   have hc : contD D n = R[j].f.b := by rw [contD_fileB (by rw [hD]; exact hdn), hD]; exact hfb
   rw [hc]
   have hok := h.byt R[j] (List.getElem_mem hj)
   exact ⟨R[j].a, R[j].c, hok.1.reads, fun W hW => hW R[j] (List.getElem_mem hj), row_form hok.1 rfl, hb R[j] (List.getElem_mem hj), fun w' hbw => rsbytes_fix room plan down _ R T n w' (h.below hbw) hl j hj hpos⟩
 unfold rdisk at HN ⊢
 have HBW : Hid (Below w.heap.size w ((w.alloc (.cells #[.int .i64 room, .slice la R.length lc, .int .i64 plan, .bool down] 32)).alloc (.cells #[.slice none 0 0, .int .i64 0, .int .i64 0, .slice none 0 0, .int .i64 0, .int .i64 0, .int .i64 0] 61))) := ((Below.refl _ _).alloc (Nat.le_refl _) _).alloc (by simp) _
 have HBX : Hid (((w.alloc (.cells #[.int .i64 room, .slice la R.length lc, .int .i64 plan, .bool down] 32)).alloc (.cells #[.slice none 0 0, .int .i64 0, .int .i64 0, .slice none 0 0, .int .i64 0, .int .i64 0, .int .i64 0] 61)).heap[w.heap.size]? = some (.cells #[.int .i64 room, .slice la R.length lc, .int .i64 plan, .bool down] 32 (0, 0))) := (alloc2_low w _ _).trans (heap_alloc_new _ _)
 have HBZ : Hid (((w.alloc (.cells #[.int .i64 room, .slice la R.length lc, .int .i64 plan, .bool down] 32)).alloc (.cells #[.slice none 0 0, .int .i64 0, .int .i64 0, .slice none 0 0, .int .i64 0, .int .i64 0, .int .i64 0] 61)).heap[w.heap.size + 1]? = some (.cells #[.slice none 0 0, .int .i64 0, .int .i64 0, .slice none 0 0, .int .i64 0, .int .i64 0, .int .i64 0] 61 (0, 0))) := alloc2_high w _ _ (heap_alloc_new _ _)
 have HSZ : Hid (((w.alloc (.cells #[.int .i64 room, .slice la R.length lc, .int .i64 plan, .bool down] 32)).alloc (.cells #[.slice none 0 0, .int .i64 0, .int .i64 0, .slice none 0 0, .int .i64 0, .int .i64 0, .int .i64 0] 61)).heap.size = w.heap.size + 2) := by simp [Hid]
 have HDD := Lib.hid hD
 clear h hb hD
 go_enter Tryz.func32, Tryz.ntmps32
 go_upto_region 1 with fail
 generalize (w.alloc (.cells #[.int .i64 room, .slice la R.length lc, .int .i64 plan, .bool down] 32)).alloc (.cells #[.slice none 0 0, .int .i64 0, .int .i64 0, .slice none 0 0, .int .i64 0, .int .i64 0, .int .i64 0] 61) = wa at *
 obtain ⟨x0, x1, x2, x3⟩ := cells4 HBX.out
 cases down with
 | true =>
   have hf : f = FR.bad 10 := by rw [HFD.out]; unfold findS; rw [HDD.out]; rfl
   obtain ⟨z0, z1, z2, z3, z4, z5, z6⟩ := cells7 HBZ.out
   obtain ⟨y0, y1, y2, y3, y4, y5, y6⟩ := free7 HBZ.out
   have HF := Lib.hid hf
   clear hf
   go_wp2
   exact rfind_bad HBZ.out HBW.out HF.out (fun h => absurd h (by decide)) rfl
 | false =>
   have HF : Hid (f = findG (contD D) (segsD D)) := by rw [Hid, HFD.out]; unfold findS; rw [HDD.out]; rfl
   obtain ⟨L, hL⟩ : ∃ L, L = segsD D := ⟨_, rfl⟩
   have HSE := Lib.hid hL
   have HINC : Hid (Inc L) := by rw [hL]; exact inc_segs D
   have HRG : Hid (∀ n ∈ L, 1 ≤ n ∧ n ≤ 99999999) := fun n hn => mem_segs (by rw [← hL]; exact hn)
   have hll : L.length ≤ 1000 := by have := refL_length (R.map fun r => r.f.name); rw [← HSEG.out, ← hL, List.length_map] at this; omega
   have HBY : Hid (∀ n ∈ L, ∃ a c, Reads w (.slice a (contD D n).length c) (contD D n).length 1 (byts (contD D n)) ∧ (∀ W : World, (∀ r ∈ R, Reads W (.slice r.a r.f.b.length r.c) r.f.b.length 1 (byts r.f.b)) → Reads W (.slice a (contD D n).length c) (contD D n).length 1 (byts (contD D n))) ∧ ((a = none ∧ c = 0) ∨ ∃ g o, a = some ⟨g, o, none⟩) ∧ (contD D n).length ≤ 100000 ∧ ∀ w', Below w.heap.size w w' → Calls Tryz.prog 88 #[.agg #[.int .i64 room, .slice la R.length lc, .int .i64 plan, .bool false], .int .i64 n] w' fun e w'' => e = .returned (.slice a (contD D n).length c) ∧ Below w'.heap.size w' w'') := fun n hn => HSB.out n (by rw [← hL]; exact hn) rfl
   rw [← hL] at HF HSEG
   clear HSB HFD hL
   go_wp2_with fail
   refine (HN.out wa HBW.out).mono ?_
   rintro e w1 ⟨v1, rfl, hr1, hb1⟩
   have hls := refList_any v1 (R.map fun r => r.f.name) w1 (by rw [← namesR_V, List.length_map]; exact hr1.reads) (by rw [List.length_map]; omega)
   rw [← HSEG.out] at hls
   have HLS := Lib.hid hls
   have HA1 := Lib.hid hb1
   clear hr1 hb1 hls HN x0 x1 x2 x3 HSEG
   go_wp2_with fail
   refine HLS.out.mono ?_
   rintro e w2 ⟨v2, rfl, hr2, hb2⟩
   have hr2' : Row w2 3 1 v2 L.length (ints L) (fun k => w.heap.size + 2 ≤ k) := (Row.ofOwns hr2).mono (fun k hk => by have := HA1.out.size; have := HSZ.out; omega)
   obtain ⟨va, vc, rfl⟩ := slice_form hr2'
   have HR2 := Lib.hid hr2'
   have HA2 := Lib.hid (HA1.out.trans (hb2.mono HA1.out.size))
   clear hr2 hr2' hb2 HLS HA1
   have HZ2 := Lib.hid ((HA2.out.block _ (lt_of_heap HBZ.out)).trans HBZ.out)
   have HW2 := Lib.hid (HBW.out.trans (HA2.out.mono HBW.out.size))
   by_cases hL0 : L = []
   · subst hL0
     have hf : f = FR.bad 0 := by rw [HF.out, findG, if_pos rfl]
     have HFB := Lib.hid hf
     simp only [List.length_nil] at *
     obtain ⟨z0, z1, z2, z3, z4, z5, z6⟩ := cells7 HZ2.out
     obtain ⟨y0, y1, y2, y3, y4, y5, y6⟩ := free7 HZ2.out
     clear hf
     go_wp2
     exact rfind_bad HZ2.out HW2.out HFB.out (fun _ => HSE.out.symm) rfl
   · have hlen := List.length_pos_iff.2 hL0
     obtain ⟨m, hm⟩ : ∃ m, L.length = m + 1 := ⟨L.length - 1, by omega⟩
     obtain ⟨b, o, c', hv, hle, hbb, hc⟩ := HR2.out.reads.at (by omega)
     obtain ⟨rfl, rfl⟩ : va = some ⟨b, o, none⟩ ∧ vc = c' := by cases hv; exact ⟨rfl, rfl⟩
     have HCL : Hid (∀ (i : Nat) (h : i < L.length) (w' : World), Below w2.heap.size w2 w' → w'.cell? ⟨b, o + i, none⟩ = some (.int .i64 L[i])) := fun i h w' hb => (hb.cell (p := ⟨b, o + i, none⟩) hbb).trans (hc i _ (by simp [ints, h]))
     obtain ⟨n0, hn0⟩ : ∃ n0, n0 = L.getD 0 0 := ⟨_, rfl⟩
     have hfirst0 : w2.drew.cell? ⟨b, o, none⟩ = some (.int .i64 n0) := by
       have := HCL.out 0 (by omega) w2.drew (Below.refl _ _).drew
       rw [hn0, List.getD_eq_getElem?_getD, List.getElem?_eq_getElem (by omega)]; exact this
     have hlast0 : w2.drew.cell? ⟨b, o + m, none⟩ = some (.int .i64 (lastN L)) := by
       have := HCL.out m (by omega) w2.drew (Below.refl _ _).drew
       rw [lastN_get hm]; exact this
     have hfirst : ∀ ob, (w2.alloc ob).drew.cell? ⟨b, o, none⟩ = some (.int .i64 n0) := fun ob => by
       have := HCL.out 0 (by omega) (w2.alloc ob).drew ((Below.refl _ _).alloc (Nat.le_refl _) _).drew
       rw [hn0, List.getD_eq_getElem?_getD, List.getElem?_eq_getElem (by omega)]; exact this
     have hlast : ∀ ob, (w2.alloc ob).drew.cell? ⟨b, o + m, none⟩ = some (.int .i64 (lastN L)) := fun ob => by
       have := HCL.out m (by omega) (w2.alloc ob).drew ((Below.refl _ _).alloc (Nat.le_refl _) _).drew
       rw [lastN_get hm]; exact this
     have hm1 : (L.length : Int) - 1 = (m : Int) := by omega
     have HM := Lib.hid hm
     have HN0 := Lib.hid hn0
     have HDK : Hid (∀ w', Below w2.heap.size w2 w' → w'.heap[w.heap.size]? = some (.cells #[.int .i64 room, .slice la R.length lc, .int .i64 plan, .bool false] 32 (0, 0))) := fun w' hb => ((HA2.out.trans (hb.mono HA2.out.size)).block _ (lt_of_heap HBX.out)).trans HBX.out
     have HZK : Hid (∀ w', Below w2.heap.size w2 w' → w'.heap[w.heap.size + 1]? = some (.cells #[.slice none 0 0, .int .i64 0, .int .i64 0, .slice none 0 0, .int .i64 0, .int .i64 0, .int .i64 0] 61 (0, 0))) := fun w' hb => ((HA2.out.trans (hb.mono HA2.out.size)).block _ (lt_of_heap HBZ.out)).trans HBZ.out
     have HWK : Hid (∀ w', Below w2.heap.size w2 w' → Below w.heap.size w w') := fun w' hb => HW2.out.trans (hb.mono HW2.out.size)
     have HSZ2 : Hid (w.heap.size + 2 ≤ w2.heap.size) := by have h1 := HA2.out.size; have h2 := HSZ.out; rw [Hid]; omega
     clear hv hc hm hn0 HBX HBZ HZ2 HW2
     have hlz : ((L.length : Int) == 0) = false := by simp; omega
     go_upto_region 6 with fail
     go_region
     have HX3 : Hid ((w2.alloc (.cells #[.slice (some ⟨b, o, none⟩) L.length vc, .int .i64 n0, .int .i64 (lastN L), .slice none 0 0, .int .i64 0, .int .i64 0, .int .i64 0] 61)).drew.heap[w2.heap.size]? = some (.cells #[.slice (some ⟨b, o, none⟩) L.length vc, .int .i64 n0, .int .i64 (lastN L), .slice none 0 0, .int .i64 0, .int .i64 0, .int .i64 0] 61 (0, 0))) := heap_alloc_new _ _
     have HB3 : Hid (Below w2.heap.size w2 (w2.alloc (.cells #[.slice (some ⟨b, o, none⟩) L.length vc, .int .i64 n0, .int .i64 (lastN L), .slice none 0 0, .int .i64 0, .int .i64 0, .int .i64 0] 61)).drew) := ((Below.refl _ _).alloc (Nat.le_refl _) _).drew
     generalize (w2.alloc (.cells #[.slice (some ⟨b, o, none⟩) L.length vc, .int .i64 n0, .int .i64 (lastN L), .slice none 0 0, .int .i64 0, .int .i64 0, .int .i64 0] 61)).drew = w3 at *
     clear hfirst hlast hfirst0 hlast0 hm1
     go_wp2_with fail
     go_loopw [5] (fun iv w' => ∃ (i : Nat), i ≤ L.length ∧ iv = .int .i64 i ∧ Hid (w'.heap[w2.heap.size]? = some (.cells #[.slice (some ⟨b, o, none⟩) L.length vc, .int .i64 (firstAt (contD D) L i), .int .i64 (lastN L), .slice none 0 0, .int .i64 0, .int .i64 0, .int .i64 0] 61 (0, 0))) ∧ Hid (Below w2.heap.size w2 w')) (fun iv _ => L.length - (RowKit.intOf iv).toNat)
     case atStart => exact ⟨0, by omega, rfl, by rw [Hid, show firstAt (contD D) L 0 = n0 from HN0.out.symm]; exact HX3, HB3⟩
     case round =>
       obtain ⟨i, hi, rfl, HX, HB⟩ := hrel
       by_cases hlt : i < L.length
       · obtain ⟨ba, bc, hrd, hrw, hform, hcl, hcall⟩ := HBY.out L[i] (List.getElem_mem hlt)
         have HMS := Lib.hid (firstAt_succ (contD D) L hlt)
         have HCI : Hid (∀ w', Hid (Below wr.heap.size wr w') → w'.cell? ⟨b, o + i, none⟩ = some (.int .i64 L[i])) := fun w' hb => HCL.out i hlt w' (HB.out.trans (hb.out.mono HB.out.size))
         generalize L[i] = n at *
         generalize contD D n = l at *
         have HK : Hid (∀ w', Hid (Below wr.heap.size wr w') → (w'.cell? ⟨w.heap.size, 0, none⟩ = some (.int .i64 room) ∧ w'.cell? ⟨w.heap.size, 1, none⟩ = some (.slice la R.length lc) ∧ w'.cell? ⟨w.heap.size, 2, none⟩ = some (.int .i64 plan) ∧ w'.cell? ⟨w.heap.size, 3, none⟩ = some (.bool false)) ∧ w'.cell? ⟨b, o + i, none⟩ = some (.int .i64 n)) := fun w' hb => ⟨cells4 (HDK.out w' (HB.out.trans (hb.out.mono HB.out.size))), HCI.out w' hb⟩
         have HCB : Hid (∀ w', Hid (Below wr.heap.size wr w') → Calls Tryz.prog 88 #[.agg #[.int .i64 room, .slice la R.length lc, .int .i64 plan, .bool false], .int .i64 n] w' fun e w'' => e = .returned (.slice ba l.length bc) ∧ Below w'.heap.size w' w'') := fun w' hb => hcall w' (HWK.out w' (HB.out.trans (hb.out.mono HB.out.size)))
         have HMK : Hid (∀ w', Hid (Below wr.heap.size wr w') → Calls Tryz.prog 91 #[.slice ba l.length bc] w' fun e w'' => e = .returned (.bool (markedB l)) ∧ Below w'.heap.size w' w'') := fun w' hb => rmarked_any ba bc l w' (hrd.later (HWK.out w' (HB.out.trans (hb.out.mono HB.out.size)))) hcl
         generalize markedB l = mb at *
         clear hcall hrd hform hrw
         have HB00 : Hid (Below wr.heap.size wr wr.drew) := (Below.refl _ _).drew
         have hi0 : (0 : Int) ≤ (i : Int) := by omega
         have hi1 : (i : Int) < (L.length : Int) := by omega
         go_upto_region 10 with fail
         go_region_held3 (fun w' => (w'.cell? ⟨w.heap.size, 0, none⟩ = some (.int .i64 room) ∧ w'.cell? ⟨w.heap.size, 1, none⟩ = some (.slice la R.length lc) ∧ w'.cell? ⟨w.heap.size, 2, none⟩ = some (.int .i64 plan) ∧ w'.cell? ⟨w.heap.size, 3, none⟩ = some (.bool false)) ∧ w'.cell? ⟨b, o + i, none⟩ = some (.int .i64 n)) (exact HK.out _ (by assumption))
           (first
           | (go_at_call 88; refine (HCB.out _ (by assumption)).mono ?_; rintro e wb ⟨rfl, hba⟩
              have HBa := belh_step (w0 := wr) (by assumption) hba
              clear hba)
           | (go_at_call 91; refine (HMK.out _ (by assumption)).mono ?_; rintro e wc ⟨rfl, hbb⟩
              have HBb := belh_step (w0 := wr) (by assumption) hbb
              clear hbb))
         have HXc := Lib.hid ((HBb.out.block _ (lt_of_heap HX.out)).trans HX.out)
         have HBc := Lib.hid (HB.out.trans (HBb.out.mono HB.out.size))
         have hci := HCI.out wc HBb
         obtain ⟨y0, y1, y2, y3, y4, y5, y6⟩ := cells7 HXc.out
         obtain ⟨z0, z1, z2, z3, z4, z5, z6⟩ := free7 HXc.out
         clear HK HCB HMK HB00 HCI
         cases mb with
         | true =>
           have HF2 : Hid (firstAt (contD D) L (i + 1) = n) := by rw [Hid, HMS.out, if_pos rfl]
           have HX4 : Hid ((wc.setCell ⟨w2.heap.size, 1, none⟩ (.int .i64 n)).heap[w2.heap.size]? = some (.cells #[.slice (some ⟨b, o, none⟩) L.length vc, .int .i64 n, .int .i64 (lastN L), .slice none 0 0, .int .i64 0, .int .i64 0, .int .i64 0] 61 (0, 0))) := heap_store HXc.out 1 (.int .i64 n)
           have HB4 : Hid (Below w2.heap.size w2 (wc.setCell ⟨w2.heap.size, 1, none⟩ (.int .i64 n))) := HBc.out.setCell (p := ⟨w2.heap.size, 1, none⟩) (Nat.le_refl _) _
           go_wp2
           go_roundw
           case rel => exact ⟨i + 1, by omega, by go_num, by rw [HF2.out]; exact HX4, HB4⟩
           case measure => simp [RowKit.intOf] <;> omega
         | false =>
           have HF2 : Hid (firstAt (contD D) L (i + 1) = firstAt (contD D) L i) := by rw [Hid, HMS.out]; rfl
           go_wp2
           go_roundw
           case rel => exact ⟨i + 1, by omega, by go_num, by rw [HF2.out]; exact HXc, HBc⟩
           case measure => simp [RowKit.intOf] <;> omega
       · obtain rfl : i = L.length := by omega
         obtain ⟨K, hK⟩ : ∃ K, K = markK (contD D) L (L.length - 1) := ⟨_, rfl⟩
         have hkl : K ≤ L.length - 1 := by rw [hK]; exact markK_le _ _ _
         obtain ⟨fs, hfs⟩ : ∃ fs, fs = firstAt (contD D) L L.length := ⟨_, rfl⟩
         have hK2 : K < L.length := by omega
         have HFK : Hid (fs = L[K]'hK2) := by
           rw [Hid, hfs]; unfold firstAt
           rw [← hK, List.getD_eq_getElem?_getD, List.getElem?_eq_getElem (by omega)]; rfl
         rw [← hfs] at HX
         obtain ⟨M, hM⟩ : ∃ M, M = L.drop K := ⟨_, rfl⟩
         have HML : Hid (M.length = L.length - K) := by rw [Hid, hM, List.length_drop]
         have HMI : Hid (∀ (j : Nat) (h : K + j < L.length), M.getD j 0 = L[K + j] ∧ M[j]? = some L[K + j]) := fun j h => by
           have e : M[j]? = some L[K + j] := by rw [hM, List.getElem?_drop, List.getElem?_eq_getElem h]
           exact ⟨by rw [List.getD_eq_getElem?_getD, e]; rfl, e⟩
         have HFG : Hid (f = if (chainUp M M.length && restUp (contD D) M M.length) then
             ⟨0, L.take K, lastN L, recsG (contD D) M, (contD D (lastN L)).take (splitB (contD D (lastN L))).2, (contD D (lastN L)).length - (splitB (contD D (lastN L))).2⟩
           else FR.bad 11) := by rw [Hid, HF.out, findG, if_neg hL0, ← hK, ← hM, HML.out]
         have HBAD : Hid (∀ k, k ≤ M.length → (chainUp M k && restUp (contD D) M k) = false → f = FR.bad 11) := fun k hk hb => by
           have h2 : (chainUp M M.length && restUp (contD D) M M.length) = false := by
             cases hc : chainUp M k with
             | false => rw [chainUp_false hc hk, Bool.false_and]
             | true => rw [hc, Bool.true_and] at hb; rw [restUp_false hb hk, Bool.and_false]
           rw [HFG.out, h2]; rfl
         have HORD : Hid (∀ (i : Nat) (h : i < L.length), (i < K → L[i] < fs) ∧ (K < i → fs < L[i]) ∧ (i = K → L[i] = fs) ∧ (L[i] < lastN L ↔ ¬ i + 1 = L.length) ∧ (i + 1 = L.length → L[i] = lastN L)) := fun i h => by
           have hp := List.pairwise_iff_getElem.1 HINC.out
           have hla : lastN L = L[L.length - 1]'(by omega) := by
             have e := HM.out
             rw [lastN_get e]; congr 1; omega
           rw [HFK.out, hla]
           refine ⟨fun h1 => hp _ _ _ _ h1, fun h1 => hp _ _ _ _ h1, fun h1 => by subst h1; rfl, ?_, fun h1 => by congr 1; omega⟩
           constructor
           · intro h1 e
             have e2 : L.length - 1 = i := by omega
             simp only [e2] at h1
             omega
           · intro h1
             exact hp _ _ _ _ (by omega)
         have HMR := Lib.hid hM
         have HOLD : Hid (olderL L fs = (L.take K).map nameI) := by rw [Hid, HFK.out]; exact olderL_take HINC.out hK2
         clear hK hfs hM HF HN0
         go_wp2_with fail
         go_loopw [6] (fun iv w' => ∃ (i : Nat) (X : List SL) (vr : Option Addr) (cr sz tn : Nat), i ≤ L.length ∧ iv = .int .i64 i ∧ X.length ≤ 12500 * i ∧ Hid (w'.heap[w2.heap.size]? = some (.cells #[.slice (some ⟨b, o, none⟩) L.length vc, .int .i64 fs, .int .i64 (lastN L), .slice vr X.length cr, .int .i64 sz, .int .i64 tn, .int .i64 0] 61 (0, 0))) ∧ Hid (Row w' 72 1 (.slice vr X.length cr) X.length (X.map SL.v) (fun k => w2.heap.size < k)) ∧ Hid (∀ x ∈ X, (∃ a c, x.v = .slice a x.l.length c) ∧ RdR R x) ∧ Hid (X.map SL.l = recsG (contD D) (M.take (i - K))) ∧ Hid (Below w2.heap.size w2 w') ∧ Hid (chainUp M (i - K) = true ∧ restUp (contD D) M (i - K) = true ∧ (K < i → sz = (splitB (contD D (M.getD (i - K - 1) 0))).2 ∧ tn = (contD D (M.getD (i - K - 1) 0)).length - (splitB (contD D (M.getD (i - K - 1) 0))).2))) (fun iv _ => L.length - (RowKit.intOf iv).toNat)
         case atStart => exact ⟨0, [], none, 0, 0, 0, by omega, rfl, by simp, HX, Row.nil _ _ _ _, by simp [Hid], by simp [Hid, recsG], HB, by rw [Hid, Nat.zero_sub]; exact ⟨rfl, rfl, fun h => absurd h (by omega)⟩⟩
         case round =>
           obtain ⟨i, X, vr, cr, sz, tn, hi, rfl, hxl, HX, HRW, HRX, HRE, HB, HST⟩ := hrel
           have HZR := Lib.hid (HZK.out wr HB.out)
           have HBWR := Lib.hid (HWK.out wr HB.out)
           by_cases hlt : i < L.length
           · have hci := HCL.out i hlt wr HB.out
             obtain ⟨ho1, ho2, ho3, ho4, ho5⟩ := HORD.out i hlt
             have hnb := HRG.out L[i] (List.getElem_mem hlt)
             obtain ⟨x0, x1, x2, x3, x4, x5, x6⟩ := cells7 HX.out
             by_cases hiK : i < K
             · have hnf := ho1 hiK
               have e0 : i + 1 - K = i - K := by omega
               generalize L[i] = n at *
               clear ho1 ho2 ho3 ho4 ho5
               go_wp2_with fail
               go_roundw
               case rel => exact ⟨i + 1, X, vr, cr, sz, tn, by omega, by go_num, by omega, HX, HRW, HRX, by rw [e0]; exact HRE, HB, by rw [e0]; exact ⟨HST.out.1, HST.out.2.1, fun h => absurd h (by omega)⟩⟩
               case measure => simp [RowKit.intOf] <;> omega
             · obtain ⟨q, hq⟩ : ∃ q, i = K + q := ⟨i - K, by omega⟩
               have hqe : i - K = q := by omega
               have hqs : i + 1 - K = q + 1 := by omega
               rw [hqe] at HRE HST
               obtain ⟨hmd, hmg⟩ : M.getD q 0 = L[i] ∧ M[q]? = some L[i] := by
                 have := HMI.out q (by omega)
                 simp only [← hq] at this
                 exact this
               have hqM : q < M.length := by have := HML.out; omega
               obtain ⟨ba, bc, hrd, hrw, hform, hcl, hcall⟩ := HBY.out L[i] (List.getElem_mem hlt)
               have HCH : Hid (chainUp M (q + 1) = (chainUp M q && chainAt M q)) := chainUp_succ M q
               have HRU : Hid (restUp (contD D) M (q + 1) = (restUp (contD D) M q && restAt (contD D) M q)) := restUp_succ _ M q
               have HRA : Hid (restAt (contD D) M q = (decide ((splitB (contD D L[i])).2 = (contD D L[i]).length ∨ q + 1 = M.length) && empAt q (splitB (contD D L[i])).1 (splitB (contD D L[i])).1.length)) := by rw [Hid, restAt, hmd]
               have HRS : Hid (recsG (contD D) (M.take (q + 1)) = recsG (contD D) (M.take q) ++ fullL (splitB (contD D L[i])).1) := by
                 rw [Hid, List.take_add_one, hmg]; unfold recsG; rw [List.flatMap_append]; simp
               have HCA : Hid (chainAt M q = decide (q = 0 ∨ M.getD (q - 1) 0 + 1 = L[i])) := by rw [Hid, chainAt, hmd]
               have HPRE : Hid (∀ p, i = p + 1 → 0 < q → ∃ y, wr.cell? ⟨b, o + p, none⟩ = some (.int .i64 y) ∧ M.getD (q - 1) 0 = y ∧ 1 ≤ y ∧ y ≤ 99999999) := fun p hp hq0 => by
                 have hpl : p < L.length := by omega
                 have h1 := HMI.out (q - 1) (by omega)
                 have e : K + (q - 1) = p := by omega
                 simp only [e] at h1
                 exact ⟨L[p], HCL.out p hpl wr HB.out, h1.1, HRG.out _ (List.getElem_mem hpl)⟩
               have hn1 : ¬ L[i] < fs := by
                 rcases Nat.lt_or_ge K i with h | h
                 · have := ho2 h; omega
                 · have := ho3 (by omega); omega
               have hnq : (q = 0 ∧ ¬ fs < L[i]) ∨ (0 < q ∧ fs < L[i]) := by
                 rcases Nat.lt_or_ge K i with h | h
                 · exact .inr ⟨by omega, ho2 h⟩
                 · have := ho3 (by omega); exact .inl ⟨by omega, by omega⟩
               have HLL : Hid (L[i] < lastN L ↔ ¬ q + 1 = M.length) := by
                 have h1 := HML.out
                 rw [Hid, ho4]
                 constructor <;> intro h2 h3 <;> exact h2 (by omega)
               obtain ⟨l, hl0⟩ : ∃ l, l = contD D L[i] := ⟨_, rfl⟩
               have HLE : Hid (l = contD D (M.getD q 0)) := by rw [Hid, hmd]; exact hl0
               have HSI : Hid (i + 1 - K - 1 = q) := by rw [Hid]; omega
               rw [← hl0] at hrd hrw hcl hcall HRA HRS
               generalize L[i] = n at *
               have HRD := Lib.hid hrd
               have HRWW := Lib.hid hrw
               have HFO := Lib.hid hform
               have HCALL := Lib.hid hcall
               clear ho1 ho2 ho3 ho4 ho5 hl0 hmd hmg hrd hrw hform hcall
               have hok : (chainAt M q = false ∧ ∃ p : Nat, ∃ y : Int, (i : Int) - 1 = (p : Int) ∧ p < L.length ∧ fs < n ∧ wr.cell? ⟨b, o + p, none⟩ = some (.int .i64 y) ∧ ¬ y + 1 = n ∧ 1 ≤ y ∧ y ≤ 99999999) ∨
                   (chainAt M q = true ∧ 0 < q ∧ ∃ p : Nat, ∃ y : Int, (i : Int) - 1 = (p : Int) ∧ p < L.length ∧ fs < n ∧ wr.cell? ⟨b, o + p, none⟩ = some (.int .i64 y) ∧ y + 1 ≤ n ∧ n ≤ y + 1 ∧ 1 ≤ y) ∨
                   (chainAt M q = true ∧ q = 0 ∧ ¬ fs < n) := by
                 rcases hnq with ⟨h1, h2⟩ | ⟨h1, h2⟩
                 · exact .inr (.inr ⟨by rw [HCA.out, decide_eq_true (.inl h1)], h1, h2⟩)
                 · obtain ⟨y, hy1, hy2, hy3, hy4⟩ := HPRE.out (i - 1) (by omega) h1
                   by_cases hy : y + 1 = n
                   · exact .inr (.inl ⟨by rw [HCA.out, decide_eq_true (.inr (by rw [hy2]; exact hy))], h1, i - 1, y, by omega, by omega, h2, hy1, by omega, by omega, hy3⟩)
                   · exact .inl ⟨by rw [HCA.out]; exact decide_eq_false (by rintro (h | h); omega; rw [hy2] at h; exact hy h), i - 1, y, by omega, by omega, h2, hy1, hy, hy3, hy4⟩
               have HQ := Lib.hid hq
               have HST2 := Lib.hid HST.out
               have HQM := Lib.hid hqM
               have HQE := Lib.hid hqe
               have HQS := Lib.hid hqs
               clear hnq HPRE HCA hq hqe hqs hqM
               rcases hok with ⟨hca, p, y, hp1, hpl, hfn, hcp, hyn, hy1, hy2⟩ | ⟨hca, hq0, p, y, hp1, hpl, hfn, hcp, hya, hyb, hy1⟩ | ⟨hca, hq0, hfn⟩
               · have HFB : Hid (f = FR.bad 11) := HBAD.out (q + 1) HQM.out (by rw [HCH.out, hca, Bool.and_false, Bool.false_and])
                 obtain ⟨z0, z1, z2, z3, z4, z5, z6⟩ := cells7 HZR.out
                 obtain ⟨y0, y1', y2', y3, y4, y5, y6⟩ := free7 HZR.out
                 clear hca
                 go_wp2
                 exact rfind_bad HZR.out HBWR.out HFB.out (fun h => absurd h (by decide)) rfl
               all_goals
                 have HCA := Lib.hid hca
                 have HPQ : Hid ((0 < q ∧ fs < n) ∨ (q = 0 ∧ ¬ fs < n)) := by first | exact .inl ⟨hq0, hfn⟩ | exact .inr ⟨hq0, hfn⟩
                 obtain ⟨d0, d1, d2, d3⟩ := cells4 (HDK.out wr HB.out)
                 clear hca
                 go_wp2_with fail
                 refine (HCALL.out wr HBWR.out).mono ?_
                 rintro e w4 ⟨rfl, hb4⟩
                 have HB4 := Lib.hid (HB.out.trans (hb4.mono HB.out.size))
                 have HSP := Lib.hid (rsplit_any ba bc l w4 (HRD.out.later (HWK.out w4 HB4.out)) hcl HFO.out)
                 have HBa := Lib.hid hb4
                 try clear hp1 hpl hcp hya hyb hy1
                 try clear p y
                 clear hb4 HCALL d0 d1 d2 d3
                 go_wp2_with fail
                 refine HSP.out.mono ?_
                 rintro e w5 ⟨v5, X5, rfl, hr5, hx5, he5, hl5, hb5⟩
                 have HB5 := Lib.hid (HB4.out.trans (hb5.mono HB4.out.size))
                 have HBR5 := Lib.hid (HBa.out.trans (hb5.mono HBa.out.size))
                 have hsle := splitB_le l
                 obtain ⟨s7, hs7⟩ : ∃ s, s = (splitB l).2 := ⟨_, rfl⟩
                 have HS7 := Lib.hid hs7
                 obtain ⟨XL, hXL⟩ : ∃ XL, XL = (splitB l).1 := ⟨_, rfl⟩
                 have HXL := Lib.hid hXL
                 rw [← hXL] at he5
                 rw [← hs7, ← hXL] at HRA
                 rw [← hXL] at HRS
                 rw [← hs7] at hsle ⊢
                 have HE5 := Lib.hid he5
                 have HLX : Hid (XL.length = X5.length) := by rw [Hid, ← he5, List.length_map]
                 obtain ⟨t7, ht7⟩ : ∃ t : Nat, t = l.length - s7 := ⟨_, rfl⟩
                 have hsub : (l.length : Int) - (s7 : Int) = (t7 : Int) := by omega
                 have HT7 := Lib.hid ht7
                 obtain ⟨a5, c5, hv5⟩ := slice_form hr5
                 subst hv5
                 have HX5 := Lib.hid ((HBR5.out.block _ (lt_of_heap HX.out)).trans HX.out)
                 have HW25 : Hid (w2.heap.size < w4.heap.size ∧ w4.heap.size ≤ w5.heap.size) := ⟨by have := lt_of_heap HX.out; have := HBa.out.size; omega, hb5.size⟩
                 have HRW5 : Hid (Row w5 72 1 (.slice a5 X5.length c5) X5.length (X5.map SL.v) (fun k => w4.heap.size ≤ k ∧ k < w5.heap.size)) := Row.tight hr5
                 have HRT5 : Hid (Row w5 72 1 (.slice vr X.length cr) X.length (X.map SL.v) (fun k => w2.heap.size < k ∧ (k < w4.heap.size ∨ w5.heap.size ≤ k))) :=
                   ((Row.tight HRW.out).frame (fun k hk hlt => HBR5.out.block k hlt)).mono (fun k hk => ⟨hk.1, .inl (by have := hk.2; have := HBa.out.size; omega)⟩)
                 have HXX5 : Hid (∀ x ∈ X5, (∃ a c, x.v = .slice a x.l.length c) ∧ RdR R x) := fun x hx => ⟨(hx5 x hx).1, fun W hW => (hx5 x hx).2 W (HRWW.out W hW)⟩
                 have HL5 : Hid (8 * X5.length ≤ l.length) := hl5
                 have hx5b : X5.length ≤ 12500 := by omega
                 have HGX : Hid (∀ (j : Nat) (h : j < X5.length), XL.getD j [] = X5[j].l ∧ XL.take (j + 1) = XL.take j ++ [X5[j].l]) := fun j h => by
                   have h1 : XL[j]? = some X5[j].l := by rw [← he5, List.getElem?_map, List.getElem?_eq_getElem h]; rfl
                   refine ⟨by rw [List.getD_eq_getElem?_getD, h1]; rfl, ?_⟩
                   rw [List.take_add_one, h1]; rfl
                 have HBB : Hid (∀ e : Bool, e = false → restAt (contD D) M q = (decide (s7 = l.length ∨ q + 1 = M.length) && e) → f = FR.bad 11) := fun e he hr =>
                   HBAD.out (q + 1) HQM.out (by rw [HRU.out, hr, he, Bool.and_false, Bool.and_false, Bool.and_false])
                 have HBT : Hid (¬ (s7 = l.length ∨ q + 1 = M.length) → f = FR.bad 11) := fun h =>
                   HBAD.out (q + 1) HQM.out (by rw [HRU.out, HRA.out, decide_eq_false h, Bool.false_and, Bool.and_false, Bool.and_false])
                 have HZR5 := Lib.hid (HZK.out w5 HB5.out)
                 have HWR5 := Lib.hid (HWK.out w5 HB5.out)
                 obtain ⟨x0', x1', x2', x3', x4', x5', x6'⟩ := cells7 HX5.out
                 have hx2b : X.length + X5.length ≤ 13000000 := by omega
                 have HSUB := Lib.hid hsub
                 clear hr5 hx5 he5 hl5 hb5 hs7 hXL ht7 HSP hsub
                 have hstart : (s7 < l.length ∧ n < lastN L) ∨ ((s7 = l.length ∨ q + 1 = M.length) ∧ s7 < l.length ∧ ¬ n < lastN L) ∨ ((s7 = l.length ∨ q + 1 = M.length) ∧ ¬ s7 < l.length) := by
                   by_cases hq1 : s7 < l.length
                   · by_cases hq2 : n < lastN L
                     · exact .inl ⟨hq1, hq2⟩
                     · exact .inr (.inl ⟨.inr (Classical.byContradiction fun h => hq2 (HLL.out.2 h)), hq1, hq2⟩)
                   · exact .inr (.inr ⟨.inl (by omega), hq1⟩)
                 rcases hstart with ⟨hq1, hq2⟩ | ⟨hgood, hq1, hq2⟩ | ⟨hgood, hq1⟩
                 · have HFB : Hid (f = FR.bad 11) := HBT.out (by
                     rintro (h | h)
                     · omega
                     · exact HLL.out.1 hq2 h)
                   obtain ⟨z0, z1, z2, z3, z4, z5, z6⟩ := cells7 HZR5.out
                   obtain ⟨y0', y1', y2', y3', y4', y5', y6'⟩ := free7 HZR5.out
                   clear HBB HBT
                   go_wp2
                   exact rfind_bad HZR5.out HWR5.out HFB.out (fun h => absurd h (by decide)) rfl
                 all_goals
                   have HGOOD : Hid (restAt (contD D) M q = empAt q XL XL.length) := by rw [Hid, HRA.out, decide_eq_true hgood, Bool.true_and]
                   clear hgood HRA HBT
                   go_wp2_with fail
                   go_loopw [11] (fun jv w' => ∃ (j : Nat) (X2 : List SL) (ra2 : Option Addr) (rc2 : Nat), j ≤ X5.length ∧ jv = .int .i64 j ∧ X2.length ≤ X.length + j ∧ Hid (w'.heap[w2.heap.size]? = some (.cells #[.slice (some ⟨b, o, none⟩) L.length vc, .int .i64 fs, .int .i64 (lastN L), .slice ra2 X2.length rc2, .int .i64 sz, .int .i64 tn, .int .i64 0] 61 (0, 0))) ∧ Hid (Row w' 72 1 (.slice ra2 X2.length rc2) X2.length (X2.map SL.v) (fun k => w2.heap.size < k ∧ (k < w4.heap.size ∨ w5.heap.size ≤ k))) ∧ Hid (∀ x ∈ X2, (∃ a c, x.v = .slice a x.l.length c) ∧ RdR R x) ∧ Hid (X2.map SL.l = X.map SL.l ++ fullL (XL.take j)) ∧ Hid (Row w' 72 1 (.slice a5 X5.length c5) X5.length (X5.map SL.v) (fun k => w4.heap.size ≤ k ∧ k < w5.heap.size)) ∧ Hid (empAt q XL j = true) ∧ Hid (Below w2.heap.size w2 w') ∧ Hid (w5.heap.size ≤ w'.heap.size)) (fun jv _ => X5.length - (RowKit.intOf jv).toNat)
                   case atStart => exact ⟨0, X, vr, cr, by omega, rfl, by omega, HX5, HRT5, HRX, by simp [Hid, fullL], HRW5, by simp [Hid, empAt], HB5, Nat.le_refl _⟩
                   case round =>
                     obtain ⟨j, X2, ra2, rc2, hj, rfl, hx2l, HX2, HR2', HXX2, HE2, HRW2, HEM, HB2, HSZ2'⟩ := hrel
                     obtain ⟨x0, x1, x2, x3, x4, x5, x6⟩ := cells7 HX2.out
                     by_cases hjl : j < X5.length
                     · obtain ⟨ya, yc, hyv⟩ := (HXX5.out X5[j] (List.getElem_mem hjl)).1
                       obtain ⟨b7, o7, c7', hv7, hle7, hb7, hc7⟩ := HRW2.out.reads.at (by omega)
                       obtain ⟨rfl, rfl⟩ : a5 = some ⟨b7, o7, none⟩ ∧ c5 = c7' := by cases hv7; exact ⟨rfl, rfl⟩
                       have hcj : wr.cell? ⟨b7, o7 + j, none⟩ = some (.slice ya X5[j].l.length yc) := by
                         have := hc7 j X5[j].v (by rw [List.getElem?_map, List.getElem?_eq_getElem hjl]; rfl)
                         rwa [hyv] at this
                       obtain ⟨hg1, hg2⟩ := HGX.out j hjl
                       have HES : Hid (empAt q XL (j + 1) = (empAt q XL j && decide (X5[j].l ≠ [] ∨ q + j = 0))) := by rw [Hid, empAt_succ, hg1]
                       have HFS : Hid (fullL (XL.take (j + 1)) = fullL (XL.take j) ++ fullL [X5[j].l]) := by rw [Hid, hg2]; unfold fullL; rw [List.filter_append]
                       have HYM : Hid (X5[j] ∈ X5) := List.getElem_mem hjl
                       generalize X5[j] = y at *
                       have HHB := Lib.hid hb7
                       have HYV := Lib.hid hyv
                       clear hv7 hc7 hg1 hg2 hb7 hyv
                       by_cases hy : y.l = []
                       · have hyl : y.l.length = 0 := by rw [hy]; rfl
                         rw [hyl] at hcj
                         by_cases hij : q + j = 0
                         · have HFS2 : Hid (X2.map SL.l = X.map SL.l ++ fullL (XL.take (j + 1))) := by rw [Hid, HE2.out, HFS.out, hy]; simp [fullL]
                           have HK2 : Hid (empAt q XL (j + 1) = true) := by rw [Hid, HES.out, HEM.out, decide_eq_true (.inr hij)]; rfl
                           have hfn2 : ¬ fs < n := by
                             rcases HPQ.out with h | h
                             · omega
                             · have := h.2; omega
                           obtain rfl : j = 0 := by omega
                           rw [Nat.add_zero] at hcj
                           clear HES HFS hy hyl hfn hq0
                           go_wp2_with fail
                           go_roundw
                           case rel => exact ⟨0 + 1, X2, ra2, rc2, by omega, by first | rfl | go_num, by omega, HX2, HR2', HXX2, HFS2, HRW2, HK2, HB2, HSZ2'⟩
                           case measure => simp [RowKit.intOf] <;> omega
                         · have HFB : Hid (f = FR.bad 11) := by
                             have hd : ¬ (y.l ≠ [] ∨ q + j = 0) := by rintro (h | h); exact h hy; exact hij h
                             have h1 : empAt q XL (j + 1) = false := by rw [HES.out, decide_eq_false hd, Bool.and_false]
                             have h2 : empAt q XL XL.length = false := by
                               unfold empAt at h1 ⊢
                               rw [List.all_eq_false] at h1 ⊢
                               obtain ⟨u, hu, hf⟩ := h1
                               exact ⟨u, by rw [List.mem_range] at hu ⊢; have := HLX.out; omega, hf⟩
                             exact HBAD.out (q + 1) HQM.out (by rw [HRU.out, HGOOD.out, h2, Bool.and_false, Bool.and_false])
                           have HZ9 := Lib.hid (HZK.out wr HB2.out)
                           have HW9 := Lib.hid (HWK.out wr HB2.out)
                           obtain ⟨z0, z1, z2, z3, z4, z5, z6⟩ := cells7 HZ9.out
                           obtain ⟨y0', y1', y2', y3', y4', y5', y6'⟩ := free7 HZ9.out
                           rcases HPQ.out with h | h
                           · first
                             | (exfalso; have := h.1; omega)
                             | (have hfn2 : fs < n := h.2
                                clear HES HFS hy hyl hfn hq0 h
                                rcases Nat.eq_zero_or_pos j with hj0 | hj0
                                · subst hj0
                                  rw [Nat.add_zero] at hcj
                                  clear hij
                                  go_wp2_with fail
                                  exact rfind_bad HZ9.out HW9.out HFB.out (fun h => absurd h (by decide)) rfl
                                · clear hij
                                  go_wp2_with fail
                                  exact rfind_bad HZ9.out HW9.out HFB.out (fun h => absurd h (by decide)) rfl)
                           · first
                             | (exfalso; have := h.1; omega)
                             | (have hj0 : 0 < j := by omega
                                clear HES HFS hy hyl h hij
                                go_wp2_with fail
                                exact rfind_bad HZ9.out HW9.out HFB.out (fun h => absurd h (by decide)) rfl)
                       · have hyl := List.length_pos_iff.2 hy
                         have HK2 : Hid (empAt q XL (j + 1) = true) := by rw [Hid, HES.out, HEM.out, decide_eq_true (.inl hy)]; rfl
                         have HFS2 : Hid ((X2 ++ [y]).map SL.l = X.map SL.l ++ fullL (XL.take (j + 1))) := by
                           rw [Hid, HFS.out, List.map_append, HE2.out, List.append_assoc]
                           congr 1
                           unfold fullL
                           rw [List.filter_cons_of_pos (by simpa using hy)]
                           rfl
                         have hxa3 : ∀ ob, (wr.alloc ob).drew.cell? ⟨w2.heap.size, 3, none⟩ = some (.slice ra2 X2.length rc2) := fun ob => cellAt (w := (wr.alloc ob).drew) ((Below.heap_alloc wr ob _ (lt_of_heap HX2.out)).trans HX2.out) 3 rfl
                         have hx3b : X2.length + 1 ≤ 14000000 := by omega
                         have hlx : w2.heap.size < wr.heap.size := lt_of_heap HX2.out
                         have HLA : Hid ((X2 ++ [y]).length = X2.length + 1) := by simp [Hid]
                         have hb0 : ((y.l.length : Int) == 0) = false := by simp; exact hy
                         clear HES HFS HE2
                         go_upto_region 29 with fail
                         go_region_law (refine step_row elemRec rfl rfl (S := fun k => w2.heap.size < k ∧ (k < w4.heap.size ∨ w5.heap.size ≤ k)) (v := .slice ra2 X2.length rc2) (n := X2.length) (xs := X2.map SL.v) rfl ((HR2'.out.frame (fun k _ hk => Below.heap_alloc _ _ _ hk)) : Row (wr.alloc _) _ _ _ _ _ _) (y := .slice (some ⟨wr.heap.size, 0, none⟩) 1 1) (m := 1) (news := [.slice ya y.l.length yc]) rfl (reads_one _ _ _) (one_of rfl) (by unfold maxLen; omega) (by omega) ?_; intro v9 w9 hr9 hc9; obtain ⟨ra9, rc9, rfl⟩ := slice_form hr9; have H9 := (hc9.block w2.heap.size (by simp; omega) (fun h => by have := h.1; omega)).trans ((Below.heap_alloc wr _ _ hlx).trans HX2.out); obtain ⟨z0, z1, z2, z3, z4, z5, z6⟩ := cells7 H9; obtain ⟨v0', v1', v2', v3', v4', v5', v6'⟩ := free7 H9)
                         all_goals
                           obtain ⟨f1, f2, f3, f4, f5⟩ := rlog_step (w := w2) (W := wr) (X := X2) (xv := .slice ya y.l.length yc) (S2 := fun k => w2.heap.size < k ∧ (k < w4.heap.size ∨ w5.heap.size ≤ k)) (B := w2.heap.size) (.cells #[.slice ya y.l.length yc] 72) HX2.out (fun k hk => hk.1) rfl hr9 ((Chg.refl _ _).drew.trans hc9 (fun n hn => .inl hn)) HB2.out
                           have hsz2 := HSZ2'.out
                           have HX9 : Hid ((w9.setCell ⟨w2.heap.size, 3, none⟩ (.slice ra9 (X2.length + 1) rc9)).heap[w2.heap.size]? = some (.cells #[.slice (some ⟨b, o, none⟩) L.length vc, .int .i64 fs, .int .i64 (lastN L), .slice ra9 (X2 ++ [y]).length rc9, .int .i64 sz, .int .i64 tn, .int .i64 0] 61 (0, 0))) := by rw [Hid, HLA.out]; exact f1
                           have HR9 : Hid (Row (w9.setCell ⟨w2.heap.size, 3, none⟩ (.slice ra9 (X2.length + 1) rc9)) 72 1 (.slice ra9 (X2 ++ [y]).length rc9) (X2 ++ [y]).length ((X2 ++ [y]).map SL.v) (fun k => w2.heap.size < k ∧ (k < w4.heap.size ∨ w5.heap.size ≤ k))) := by
                             rw [Hid, HLA.out, List.map_append, List.map_cons, List.map_nil, HYV.out]
                             exact f2.mono (fun k hk => by rcases hk with h | h; exact h; exact ⟨by omega, .inr (by omega)⟩)
                           have HXX9 : Hid (∀ x ∈ X2 ++ [y], (∃ a c, x.v = .slice a x.l.length c) ∧ RdR R x) := fun x hx => by
                             rcases List.mem_append.1 hx with hx | hx
                             · exact HXX2.out x hx
                             · rw [List.mem_singleton] at hx
                               rw [hx]; exact HXX5.out y HYM.out
                           have HRW9 : Hid (Row (w9.setCell ⟨w2.heap.size, 3, none⟩ (.slice ra9 (X2.length + 1) rc9)) 72 1 (.slice (some ⟨b7, o7, none⟩) X5.length c5) X5.length (X5.map SL.v) (fun k => w4.heap.size ≤ k ∧ k < w5.heap.size)) := HRW2.out.frame (fun k hk hlt => f3 k hlt (by have := hk.1; have := HW25.out.1; omega) (fun h => by have := h.2; have := hk.1; have := hk.2; omega))
                           have HB9 := Lib.hid f4
                           have HSZ9 : Hid (w5.heap.size ≤ (w9.setCell ⟨w2.heap.size, 3, none⟩ (.slice ra9 (X2.length + 1) rc9)).heap.size) := Nat.le_trans hsz2 f5
                           clear f1 f2 f3 f4 f5 hr9 hc9 HX2 HR2' HXX2 HRW2 HB2 hxa3 H9
                           clear z0 z1 z2 z3 z4 z5 z6 v0' v1' v2' v3' v4' v5' v6' x0 x1 x2 x3 x4 x5 x6 hcj
                           go_wp2_with fail
                           go_roundw
                           case rel => exact ⟨j + 1, X2 ++ [y], ra9, rc9, by omega, by go_num, by rw [HLA.out]; omega, HX9, HR9, HXX9, HFS2, HRW9, HK2, HB9, HSZ9⟩
                           case measure => simp [RowKit.intOf] <;> omega
                     · obtain rfl : j = X5.length := by omega
                       have HTK : Hid (XL.take X5.length = XL) := by rw [Hid, ← HLX.out]; exact List.take_length
                       have HX9 : Hid (((wr.setCell ⟨w2.heap.size, 4, none⟩ (.int .i64 s7)).setCell ⟨w2.heap.size, 5, none⟩ (.int .i64 t7)).heap[w2.heap.size]? = some (.cells #[.slice (some ⟨b, o, none⟩) L.length vc, .int .i64 fs, .int .i64 (lastN L), .slice ra2 X2.length rc2, .int .i64 s7, .int .i64 t7, .int .i64 0] 61 (0, 0))) := heap_store (heap_store HX2.out 4 (.int .i64 s7)) 5 (.int .i64 t7)
                       have HKP : Hid (∀ k, k ≠ w2.heap.size → ((wr.setCell ⟨w2.heap.size, 4, none⟩ (.int .i64 s7)).setCell ⟨w2.heap.size, 5, none⟩ (.int .i64 t7)).heap[k]? = wr.heap[k]?) := fun k hk => (Below.heap_setCell _ ⟨w2.heap.size, 5, none⟩ _ _ hk).trans (Below.heap_setCell _ ⟨w2.heap.size, 4, none⟩ _ _ hk)
                       have HB9 : Hid (Below w2.heap.size w2 ((wr.setCell ⟨w2.heap.size, 4, none⟩ (.int .i64 s7)).setCell ⟨w2.heap.size, 5, none⟩ (.int .i64 t7))) := (HB2.out.setCell (p := ⟨w2.heap.size, 4, none⟩) (Nat.le_refl _) _).setCell (p := ⟨w2.heap.size, 5, none⟩) (Nat.le_refl _) _
                       have HR9 : Hid (Row ((wr.setCell ⟨w2.heap.size, 4, none⟩ (.int .i64 s7)).setCell ⟨w2.heap.size, 5, none⟩ (.int .i64 t7)) 72 1 (.slice ra2 X2.length rc2) X2.length (X2.map SL.v) (fun k => w2.heap.size < k)) := (HR2'.out.frame (fun k hk _ => HKP.out k (by have := hk.1; omega))).mono (fun k hk => hk.1)
                       have HRE9 : Hid (X2.map SL.l = recsG (contD D) (M.take (i + 1 - K))) := by rw [Hid, HQS.out, HRS.out, HE2.out, HTK.out, HRE.out]
                       have HST9 : Hid (chainUp M (i + 1 - K) = true ∧ restUp (contD D) M (i + 1 - K) = true ∧ (K < i + 1 → s7 = (splitB (contD D (M.getD (i + 1 - K - 1) 0))).2 ∧ t7 = (contD D (M.getD (i + 1 - K - 1) 0)).length - (splitB (contD D (M.getD (i + 1 - K - 1) 0))).2)) := by
                         rw [Hid, HSI.out, HQS.out, HCH.out, HRU.out, HGOOD.out, HLX.out, HEM.out, HST2.out.1, HST2.out.2.1, HCA.out, ← HLE.out]
                         exact ⟨rfl, rfl, fun _ => ⟨HS7.out, by rw [← HS7.out]; exact HT7.out⟩⟩
                       obtain ⟨y0', y1', y2', y3', y4', y5', y6'⟩ := free7 HX2.out
                       have hsub := HSUB.out
                       go_wp2_with fail
                       go_roundw
                       case rel => exact ⟨i + 1, X2, ra2, rc2, s7, t7, by omega, by go_num, by omega, HX9, HR9, HXX2, HRE9, HB9, HST9⟩
                       case measure => simp [RowKit.intOf] <;> omega
           · obtain rfl : i = L.length := by omega
             have hLK : L.length - K = M.length := HML.out.symm
             rw [hLK, List.take_length] at HRE
             obtain ⟨hs1, hs2, hs3⟩ := HST.out
             rw [hLK] at hs1 hs2 hs3
             obtain ⟨hs4, hs5⟩ := hs3 hK2
             have hla : M.getD (M.length - 1) 0 = lastN L := by
               have h1 := (HMI.out (M.length - 1) (by omega)).1
               have e := HM.out
               have e2 : K + (M.length - 1) = m := by omega
               simp only [e2] at h1
               rw [h1, lastN_get e]
             rw [hla] at hs4 hs5
             have hsp := splitB_le (contD D (lastN L))
             have hf : f = ⟨0, L.take K, lastN L, recsG (contD D) M, (contD D (lastN L)).take (splitB (contD D (lastN L))).2, (contD D (lastN L)).length - (splitB (contD D (lastN L))).2⟩ := by
               rw [HFG.out, hs1, hs2]; rfl
             have HFF := Lib.hid hf
             have HS4 := Lib.hid hs4
             have HS5 := Lib.hid hs5
             have HSP := Lib.hid hsp
             obtain ⟨x0, x1, x2, x3, x4, x5, x6⟩ := cells7 HX.out
             obtain ⟨z0, z1, z2, z3, z4, z5, z6⟩ := cells7 HZR.out
             obtain ⟨y0, y1, y2, y3, y4, y5, y6⟩ := free7 HZR.out
             clear hs1 hs2 hs3 hs4 hs5 hf hla hLK hsp
             go_wp2
             have hs2 := HSZ2.out
             refine rfind_end (L := L) (X := X) HZR.out HBWR.out ((HR2.out.tight.frame (fun k hk _ => HB.out.block k hk.2)).mono (fun k hk => hk.1)) (HRW.out.mono (fun k hk => by omega)) HRX.out ?_ ?_ ?_ (by omega) rfl rfl ?_ ?_ ?_ ?_ rfl
             · rw [HFF.out]; exact HRE.out
             · rw [HFF.out]; exact HSE.out
             · rw [HFF.out]; exact HOLD.out
             · rw [HFF.out]
             · rw [HFF.out, HS4.out]; show _ = (((List.take _ _).length : Nat) : Int); rw [List.length_take, Nat.min_eq_left HSP.out]
             · rw [HFF.out, HS5.out]
             · rw [HFF.out]
end Go.Proofs.YtgdmdbdljmlkkaaGreatDoor
