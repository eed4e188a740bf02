/- DSync, DRemove -/
import Derived.Test.YtgdmdbdljmlkkaaGreatDoorTz06
set_option maxRecDepth 100000
set_option linter.unusedVariables false
set_option linter.unusedSimpArgs false
namespace Go.Proofs.YtgdmdbdljmlkkaaGreatDoor
open Go.RowKit
theorem DAt.mono {w : World} {D : DS} {S T : Nat → Prop} {bx bm : Nat} {col : Nat → Option ByteArray} {pv : ByteArray → Nat} (h : DAt w D S bx bm col pv) (hS : ∀ k, S k → T k) : DAt w D T bx bm col pv where
 blk := h.blk
 mp := h.mp
 fl := fun f hf => (h.fl f hf).mono (fun k hk _ => ⟨hS k hk.1, hk.2⟩)
 nd := h.nd
 sx := ⟨hS _ h.sx.1, hS _ h.sx.2⟩
 cx := h.cx
 ne := h.ne
theorem DAt.tight {w : World} {D : DS} {S : Nat → Prop} {bx bm : Nat} {col : Nat → Option ByteArray} {pv : ByteArray → Nat} (h : DAt w D S bx bm col pv) : DAt w D (fun k => S k ∧ k < w.heap.size) bx bm col pv where
 blk := h.blk
 mp := h.mp
 fl := fun f hf => (h.fl f hf).mono (fun k hk hl => ⟨⟨hk.1, hl⟩, hk.2⟩)
 nd := h.nd
 sx := ⟨⟨h.sx.1, lt_of_heap h.blk⟩, ⟨h.sx.2, h.mp.lt⟩⟩
 cx := h.cx
 ne := h.ne
theorem MapFn.notCells {w : World} {κ : Type} [DecidableEq κ] {enc : κ → Value} {b k : Nat} {F : κ → Option Value} (h : MapFn w enc b F) {cs : Array Value} {t : TypeId} {fr : Nat × Nat} (hk : w.heap[k]? = some (.cells cs t fr)) : k ≠ b := by
 rintro rfl
 obtain ⟨es, clock, l, hb, -⟩ := h
 rw [hk] at hb; cases hb
def DPost (w : World) (x : Value) (S : Nat → Prop) (r : DS × Int) : Ending → World → Prop := fun e w' =>
 e = .returned (.int .i64 r.2) ∧ DRep w' x r.1 (fun k => S k ∨ w.heap.size ≤ k) ∧ Chg S w w'
def createD (D : DS) (n : ByteArray) : DS × Int :=
 match beginD D [n] true with
 | (D1, some c) => (D1, c)
 | (D1, none) => ({ D1 with files := ⟨n, [], 0⟩ :: D1.files }, 0)
set_option maxHeartbeats 1000000 in
theorem create1_any (D : DS) (n : ByteArray) (S : Nat → Prop) (bx bm : Nat) (col : Nat → Option ByteArray) (pv : ByteArray → Nat) (w : World) (h : DAt w D S bx bm col pv) (hn : findD D.files n = none) (P : Value) (b0 b1 : Nat)
   (h0 : w.heap[b0]? = some (.cells #[.pointer (some ⟨bx, 0, none⟩)] 26 (0, 0))) (h1 : w.heap[b1]? = some (.cells #[.string n] 9 (0, 0))) :
   Calls Tryz.prog 93 #[P, .pointer (some ⟨b0, 0, none⟩), .pointer (some ⟨b1, 0, none⟩)] w fun e w' => e = .returned (.int .i64 0) ∧ DRep w' (.pointer (some ⟨bx, 0, none⟩)) { D with files := ⟨n, [], 0⟩ :: D.files } (fun k => S k ∨ w.heap.size ≤ k) ∧ Chg (fun k => k = bm) w w' := by
 have hc0 := cellAt h0 0 rfl
 have hc1 := cellAt h1 0 rfl
 have hx1 := cellAt h.blk 1 (v := .map (some bm)) rfl
 have HA : Hid (Below w.heap.size w ((w.alloc (.cells #[.slice none 0 0, .int .i64 0] 118)).drew)) := ((Below.refl _ _).alloc (Nat.le_refl _) _).drew
 have hd0 := (HA.out.cell (p := ⟨b0, 0, none⟩) (lt_of_heap h0)).trans hc0
 have hd1 := (HA.out.cell (p := ⟨b1, 0, none⟩) (lt_of_heap h1)).trans hc1
 have hdx := (HA.out.cell (p := ⟨bx, 1, none⟩) (lt_of_heap h.blk)).trans hx1
 have HAT := Lib.hid (h.frame (fun k _ hk => HA.out.block k hk))
 have HFR : Hid (FRep ((w.alloc (.cells #[.slice none 0 0, .int .i64 0] 118)).drew) w.heap.size [] 0 (fun k => w.heap.size ≤ k)) :=
   ⟨none, 0, fun _ => False, heap_alloc_new w _, Row.nil _ _ _ _, Nat.le_refl _, fun h => h, fun _ h => h.elim, Nat.le_refl _, Nat.zero_le _⟩
 obtain ⟨w2, hup, hm2, hch2, hsz2⟩ := run_update_fn keyS Tryz.underlying113 HAT.out.mp n (.pointer (some ⟨w.heap.size, 0, none⟩))
 have hbm := h.mp.lt
 have HFin := Lib.hid (h.tight.add hn HA.out (Nat.le_refl _) HFR.out hm2 hch2)
 have HCH := Lib.hid (((Chg.ofBelow (S := fun k => k = bm) HA.out)).trans hch2 (fun k hk => .inl hk))
 have he0 := cellAt (hch2.heap ((HA.out.block _ (lt_of_heap h0)).trans h0) (h.mp.notCells h0)) 0 rfl
 have he1 := cellAt (hch2.heap ((HA.out.block _ (lt_of_heap h1)).trans h1) (h.mp.notCells h1)) 0 rfl
 have hex := cellAt (hch2.heap ((HA.out.block _ (lt_of_heap h.blk)).trans h.blk) h.ne) 1 (v := .map (some bm)) rfl
 clear hm2 hch2 HAT HFR hsz2 h0 h1
 go_enter Tryz.func93, Tryz.ntmps93
 go_wp2_with fail
 go_region_held3 (fun w' => w'.cell? ⟨b0, 0, none⟩ = some (.pointer (some ⟨bx, 0, none⟩)) ∧ w'.cell? ⟨b1, 0, none⟩ = some (.string n) ∧ w'.cell? ⟨bx, 1, none⟩ = some (.map (some bm))) (first | exact ⟨hc0, hc1, hx1⟩ | exact ⟨hd0, hd1, hdx⟩ | exact ⟨he0, he1, hex⟩) (fail)
 all_goals
   go_wp2
   go_ret
   refine ⟨rfl, ⟨bx, bm, _, _, rfl, HFin.out.mono (fun k hk => hk.imp_left (fun h => h.1))⟩, HCH.out⟩
theorem beginD_none {D D1 : DS} {n : ByteArray} {rest : List ByteArray} {fresh : Bool} (h : beginD D (n :: rest) fresh = (D1, none)) : D1 = { D with plan := max (D.plan - 1) 0 } ∧ (findD D.files n).isSome = !fresh ∧ (n :: rest).all namedB = true := by
 unfold beginD at h
 split at h
 · cases h
 · split at h
   · cases h
   · have h1 := congrArg Prod.fst h
     have h2 := congrArg Prod.snd h
     simp only [List.headD_cons] at h1 h2
     refine ⟨h1.symm, ?_, ?_⟩
     · split at h2
       · cases hf : findD D.files n with
         | none => rw [hf] at h2; cases fresh with
           | true => rfl
           | false => cases h2
         | some f => rw [hf] at h2; cases fresh with
           | true => cases h2
           | false => rfl
       · cases h2
     · split at h2
       · assumption
       · cases h2
theorem DRep.mono {w : World} {x : Value} {D : DS} {S T : Nat → Prop} (h : DRep w x D S) (hS : ∀ k, S k → T k) : DRep w x D T := by
 obtain ⟨bx, bm, col, pv, h1, h2⟩ := h
 exact ⟨bx, bm, col, pv, h1, h2.mono hS⟩
set_option maxHeartbeats 1000000 in
theorem create_any (x : Value) (n : ByteArray) (D : DS) (S : Nat → Prop) (w : World) (h : DRep w x D S) (hp : 0 ≤ D.plan ∧ D.plan ≤ 9223372036854775807) :
   Calls Tryz.prog 34 #[x, .string n] w (DPost w x S (createD D n)) := by
 obtain ⟨bx, bm, col, pv, rfl, h⟩ := h
 have H := Lib.hid h
 have hmf : ∀ fn first cap w, (Instr.makeFunc fn first cap).run Tryz.prog w = .ok (.func fn first cap) w := fun _ _ _ _ => rfl
 have hbx := lt_of_heap h.blk
 have hbm := h.mp.lt
 clear h
 have HB : Hid (Below w.heap.size w (((w.alloc (.cells #[.pointer (some ⟨bx, 0, none⟩)] 26)).alloc (.cells #[.string n] 9)).alloc (.cells #[.string n] 9))) := (((Below.refl _ _).alloc (Nat.le_refl _) _).alloc (by simp) _).alloc (by simp; omega) _
 have H0 : Hid ((((w.alloc (.cells #[.pointer (some ⟨bx, 0, none⟩)] 26)).alloc (.cells #[.string n] 9)).alloc (.cells #[.string n] 9)).heap[w.heap.size]? = some (.cells #[.pointer (some ⟨bx, 0, none⟩)] 26 (0, 0))) := by
   rw [Hid, Below.heap_alloc _ _ _ (by simp; omega), Below.heap_alloc _ _ _ (by simp)]; exact heap_alloc_new w _
 have H1 : Hid ((((w.alloc (.cells #[.pointer (some ⟨bx, 0, none⟩)] 26)).alloc (.cells #[.string n] 9)).alloc (.cells #[.string n] 9)).heap[w.heap.size + 1]? = some (.cells #[.string n] 9 (0, 0))) := by
   rw [Hid, Below.heap_alloc _ _ _ (by simp)]
   have := heap_alloc_new (w.alloc (.cells #[.pointer (some ⟨bx, 0, none⟩)] 26)) (.cells #[.string n] 9)
   rwa [World.size_alloc] at this
 have H2 : Hid ((((w.alloc (.cells #[.pointer (some ⟨bx, 0, none⟩)] 26)).alloc (.cells #[.string n] 9)).alloc (.cells #[.string n] 9)).heap[w.heap.size + 1 + 1]? = some (.cells #[.string n] 9 (0, 0))) := by
   have := heap_alloc_new ((w.alloc (.cells #[.pointer (some ⟨bx, 0, none⟩)] 26)).alloc (.cells #[.string n] 9)) (.cells #[.string n] 9)
   rwa [World.size_alloc, World.size_alloc] at this
 go_enter Tryz.func34, Tryz.ntmps34
 go_wp2_with fail
 generalize (((w.alloc (.cells #[.pointer (some ⟨bx, 0, none⟩)] 26)).alloc (.cells #[.string n] 9)).alloc (.cells #[.string n] 9)) = w3 at *
 have HBS := Lib.hid (Chg.ofBelow (S := S) HB.out)
 have HRUN : Hid (Calls Tryz.prog 92 #[.pointer (some ⟨bx, 0, none⟩), .agg #[.slice (some ⟨w.heap.size + 1 + 1, 0, none⟩) 1 1, .bool true, .func (.func 93) #[] #[.pointer (some ⟨w.heap.size, 0, none⟩), .pointer (some ⟨w.heap.size + 1, 0, none⟩)]]] w3 (DPost w (.pointer (some ⟨bx, 0, none⟩)) S (createD D n))) := by
   have hsz := HB.out.size
   refine run_any 93 #[.pointer (some ⟨w.heap.size, 0, none⟩), .pointer (some ⟨w.heap.size + 1, 0, none⟩)] (enters_of Tryz.func93 (by kernel_rfl) rfl) D S bx bm col pv w3 (H.out.frame (fun k _ hk => HB.out.block k hk)) hp (some ⟨w.heap.size + 1 + 1, 0, none⟩) 1 n [] (Reads.block H2.out 1 1 rfl) (by simp) (fun ad had => by cases had; show w.heap.size + 1 + 1 ≠ bx; omega) true _ ?_ ?_
   · intro D1 code hbe w' hd hch
     refine ⟨by unfold createD; rw [hbe], ?_, HBS.out.trans (hch.mono (T := S) (fun k hk => by rw [hk]; exact H.out.sx.1)) (fun k hk => .inl hk)⟩
     unfold createD
     rw [hbe]
     exact ⟨bx, bm, col, pv, rfl, hd.mono (fun k hk => .inl hk)⟩
   · intro D1 hbe w' hd hch
     obtain ⟨hD1, hf1, -⟩ := beginD_none hbe
     have hf : findD D1.files n = none := by rw [hD1]; simpa using hf1
     have k0 := hch.heap H0.out (by omega)
     have k1 := hch.heap H1.out (by omega)
     refine (create1_any D1 n S bx bm col pv w' hd hf _ w.heap.size (w.heap.size + 1) k0 k1).mono ?_
     rintro e w2 ⟨rfl, hrep, hch2⟩
     refine ⟨0, rfl, by unfold createD; rw [hbe], ?_, (HBS.out.trans (hch.mono (T := S) (fun k hk => by rw [hk]; exact H.out.sx.1)) (fun k hk => .inl hk)).trans (hch2.mono (T := S) (fun k hk => by rw [hk]; exact H.out.sx.2)) (fun k hk => .inl hk)⟩
     unfold createD
     rw [hbe]
     have := hch.size
     exact hrep.mono (fun k hk => hk.imp_right (fun h => by omega))
 clear H0 H1 H2 hmf
 refine HRUN.out.mono ?_
 rintro e w4 ⟨rfl, hrep, hch⟩
 have HREP := Lib.hid hrep
 have HCH := Lib.hid hch
 clear hrep hch HRUN
 go_wp2
 go_ret
 exact ⟨rfl, HREP.out, HCH.out⟩
def syncD (D : DS) (n : ByteArray) : DS × Int :=
 match beginD D [n] false with
 | (D1, some c) => (D1, c)
 | (D1, none) => match findD D1.files n with
   | some f => ({ D1 with files := setD D1.files n f.b f.b.length }, 0)
   | none => (D1, 0)
def removeD (D : DS) (n : ByteArray) : DS × Int :=
 match beginD D [n] false with
 | (D1, some c) => (D1, c)
 | (D1, none) => ({ D1 with files := dropD D1.files n }, 0)
theorem fmap_some {l : List DF} {pv : ByteArray → Nat} {n : ByteArray} {f : DF} (h : findD l n = some f) : (fmap l pv n).getD (.pointer none) = .pointer (some ⟨pv n, 0, none⟩) := by
 unfold fmap; rw [h]; rfl
set_option maxHeartbeats 1000000 in
theorem sync1_any (D : DS) (n : ByteArray) (f : DF) (S : Nat → Prop) (bx bm : Nat) (col : Nat → Option ByteArray) (pv : ByteArray → Nat) (w : World) (h : DAt w D S bx bm col pv) (hf : findD D.files n = some f) :
   Calls Tryz.prog 127 #[.pointer (some ⟨pv n, 0, none⟩)] w fun e w' => e = .returned (.int .i64 0) ∧ DRep w' (.pointer (some ⟨bx, 0, none⟩)) { D with files := setD D.files n f.b f.b.length } (fun k => S k ∨ w.heap.size ≤ k) ∧ Chg S w w' := by
 replace h := h.tight
 obtain ⟨hfn, hfm⟩ := findD_name hf
 have hfr := h.fl f hfm
 rw [hfn] at hfr
 obtain ⟨a, c, T, h1, h2, h3, h4, h5, h6, h7⟩ := hfr
 have hc0 := cellAt h1 0 (v := .slice a f.b.length c) rfl
 have hc1 := cellAt h1 1 (v := .int .i64 f.d) rfl
 have hf1 := freeAt h1 1
 have HS1 := Lib.hid (heap_store h1 1 (.int .i64 f.b.length))
 have HCH : Hid (Chg (fun k => (S k ∧ k < w.heap.size) ∧ col k = some n) w (w.setCell ⟨pv n, 1, none⟩ (.int .i64 f.b.length))) := (Chg.refl _ _).setCell (p := ⟨pv n, 1, none⟩) (.inl h3) _
 have HFR : Hid (FRep (w.setCell ⟨pv n, 1, none⟩ (.int .i64 f.b.length)) (pv n) f.b f.b.length (fun k => ((S k ∧ k < w.heap.size) ∧ col k = some n) ∨ w.heap.size ≤ k)) :=
   ⟨a, c, T, HS1.out, h2.frame (fun k hk _ => Below.heap_setCell _ _ _ _ (fun e => h4 (by rw [← show k = pv n from e]; exact hk))), .inl h3, h4, fun k hk => .inl (h5 k hk), Nat.le_refl _, h7⟩
 have HFin := Lib.hid (h.set HCH.out HFR.out)
 clear h1 h2 h3 h4 h5 h6 h7
 go_enter Tryz.func127, Tryz.ntmps127
 go_wp2
 go_ret
 exact ⟨rfl, ⟨bx, bm, _, _, rfl, HFin.out.mono (fun k hk => hk.imp_left (fun h => h.1))⟩, HCH.out.mono (fun k hk => hk.1.1)⟩
set_option maxHeartbeats 1000000 in
theorem sync_any (x : Value) (n : ByteArray) (D : DS) (S : Nat → Prop) (w : World) (h : DRep w x D S) (hp : 0 ≤ D.plan ∧ D.plan ≤ 9223372036854775807) :
   Calls Tryz.prog 73 #[x, .string n] w (DPost w x S (syncD D n)) := by
 obtain ⟨bx, bm, col, pv, rfl, h⟩ := h
 have H := Lib.hid h
 have hbx := lt_of_heap h.blk
 clear h
 have HB : Hid (Below w.heap.size w (w.alloc (.cells #[.string n] 9))) := (Below.refl _ _).alloc (Nat.le_refl _) _
 have H2 : Hid ((w.alloc (.cells #[.string n] 9)).heap[w.heap.size]? = some (.cells #[.string n] 9 (0, 0))) := heap_alloc_new w _
 go_enter Tryz.func73, Tryz.ntmps73
 go_wp2_with fail
 generalize w.alloc (.cells #[.string n] 9) = w3 at *
 have HBS := Lib.hid (Chg.ofBelow (S := S) HB.out)
 have HRUN : Hid (Calls Tryz.prog 92 #[.pointer (some ⟨bx, 0, none⟩), .agg #[.slice (some ⟨w.heap.size, 0, none⟩) 1 1, .bool false, .func (.func 127) #[] #[]]] w3 (DPost w (.pointer (some ⟨bx, 0, none⟩)) S (syncD D n))) := by
   have hsz := HB.out.size
   refine run_any 127 #[] (enters_of Tryz.func127 (by kernel_rfl) rfl) D S bx bm col pv w3 (H.out.frame (fun k _ hk => HB.out.block k hk)) hp (some ⟨w.heap.size, 0, none⟩) 1 n [] (Reads.block H2.out 1 1 rfl) (by simp) (fun ad had => by cases had; show w.heap.size ≠ bx; omega) false _ ?_ ?_
   · intro D1 code hbe w' hd hch
     refine ⟨by unfold syncD; rw [hbe], ?_, HBS.out.trans (hch.mono (T := S) (fun k hk => by rw [hk]; exact H.out.sx.1)) (fun k hk => .inl hk)⟩
     unfold syncD
     rw [hbe]
     exact ⟨bx, bm, col, pv, rfl, hd.mono (fun k hk => .inl hk)⟩
   · intro D1 hbe w' hd hch
     obtain ⟨hD1, hf1, -⟩ := beginD_none hbe
     obtain ⟨f, hf⟩ := Option.isSome_iff_exists.1 hf1
     have hf' : findD D1.files n = some f := by rw [hD1]; exact hf
     rw [fmap_some hf]
     refine (sync1_any D1 n f S bx bm col pv w' hd hf').mono ?_
     rintro e w2 ⟨rfl, hrep, hch2⟩
     have hv : syncD D n = ({ D1 with files := setD D1.files n f.b f.b.length }, 0) := by unfold syncD; rw [hbe]; simp only; rw [hf']
     rw [hv]
     have := hch.size
     exact ⟨0, rfl, rfl, hrep.mono (fun k hk => hk.imp_right (fun h => by omega)), (HBS.out.trans (hch.mono (T := S) (fun k hk => by rw [hk]; exact H.out.sx.1)) (fun k hk => .inl hk)).trans hch2 (fun k hk => .inl hk)⟩
 clear H2
 refine HRUN.out.mono ?_
 rintro e w4 ⟨rfl, hrep, hch⟩
 have HREP := Lib.hid hrep
 have HCH := Lib.hid hch
 clear hrep hch HRUN
 go_wp2
 go_ret
 exact ⟨rfl, HREP.out, HCH.out⟩
section
variable {P : Program} {t kt e : TypeId} {κ : Type} [DecidableEq κ] {enc : κ → Value}
theorem step_del (K : KeyOk P kt κ enc) (ht : P.underlying t = some (.map kt e)) {w : World} {ops : Array Oper} {o : Oper} {a : Act} {K' : Act → World → Prop} {Q : Exit → Act → World → Prop} {E : Prop} (hg : o.guard = none) {m x : Operand} {kty : TypeId} (hop : o.op = Op.call { callee := Callee.builtin Builtin.delete, args := #[m, x], argTypes := #[t, kty] })
   {b : Nat} {F : κ → Option Value} (hm : a.eval m = .map (some b)) (h : MapFn w enc b F) {k : κ} (hx : a.eval x = enc k)
   (hK : ∀ w', MapFn w' enc b (fun y => if y = k then none else F y) → Chg (fun n => n = b) w w' → w'.heap.size = w.heap.size → K' (a.put o.dst (.tuple #[])) w') :
   if Region.wanted o (yielded ops a.tmps) = true then Oper.wp P o a w K' Q else E := by
 rw [if_pos (by simp [Region.wanted, hg])]
 obtain ⟨w', hrun, r1, r2, r3⟩ := run_delete_fn (ty := o.type) (kty := kty) K ht h k
 unfold Oper.wp
 simp [execOp, hop, resolve, invoke, builtin, hm, hx, hrun, Result.andThen]
 exact hK w' r1 r2 r3
end
def renameD (D : DS) (n m : ByteArray) : DS × Int :=
 match beginD D [n, m] false with
 | (D1, some c) => (D1, c)
 | (D1, none) => match findD D1.files n with
   | some f => ({ D1 with files := ⟨m, f.b, f.d⟩ :: dropD (dropD D1.files n) m }, 0)
   | none => (D1, 0)
set_option maxHeartbeats 1000000 in
theorem remove1_any (D : DS) (n : ByteArray) (S : Nat → Prop) (bx bm : Nat) (col : Nat → Option ByteArray) (pv : ByteArray → Nat) (w : World) (h : DAt w D S bx bm col pv) (P : Value) (b0 b1 : Nat)
   (h0 : w.heap[b0]? = some (.cells #[.pointer (some ⟨bx, 0, none⟩)] 26 (0, 0))) (h1 : w.heap[b1]? = some (.cells #[.string n] 9 (0, 0))) :
   Calls Tryz.prog 166 #[P, .pointer (some ⟨b0, 0, none⟩), .pointer (some ⟨b1, 0, none⟩)] w fun e w' => e = .returned (.int .i64 0) ∧ DRep w' (.pointer (some ⟨bx, 0, none⟩)) { D with files := dropD D.files n } S ∧ Chg S w w' := by
 have hc0 := cellAt h0 0 rfl
 have hc1 := cellAt h1 0 rfl
 have hx1 := cellAt h.blk 1 (v := .map (some bm)) rfl
 have H := Lib.hid h
 have HMP : Hid (MapFn w.drew Value.string bm (fmap D.files pv)) := h.mp
 clear h h0 h1
 go_enter Tryz.func166, Tryz.ntmps166
 go_wp2_with fail
 go_region_law
   (refine step_del keyS Tryz.underlying113 rfl rfl (b := bm) rfl HMP.out (k := n) rfl ?_
    intro w5 hm5 hch5 hsz5
    have HM5 := Lib.hid hm5
    have HCH5 : Hid (Chg (fun k => k = bm) w w5) := ((Chg.refl _ _).drew).trans hch5 (fun k hk => .inl hk)
    clear hm5 hch5 hsz5)
 all_goals
   go_wp2
   go_ret
   exact ⟨rfl, ⟨bx, bm, _, _, rfl, H.out.del HM5.out HCH5.out⟩, HCH5.out.mono (fun k hk => by rw [hk]; exact H.out.sx.2)⟩
set_option maxHeartbeats 1000000 in
theorem rename1_any (D : DS) (n m : ByteArray) (f : DF) (S : Nat → Prop) (bx bm : Nat) (col : Nat → Option ByteArray) (pv : ByteArray → Nat) (w : World) (h : DAt w D S bx bm col pv) (hf : findD D.files n = some f) (b0 b1 b2 : Nat)
   (h0 : w.heap[b0]? = some (.cells #[.pointer (some ⟨bx, 0, none⟩)] 26 (0, 0))) (h1 : w.heap[b1]? = some (.cells #[.string n] 9 (0, 0))) (h2 : w.heap[b2]? = some (.cells #[.string m] 9 (0, 0))) :
   Calls Tryz.prog 131 #[.pointer (some ⟨pv n, 0, none⟩), .pointer (some ⟨b0, 0, none⟩), .pointer (some ⟨b1, 0, none⟩), .pointer (some ⟨b2, 0, none⟩)] w fun e w' => e = .returned (.int .i64 0) ∧ DRep w' (.pointer (some ⟨bx, 0, none⟩)) { D with files := ⟨m, f.b, f.d⟩ :: dropD (dropD D.files n) m } S ∧ Chg S w w' := by
 have hc0 := cellAt h0 0 rfl
 have hc1 := cellAt h1 0 rfl
 have hc2 := cellAt h2 0 rfl
 have hx1 := cellAt h.blk 1 (v := .map (some bm)) rfl
 have H := Lib.hid h
 have HMP : Hid (MapFn w.drew Value.string bm (fmap D.files pv)) := h.mp
 have HN : Hid (b0 ≠ bm ∧ b1 ≠ bm ∧ b2 ≠ bm ∧ bx ≠ bm) := ⟨h.mp.notCells h0, h.mp.notCells h1, h.mp.notCells h2, h.ne⟩
 have H0 := Lib.hid h0
 have H2 := Lib.hid h2
 clear h h0 h1 h2
 go_enter Tryz.func131, Tryz.ntmps131
 go_wp2_with fail
 go_region_law
   (refine step_del keyS Tryz.underlying113 rfl rfl (b := bm) rfl HMP.out (k := n) rfl ?_
    intro w5 hm5 hch5 hsz5
    have HM5 := Lib.hid hm5
    have HCH5 : Hid (Chg (fun k => k = bm) w w5) := ((Chg.refl _ _).drew).trans hch5 (fun k hk => .inl hk)
    clear hm5 hch5 hsz5)
 all_goals
   clear hc0 hc1 hc2 hx1
   have K0 := Lib.hid (HCH5.out.heap H0.out HN.out.1)
   have K2 := Lib.hid (HCH5.out.heap H2.out HN.out.2.2.1)
   have KX := Lib.hid (HCH5.out.heap H.out.blk HN.out.2.2.2)
   have hc0 := cellAt K0.out 0 rfl
   have hc2 := cellAt K2.out 0 rfl
   have hx1 := cellAt KX.out 1 (v := .map (some bm)) rfl
   obtain ⟨w6, hup, hm6, hch6, hsz6⟩ := run_update_fn keyS Tryz.underlying113 (show MapFn w5.drew _ _ _ from HM5.out) m (.pointer (some ⟨pv n, 0, none⟩))
   have HM6 := Lib.hid hm6
   have HCH6 : Hid (Chg (fun k => k = bm) w w6) := (HCH5.out.drew).trans hch6 (fun k hk => .inl hk)
   have he0 := cellAt (hch6.heap K0.out HN.out.1) 0 rfl
   have he2 := cellAt (hch6.heap K2.out HN.out.2.2.1) 0 rfl
   have hex := cellAt (hch6.heap KX.out HN.out.2.2.2) 1 (v := .map (some bm)) rfl
   clear hm6 hch6 hsz6
   go_wp2_with fail
   go_region_held3 (fun w' => w'.cell? ⟨b0, 0, none⟩ = some (.pointer (some ⟨bx, 0, none⟩)) ∧ w'.cell? ⟨b2, 0, none⟩ = some (.string m) ∧ w'.cell? ⟨bx, 1, none⟩ = some (.map (some bm))) (first | exact ⟨hc0, hc2, hx1⟩ | exact ⟨he0, he2, hex⟩) (fail)
   all_goals
     go_wp2
     go_ret
     exact ⟨rfl, ⟨bx, bm, _, _, rfl, H.out.ren hf HM6.out HCH6.out⟩, HCH6.out.mono (fun k hk => by rw [hk]; exact H.out.sx.2)⟩
set_option maxHeartbeats 1000000 in
theorem remove_any (x : Value) (n : ByteArray) (D : DS) (S : Nat → Prop) (w : World) (h : DRep w x D S) (hp : 0 ≤ D.plan ∧ D.plan ≤ 9223372036854775807) :
   Calls Tryz.prog 132 #[x, .string n] w (DPost w x S (removeD D n)) := by
 obtain ⟨bx, bm, col, pv, rfl, h⟩ := h
 have H := Lib.hid h
 have hmf : ∀ fn first cap w, (Instr.makeFunc fn first cap).run Tryz.prog w = .ok (.func fn first cap) w := fun _ _ _ _ => rfl
 have hbx := lt_of_heap h.blk
 have hbm := h.mp.lt
 clear h
 have HB : Hid (Below w.heap.size w (((w.alloc (.cells #[.pointer (some ⟨bx, 0, none⟩)] 26)).alloc (.cells #[.string n] 9)).alloc (.cells #[.string n] 9))) := (((Below.refl _ _).alloc (Nat.le_refl _) _).alloc (by simp) _).alloc (by simp; omega) _
 have H0 : Hid ((((w.alloc (.cells #[.pointer (some ⟨bx, 0, none⟩)] 26)).alloc (.cells #[.string n] 9)).alloc (.cells #[.string n] 9)).heap[w.heap.size]? = some (.cells #[.pointer (some ⟨bx, 0, none⟩)] 26 (0, 0))) := by
   rw [Hid, Below.heap_alloc _ _ _ (by simp; omega), Below.heap_alloc _ _ _ (by simp)]; exact heap_alloc_new w _
 have H1 : Hid ((((w.alloc (.cells #[.pointer (some ⟨bx, 0, none⟩)] 26)).alloc (.cells #[.string n] 9)).alloc (.cells #[.string n] 9)).heap[w.heap.size + 1]? = some (.cells #[.string n] 9 (0, 0))) := by
   rw [Hid, Below.heap_alloc _ _ _ (by simp)]
   have := heap_alloc_new (w.alloc (.cells #[.pointer (some ⟨bx, 0, none⟩)] 26)) (.cells #[.string n] 9)
   rwa [World.size_alloc] at this
 have H2 : Hid ((((w.alloc (.cells #[.pointer (some ⟨bx, 0, none⟩)] 26)).alloc (.cells #[.string n] 9)).alloc (.cells #[.string n] 9)).heap[w.heap.size + 1 + 1]? = some (.cells #[.string n] 9 (0, 0))) := by
   have := heap_alloc_new ((w.alloc (.cells #[.pointer (some ⟨bx, 0, none⟩)] 26)).alloc (.cells #[.string n] 9)) (.cells #[.string n] 9)
   rwa [World.size_alloc, World.size_alloc] at this
 go_enter Tryz.func132, Tryz.ntmps132
 go_wp2_with fail
 generalize (((w.alloc (.cells #[.pointer (some ⟨bx, 0, none⟩)] 26)).alloc (.cells #[.string n] 9)).alloc (.cells #[.string n] 9)) = w3 at *
 have HBS := Lib.hid (Chg.ofBelow (S := S) HB.out)
 have HRUN : Hid (Calls Tryz.prog 92 #[.pointer (some ⟨bx, 0, none⟩), .agg #[.slice (some ⟨w.heap.size + 1 + 1, 0, none⟩) 1 1, .bool false, .func (.func 166) #[] #[.pointer (some ⟨w.heap.size, 0, none⟩), .pointer (some ⟨w.heap.size + 1, 0, none⟩)]]] w3 (DPost w (.pointer (some ⟨bx, 0, none⟩)) S (removeD D n))) := by
   have hsz := HB.out.size
   refine run_any 166 #[.pointer (some ⟨w.heap.size, 0, none⟩), .pointer (some ⟨w.heap.size + 1, 0, none⟩)] (enters_of Tryz.func166 (by kernel_rfl) rfl) D S bx bm col pv w3 (H.out.frame (fun k _ hk => HB.out.block k hk)) hp (some ⟨w.heap.size + 1 + 1, 0, none⟩) 1 n [] (Reads.block H2.out 1 1 rfl) (by simp) (fun ad had => by cases had; show w.heap.size + 1 + 1 ≠ bx; omega) false _ ?_ ?_
   · intro D1 code hbe w' hd hch
     refine ⟨by unfold removeD; rw [hbe], ?_, HBS.out.trans (hch.mono (T := S) (fun k hk => by rw [hk]; exact H.out.sx.1)) (fun k hk => .inl hk)⟩
     unfold removeD
     rw [hbe]
     exact ⟨bx, bm, col, pv, rfl, hd.mono (fun k hk => .inl hk)⟩
   · intro D1 hbe w' hd hch
     obtain ⟨hD1, hf1, -⟩ := beginD_none hbe
     have k0 := hch.heap H0.out (by omega)
     have k1 := hch.heap H1.out (by omega)
     refine (remove1_any D1 n S bx bm col pv w' hd _ w.heap.size (w.heap.size + 1) k0 k1).mono ?_
     rintro e w2 ⟨rfl, hrep, hch2⟩
     refine ⟨0, rfl, by unfold removeD; rw [hbe], ?_, (HBS.out.trans (hch.mono (T := S) (fun k hk => by rw [hk]; exact H.out.sx.1)) (fun k hk => .inl hk)).trans hch2 (fun k hk => .inl hk)⟩
     unfold removeD
     rw [hbe]
     have := hch.size
     exact hrep.mono (fun k hk => .inl hk)
 clear H0 H1 H2 hmf
 refine HRUN.out.mono ?_
 rintro e w4 ⟨rfl, hrep, hch⟩
 have HREP := Lib.hid hrep
 have HCH := Lib.hid hch
 clear hrep hch HRUN
 go_wp2
 go_ret
 exact ⟨rfl, HREP.out, HCH.out⟩
set_option maxHeartbeats 1000000 in
theorem rename_any (x : Value) (n m : ByteArray) (D : DS) (S : Nat → Prop) (w : World) (h : DRep w x D S) (hp : 0 ≤ D.plan ∧ D.plan ≤ 9223372036854775807) :
   Calls Tryz.prog 81 #[x, .string n, .string m] w (DPost w x S (renameD D n m)) := by
 obtain ⟨bx, bm, col, pv, rfl, h⟩ := h
 have H := Lib.hid h
 have hmf : ∀ fn first cap w, (Instr.makeFunc fn first cap).run Tryz.prog w = .ok (.func fn first cap) w := fun _ _ _ _ => rfl
 have hbx := lt_of_heap h.blk
 have hbm := h.mp.lt
 clear h
 have HB : Hid (Below w.heap.size w ((((w.alloc (.cells #[.pointer (some ⟨bx, 0, none⟩)] 26)).alloc (.cells #[.string n] 9)).alloc (.cells #[.string m] 9)).alloc (.cells #[.string n, .string m] 9))) := ((((Below.refl _ _).alloc (Nat.le_refl _) _).alloc (by simp) _).alloc (by simp <;> omega) _).alloc (by simp <;> omega) _
 have H0 : Hid (((((w.alloc (.cells #[.pointer (some ⟨bx, 0, none⟩)] 26)).alloc (.cells #[.string n] 9)).alloc (.cells #[.string m] 9)).alloc (.cells #[.string n, .string m] 9)).heap[w.heap.size]? = some (.cells #[.pointer (some ⟨bx, 0, none⟩)] 26 (0, 0))) := by
   rw [Hid, Below.heap_alloc _ _ _ (by simp <;> omega), Below.heap_alloc _ _ _ (by simp <;> omega), Below.heap_alloc _ _ _ (by simp)]; exact heap_alloc_new w _
 have H1 : Hid (((((w.alloc (.cells #[.pointer (some ⟨bx, 0, none⟩)] 26)).alloc (.cells #[.string n] 9)).alloc (.cells #[.string m] 9)).alloc (.cells #[.string n, .string m] 9)).heap[w.heap.size + 1]? = some (.cells #[.string n] 9 (0, 0))) := by
   rw [Hid, Below.heap_alloc _ _ _ (by simp <;> omega), Below.heap_alloc _ _ _ (by simp)]
   have := heap_alloc_new (w.alloc (.cells #[.pointer (some ⟨bx, 0, none⟩)] 26)) (.cells #[.string n] 9)
   rwa [World.size_alloc] at this
 have H2 : Hid (((((w.alloc (.cells #[.pointer (some ⟨bx, 0, none⟩)] 26)).alloc (.cells #[.string n] 9)).alloc (.cells #[.string m] 9)).alloc (.cells #[.string n, .string m] 9)).heap[w.heap.size + 1 + 1]? = some (.cells #[.string m] 9 (0, 0))) := by
   rw [Hid, Below.heap_alloc _ _ _ (by simp)]
   have := heap_alloc_new ((w.alloc (.cells #[.pointer (some ⟨bx, 0, none⟩)] 26)).alloc (.cells #[.string n] 9)) (.cells #[.string m] 9)
   rwa [World.size_alloc, World.size_alloc] at this
 have H3 : Hid (((((w.alloc (.cells #[.pointer (some ⟨bx, 0, none⟩)] 26)).alloc (.cells #[.string n] 9)).alloc (.cells #[.string m] 9)).alloc (.cells #[.string n, .string m] 9)).heap[w.heap.size + 1 + 1 + 1]? = some (.cells #[.string n, .string m] 9 (0, 0))) := by
   have := heap_alloc_new (((w.alloc (.cells #[.pointer (some ⟨bx, 0, none⟩)] 26)).alloc (.cells #[.string n] 9)).alloc (.cells #[.string m] 9)) (.cells #[.string n, .string m] 9)
   rwa [World.size_alloc, World.size_alloc, World.size_alloc] at this
 go_enter Tryz.func81, Tryz.ntmps81
 go_wp2_with fail
 generalize ((((w.alloc (.cells #[.pointer (some ⟨bx, 0, none⟩)] 26)).alloc (.cells #[.string n] 9)).alloc (.cells #[.string m] 9)).alloc (.cells #[.string n, .string m] 9)) = w4 at *
 have HBS := Lib.hid (Chg.ofBelow (S := S) HB.out)
 have HRUN : Hid (Calls Tryz.prog 92 #[.pointer (some ⟨bx, 0, none⟩), .agg #[.slice (some ⟨w.heap.size + 1 + 1 + 1, 0, none⟩) 2 2, .bool false, .func (.func 131) #[] #[.pointer (some ⟨w.heap.size, 0, none⟩), .pointer (some ⟨w.heap.size + 1, 0, none⟩), .pointer (some ⟨w.heap.size + 1 + 1, 0, none⟩)]]] w4 (DPost w (.pointer (some ⟨bx, 0, none⟩)) S (renameD D n m))) := by
   have hsz := HB.out.size
   refine run_any 131 #[.pointer (some ⟨w.heap.size, 0, none⟩), .pointer (some ⟨w.heap.size + 1, 0, none⟩), .pointer (some ⟨w.heap.size + 1 + 1, 0, none⟩)] (enters_of Tryz.func131 (by kernel_rfl) rfl) D S bx bm col pv w4 (H.out.frame (fun k _ hk => HB.out.block k hk)) hp (some ⟨w.heap.size + 1 + 1 + 1, 0, none⟩) 2 n [m] (Reads.block H3.out 2 1 rfl) (by simp) (fun ad had => by cases had; show w.heap.size + 1 + 1 + 1 ≠ bx; omega) false _ ?_ ?_
   · intro D1 code hbe w' hd hch
     refine ⟨by unfold renameD; rw [hbe], ?_, HBS.out.trans (hch.mono (T := S) (fun k hk => by rw [hk]; exact H.out.sx.1)) (fun k hk => .inl hk)⟩
     unfold renameD
     rw [hbe]
     exact ⟨bx, bm, col, pv, rfl, hd.mono (fun k hk => .inl hk)⟩
   · intro D1 hbe w' hd hch
     obtain ⟨hD1, hf1, -⟩ := beginD_none hbe
     obtain ⟨f, hf⟩ := Option.isSome_iff_exists.1 hf1
     have hf' : findD D1.files n = some f := by rw [hD1]; exact hf
     rw [fmap_some hf]
     have k0 := hch.heap H0.out (by omega)
     have k1 := hch.heap H1.out (by omega)
     have k2 := hch.heap H2.out (by omega)
     refine (rename1_any D1 n m f S bx bm col pv w' hd hf' w.heap.size (w.heap.size + 1) (w.heap.size + 1 + 1) k0 k1 k2).mono ?_
     rintro e w2 ⟨rfl, hrep, hch2⟩
     have hv : renameD D n m = ({ D1 with files := ⟨m, f.b, f.d⟩ :: dropD (dropD D1.files n) m }, 0) := by unfold renameD; rw [hbe]; simp only; rw [hf']
     rw [hv]
     exact ⟨0, rfl, rfl, hrep.mono (fun k hk => .inl hk), (HBS.out.trans (hch.mono (T := S) (fun k hk => by rw [hk]; exact H.out.sx.1)) (fun k hk => .inl hk)).trans hch2 (fun k hk => .inl hk)⟩
 clear H0 H1 H2 H3 hmf
 refine HRUN.out.mono ?_
 rintro e w5 ⟨rfl, hrep, hch⟩
 have HREP := Lib.hid hrep
 have HCH := Lib.hid hch
 clear hrep hch HRUN
 go_wp2
 go_ret
 exact ⟨rfl, HREP.out, HCH.out⟩
end Go.Proofs.YtgdmdbdljmlkkaaGreatDoor
