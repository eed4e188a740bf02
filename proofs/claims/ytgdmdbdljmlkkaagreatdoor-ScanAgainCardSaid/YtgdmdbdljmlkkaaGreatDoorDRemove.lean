/- (*Disk).Remove and (*Disk).Rename. -/
import Derived.Test.YtgdmdbdljmlkkaaGreatDoorDSync
namespace Go.Proofs.YtgdmdbdljmlkkaaGreatDoor
set_option linter.unusedVariables false
set_option linter.unusedSimpArgs false
open Go.RowKit

section
variable {P : Program} {t kt e : TypeId} {κ : Type} [DecidableEq κ] {enc : κ → Value}
theorem step_del (K : KeyOk P kt κ enc) (ht : P.underlying t = some (.map kt e)) {w : World} {ops : Array Oper} {o : Oper} {a : Act} {K' : Act → World → Prop} {Q : Exit → Act → World → Prop} {E : Prop} (hg : o.guard = none) {m x : Operand} {kty : TypeId} (hop : o.op = Op.call { callee := Callee.builtin Builtin.delete, args := #[m, x], argTypes := #[t, kty] })
    {b : Nat} {F : κ → Option Value} (hm : a.eval m = .map (some b)) (h : MapFn w enc b F) {k : κ} (hx : a.eval x = enc k)
    (hK : ∀ w', MapFn w' enc b (fun y => if y = k then none else F y) → Chg (fun n => n = b) w w' → w'.heap.size = w.heap.size → K' (a.put o.dst (.tuple #[])) w') :
    if Region.wanted o (yielded ops a.tmps) = true then Oper.wp P o a w K' Q else E := by
  rw [if_pos (by simp [Region.wanted, hg])]
  obtain ⟨w', hrun, r1, r2, r3⟩ := run_delete_fn (ty := o.type) (kty := kty) K ht h k
  unfold Oper.wp
  simp [execOp, hop, resolve, invoke, builtin, hm, hx, hrun, Result.andThen]
  exact hK w' r1 r2 r3
end

def renameD (D : DS) (n m : ByteArray) : DS × Int :=
  match beginD D [n, m] false with
  | (D1, some c) => (D1, c)
  | (D1, none) => match findD D1.files n with
    | some f => ({ D1 with files := ⟨m, f.b, f.d⟩ :: dropD (dropD D1.files n) m }, 0)
    | none => (D1, 0)

set_option maxRecDepth 100000 in
set_option maxHeartbeats 1000000 in
theorem remove1_any (D : DS) (n : ByteArray) (S : Nat → Prop) (bx bm : Nat) (col : Nat → Option ByteArray) (pv : ByteArray → Nat) (w : World) (h : DAt w D S bx bm col pv) (P : Value) (b0 b1 : Nat)
    (h0 : w.heap[b0]? = some (.cells #[.pointer (some ⟨bx, 0, none⟩)] 26 (0, 0))) (h1 : w.heap[b1]? = some (.cells #[.string n] 9 (0, 0))) :
    Calls Tryz.prog 166 #[P, .pointer (some ⟨b0, 0, none⟩), .pointer (some ⟨b1, 0, none⟩)] w fun e w' => e = .returned (.int .i64 0) ∧ DRep w' (.pointer (some ⟨bx, 0, none⟩)) { D with files := dropD D.files n } S ∧ Chg S w w' := by
  have hc0 := cellAt h0 0 rfl
  have hc1 := cellAt h1 0 rfl
  have hx1 := cellAt h.blk 1 (v := .map (some bm)) rfl
  have H := Lib.hid h
  have HMP : Hid (MapFn w.drew Value.string bm (fmap D.files pv)) := h.mp
  clear h h0 h1
  go_enter Tryz.func166, Tryz.ntmps166
  go_wp2_with fail
  go_region_law
    (refine step_del keyS Tryz.underlying113 rfl rfl (b := bm) rfl HMP.out (k := n) rfl ?_
     intro w5 hm5 hch5 hsz5
     have HM5 := Lib.hid hm5
     have HCH5 : Hid (Chg (fun k => k = bm) w w5) := ((Chg.refl _ _).drew).trans hch5 (fun k hk => .inl hk)
     clear hm5 hch5 hsz5)
  all_goals
    go_wp2
    go_ret
    exact ⟨rfl, ⟨bx, bm, _, _, rfl, H.out.del HM5.out HCH5.out⟩, HCH5.out.mono (fun k hk => by rw [hk]; exact H.out.sx.2)⟩

set_option maxRecDepth 100000 in
set_option maxHeartbeats 1000000 in
theorem rename1_any (D : DS) (n m : ByteArray) (f : DF) (S : Nat → Prop) (bx bm : Nat) (col : Nat → Option ByteArray) (pv : ByteArray → Nat) (w : World) (h : DAt w D S bx bm col pv) (hf : findD D.files n = some f) (b0 b1 b2 : Nat)
    (h0 : w.heap[b0]? = some (.cells #[.pointer (some ⟨bx, 0, none⟩)] 26 (0, 0))) (h1 : w.heap[b1]? = some (.cells #[.string n] 9 (0, 0))) (h2 : w.heap[b2]? = some (.cells #[.string m] 9 (0, 0))) :
    Calls Tryz.prog 131 #[.pointer (some ⟨pv n, 0, none⟩), .pointer (some ⟨b0, 0, none⟩), .pointer (some ⟨b1, 0, none⟩), .pointer (some ⟨b2, 0, none⟩)] w fun e w' => e = .returned (.int .i64 0) ∧ DRep w' (.pointer (some ⟨bx, 0, none⟩)) { D with files := ⟨m, f.b, f.d⟩ :: dropD (dropD D.files n) m } S ∧ Chg S w w' := by
  have hc0 := cellAt h0 0 rfl
  have hc1 := cellAt h1 0 rfl
  have hc2 := cellAt h2 0 rfl
  have hx1 := cellAt h.blk 1 (v := .map (some bm)) rfl
  have H := Lib.hid h
  have HMP : Hid (MapFn w.drew Value.string bm (fmap D.files pv)) := h.mp
  have HN : Hid (b0 ≠ bm ∧ b1 ≠ bm ∧ b2 ≠ bm ∧ bx ≠ bm) := ⟨h.mp.notCells h0, h.mp.notCells h1, h.mp.notCells h2, h.ne⟩
  have H0 := Lib.hid h0
  have H2 := Lib.hid h2
  clear h h0 h1 h2
  go_enter Tryz.func131, Tryz.ntmps131
  go_wp2_with fail
  go_region_law
    (refine step_del keyS Tryz.underlying113 rfl rfl (b := bm) rfl HMP.out (k := n) rfl ?_
     intro w5 hm5 hch5 hsz5
     have HM5 := Lib.hid hm5
     have HCH5 : Hid (Chg (fun k => k = bm) w w5) := ((Chg.refl _ _).drew).trans hch5 (fun k hk => .inl hk)
     clear hm5 hch5 hsz5)
  all_goals
    clear hc0 hc1 hc2 hx1
    have K0 := Lib.hid (HCH5.out.heap H0.out HN.out.1)
    have K2 := Lib.hid (HCH5.out.heap H2.out HN.out.2.2.1)
    have KX := Lib.hid (HCH5.out.heap H.out.blk HN.out.2.2.2)
    have hc0 := cellAt K0.out 0 rfl
    have hc2 := cellAt K2.out 0 rfl
    have hx1 := cellAt KX.out 1 (v := .map (some bm)) rfl
    obtain ⟨w6, hup, hm6, hch6, hsz6⟩ := run_update_fn keyS Tryz.underlying113 (show MapFn w5.drew _ _ _ from HM5.out) m (.pointer (some ⟨pv n, 0, none⟩))
    have HM6 := Lib.hid hm6
    have HCH6 : Hid (Chg (fun k => k = bm) w w6) := (HCH5.out.drew).trans hch6 (fun k hk => .inl hk)
    have he0 := cellAt (hch6.heap K0.out HN.out.1) 0 rfl
    have he2 := cellAt (hch6.heap K2.out HN.out.2.2.1) 0 rfl
    have hex := cellAt (hch6.heap KX.out HN.out.2.2.2) 1 (v := .map (some bm)) rfl
    clear hm6 hch6 hsz6
    go_wp2_with fail
    go_region_held3 (fun w' => w'.cell? ⟨b0, 0, none⟩ = some (.pointer (some ⟨bx, 0, none⟩)) ∧ w'.cell? ⟨b2, 0, none⟩ = some (.string m) ∧ w'.cell? ⟨bx, 1, none⟩ = some (.map (some bm))) (first | exact ⟨hc0, hc2, hx1⟩ | exact ⟨he0, he2, hex⟩) (fail)
    all_goals
      go_wp2
      go_ret
      exact ⟨rfl, ⟨bx, bm, _, _, rfl, H.out.ren hf HM6.out HCH6.out⟩, HCH6.out.mono (fun k hk => by rw [hk]; exact H.out.sx.2)⟩
set_option maxRecDepth 100000 in
set_option maxHeartbeats 1000000 in
theorem remove_any (x : Value) (n : ByteArray) (D : DS) (S : Nat → Prop) (w : World) (h : DRep w x D S) (hp : 0 ≤ D.plan ∧ D.plan ≤ 9223372036854775807) :
    Calls Tryz.prog 132 #[x, .string n] w (DPost w x S (removeD D n)) := by
  obtain ⟨bx, bm, col, pv, rfl, h⟩ := h
  have H := Lib.hid h
  have hmf : ∀ fn first cap w, (Instr.makeFunc fn first cap).run Tryz.prog w = .ok (.func fn first cap) w := fun _ _ _ _ => rfl
  have hbx := lt_of_heap h.blk
  have hbm := h.mp.lt
  clear h
  have HB : Hid (Below w.heap.size w (((w.alloc (.cells #[.pointer (some ⟨bx, 0, none⟩)] 26)).alloc (.cells #[.string n] 9)).alloc (.cells #[.string n] 9))) := (((Below.refl _ _).alloc (Nat.le_refl _) _).alloc (by simp) _).alloc (by simp; omega) _
  have H0 : Hid ((((w.alloc (.cells #[.pointer (some ⟨bx, 0, none⟩)] 26)).alloc (.cells #[.string n] 9)).alloc (.cells #[.string n] 9)).heap[w.heap.size]? = some (.cells #[.pointer (some ⟨bx, 0, none⟩)] 26 (0, 0))) := by
    rw [Hid, Below.heap_alloc _ _ _ (by simp; omega), Below.heap_alloc _ _ _ (by simp)]; exact heap_alloc_new w _
  have H1 : Hid ((((w.alloc (.cells #[.pointer (some ⟨bx, 0, none⟩)] 26)).alloc (.cells #[.string n] 9)).alloc (.cells #[.string n] 9)).heap[w.heap.size + 1]? = some (.cells #[.string n] 9 (0, 0))) := by
    rw [Hid, Below.heap_alloc _ _ _ (by simp)]
    have := heap_alloc_new (w.alloc (.cells #[.pointer (some ⟨bx, 0, none⟩)] 26)) (.cells #[.string n] 9)
    rwa [World.size_alloc] at this
  have H2 : Hid ((((w.alloc (.cells #[.pointer (some ⟨bx, 0, none⟩)] 26)).alloc (.cells #[.string n] 9)).alloc (.cells #[.string n] 9)).heap[w.heap.size + 1 + 1]? = some (.cells #[.string n] 9 (0, 0))) := by
    have := heap_alloc_new ((w.alloc (.cells #[.pointer (some ⟨bx, 0, none⟩)] 26)).alloc (.cells #[.string n] 9)) (.cells #[.string n] 9)
    rwa [World.size_alloc, World.size_alloc] at this
  go_enter Tryz.func132, Tryz.ntmps132
  go_wp2_with fail
  generalize (((w.alloc (.cells #[.pointer (some ⟨bx, 0, none⟩)] 26)).alloc (.cells #[.string n] 9)).alloc (.cells #[.string n] 9)) = w3 at *
  have HBS := Lib.hid (Chg.ofBelow (S := S) HB.out)
  have HRUN : Hid (Calls Tryz.prog 92 #[.pointer (some ⟨bx, 0, none⟩), .agg #[.slice (some ⟨w.heap.size + 1 + 1, 0, none⟩) 1 1, .bool false, .func (.func 166) #[] #[.pointer (some ⟨w.heap.size, 0, none⟩), .pointer (some ⟨w.heap.size + 1, 0, none⟩)]]] w3 (DPost w (.pointer (some ⟨bx, 0, none⟩)) S (removeD D n))) := by
    have hsz := HB.out.size
    refine run_any 166 #[.pointer (some ⟨w.heap.size, 0, none⟩), .pointer (some ⟨w.heap.size + 1, 0, none⟩)] (enters_of Tryz.func166 (by kernel_rfl) rfl) D S bx bm col pv w3 (H.out.frame (fun k _ hk => HB.out.block k hk)) hp (some ⟨w.heap.size + 1 + 1, 0, none⟩) 1 n [] (Reads.block H2.out 1 1 rfl) (by simp) (fun ad had => by cases had; show w.heap.size + 1 + 1 ≠ bx; omega) false _ ?_ ?_
    · intro D1 code hbe w' hd hch
      refine ⟨by unfold removeD; rw [hbe], ?_, HBS.out.trans (hch.mono (T := S) (fun k hk => by rw [hk]; exact H.out.sx.1)) (fun k hk => .inl hk)⟩
      unfold removeD
      rw [hbe]
      exact ⟨bx, bm, col, pv, rfl, hd.mono (fun k hk => .inl hk)⟩
    · intro D1 hbe w' hd hch
      obtain ⟨hD1, hf1, -⟩ := beginD_none hbe
      have k0 := hch.heap H0.out (by omega)
      have k1 := hch.heap H1.out (by omega)
      refine (remove1_any D1 n S bx bm col pv w' hd _ w.heap.size (w.heap.size + 1) k0 k1).mono ?_
      rintro e w2 ⟨rfl, hrep, hch2⟩
      refine ⟨0, rfl, by unfold removeD; rw [hbe], ?_, (HBS.out.trans (hch.mono (T := S) (fun k hk => by rw [hk]; exact H.out.sx.1)) (fun k hk => .inl hk)).trans hch2 (fun k hk => .inl hk)⟩
      unfold removeD
      rw [hbe]
      have := hch.size
      exact hrep.mono (fun k hk => .inl hk)
  clear H0 H1 H2 hmf
  refine HRUN.out.mono ?_
  rintro e w4 ⟨rfl, hrep, hch⟩
  have HREP := Lib.hid hrep
  have HCH := Lib.hid hch
  clear hrep hch HRUN
  go_wp2
  go_ret
  exact ⟨rfl, HREP.out, HCH.out⟩



set_option maxRecDepth 100000 in
set_option maxHeartbeats 1000000 in
theorem rename_any (x : Value) (n m : ByteArray) (D : DS) (S : Nat → Prop) (w : World) (h : DRep w x D S) (hp : 0 ≤ D.plan ∧ D.plan ≤ 9223372036854775807) :
    Calls Tryz.prog 81 #[x, .string n, .string m] w (DPost w x S (renameD D n m)) := by
  obtain ⟨bx, bm, col, pv, rfl, h⟩ := h
  have H := Lib.hid h
  have hmf : ∀ fn first cap w, (Instr.makeFunc fn first cap).run Tryz.prog w = .ok (.func fn first cap) w := fun _ _ _ _ => rfl
  have hbx := lt_of_heap h.blk
  have hbm := h.mp.lt
  clear h
  have HB : Hid (Below w.heap.size w ((((w.alloc (.cells #[.pointer (some ⟨bx, 0, none⟩)] 26)).alloc (.cells #[.string n] 9)).alloc (.cells #[.string m] 9)).alloc (.cells #[.string n, .string m] 9))) := ((((Below.refl _ _).alloc (Nat.le_refl _) _).alloc (by simp) _).alloc (by simp <;> omega) _).alloc (by simp <;> omega) _
  have H0 : Hid (((((w.alloc (.cells #[.pointer (some ⟨bx, 0, none⟩)] 26)).alloc (.cells #[.string n] 9)).alloc (.cells #[.string m] 9)).alloc (.cells #[.string n, .string m] 9)).heap[w.heap.size]? = some (.cells #[.pointer (some ⟨bx, 0, none⟩)] 26 (0, 0))) := by
    rw [Hid, Below.heap_alloc _ _ _ (by simp <;> omega), Below.heap_alloc _ _ _ (by simp <;> omega), Below.heap_alloc _ _ _ (by simp)]; exact heap_alloc_new w _
  have H1 : Hid (((((w.alloc (.cells #[.pointer (some ⟨bx, 0, none⟩)] 26)).alloc (.cells #[.string n] 9)).alloc (.cells #[.string m] 9)).alloc (.cells #[.string n, .string m] 9)).heap[w.heap.size + 1]? = some (.cells #[.string n] 9 (0, 0))) := by
    rw [Hid, Below.heap_alloc _ _ _ (by simp <;> omega), Below.heap_alloc _ _ _ (by simp)]
    have := heap_alloc_new (w.alloc (.cells #[.pointer (some ⟨bx, 0, none⟩)] 26)) (.cells #[.string n] 9)
    rwa [World.size_alloc] at this
  have H2 : Hid (((((w.alloc (.cells #[.pointer (some ⟨bx, 0, none⟩)] 26)).alloc (.cells #[.string n] 9)).alloc (.cells #[.string m] 9)).alloc (.cells #[.string n, .string m] 9)).heap[w.heap.size + 1 + 1]? = some (.cells #[.string m] 9 (0, 0))) := by
    rw [Hid, Below.heap_alloc _ _ _ (by simp)]
    have := heap_alloc_new ((w.alloc (.cells #[.pointer (some ⟨bx, 0, none⟩)] 26)).alloc (.cells #[.string n] 9)) (.cells #[.string m] 9)
    rwa [World.size_alloc, World.size_alloc] at this
  have H3 : Hid (((((w.alloc (.cells #[.pointer (some ⟨bx, 0, none⟩)] 26)).alloc (.cells #[.string n] 9)).alloc (.cells #[.string m] 9)).alloc (.cells #[.string n, .string m] 9)).heap[w.heap.size + 1 + 1 + 1]? = some (.cells #[.string n, .string m] 9 (0, 0))) := by
    have := heap_alloc_new (((w.alloc (.cells #[.pointer (some ⟨bx, 0, none⟩)] 26)).alloc (.cells #[.string n] 9)).alloc (.cells #[.string m] 9)) (.cells #[.string n, .string m] 9)
    rwa [World.size_alloc, World.size_alloc, World.size_alloc] at this
  go_enter Tryz.func81, Tryz.ntmps81
  go_wp2_with fail
  generalize ((((w.alloc (.cells #[.pointer (some ⟨bx, 0, none⟩)] 26)).alloc (.cells #[.string n] 9)).alloc (.cells #[.string m] 9)).alloc (.cells #[.string n, .string m] 9)) = w4 at *
  have HBS := Lib.hid (Chg.ofBelow (S := S) HB.out)
  have HRUN : Hid (Calls Tryz.prog 92 #[.pointer (some ⟨bx, 0, none⟩), .agg #[.slice (some ⟨w.heap.size + 1 + 1 + 1, 0, none⟩) 2 2, .bool false, .func (.func 131) #[] #[.pointer (some ⟨w.heap.size, 0, none⟩), .pointer (some ⟨w.heap.size + 1, 0, none⟩), .pointer (some ⟨w.heap.size + 1 + 1, 0, none⟩)]]] w4 (DPost w (.pointer (some ⟨bx, 0, none⟩)) S (renameD D n m))) := by
    have hsz := HB.out.size
    refine run_any 131 #[.pointer (some ⟨w.heap.size, 0, none⟩), .pointer (some ⟨w.heap.size + 1, 0, none⟩), .pointer (some ⟨w.heap.size + 1 + 1, 0, none⟩)] (enters_of Tryz.func131 (by kernel_rfl) rfl) D S bx bm col pv w4 (H.out.frame (fun k _ hk => HB.out.block k hk)) hp (some ⟨w.heap.size + 1 + 1 + 1, 0, none⟩) 2 n [m] (Reads.block H3.out 2 1 rfl) (by simp) (fun ad had => by cases had; show w.heap.size + 1 + 1 + 1 ≠ bx; omega) false _ ?_ ?_
    · intro D1 code hbe w' hd hch
      refine ⟨by unfold renameD; rw [hbe], ?_, HBS.out.trans (hch.mono (T := S) (fun k hk => by rw [hk]; exact H.out.sx.1)) (fun k hk => .inl hk)⟩
      unfold renameD
      rw [hbe]
      exact ⟨bx, bm, col, pv, rfl, hd.mono (fun k hk => .inl hk)⟩
    · intro D1 hbe w' hd hch
      obtain ⟨hD1, hf1, -⟩ := beginD_none hbe
      obtain ⟨f, hf⟩ := Option.isSome_iff_exists.1 hf1
      have hf' : findD D1.files n = some f := by rw [hD1]; exact hf
      rw [fmap_some hf]
      have k0 := hch.heap H0.out (by omega)
      have k1 := hch.heap H1.out (by omega)
      have k2 := hch.heap H2.out (by omega)
      refine (rename1_any D1 n m f S bx bm col pv w' hd hf' w.heap.size (w.heap.size + 1) (w.heap.size + 1 + 1) k0 k1 k2).mono ?_
      rintro e w2 ⟨rfl, hrep, hch2⟩
      have hv : renameD D n m = ({ D1 with files := ⟨m, f.b, f.d⟩ :: dropD (dropD D1.files n) m }, 0) := by unfold renameD; rw [hbe]; simp only; rw [hf']
      rw [hv]
      exact ⟨0, rfl, rfl, hrep.mono (fun k hk => .inl hk), (HBS.out.trans (hch.mono (T := S) (fun k hk => by rw [hk]; exact H.out.sx.1)) (fun k hk => .inl hk)).trans hch2 (fun k hk => .inl hk)⟩
  clear H0 H1 H2 H3 hmf
  refine HRUN.out.mono ?_
  rintro e w5 ⟨rfl, hrep, hch⟩
  have HREP := Lib.hid hrep
  have HCH := Lib.hid hch
  clear hrep hch HRUN
  go_wp2
  go_ret
  exact ⟨rfl, HREP.out, HCH.out⟩
end Go.Proofs.YtgdmdbdljmlkkaaGreatDoor
