/- (*Disk).Sync and (*Disk).Remove. -/
import Derived.Test.YtjhhmljebflanaaDoorDCreate
namespace Go.Proofs.YtjhhmljebflanaaDoor
set_option linter.unusedVariables false
set_option linter.unusedSimpArgs false
open Go.RowKit

def syncD (D : DS) (n : ByteArray) : DS × Int :=
  match beginD D [n] false with
  | (D1, some c) => (D1, c)
  | (D1, none) => match findD D1.files n with
    | some f => ({ D1 with files := setD D1.files n f.b f.b.length }, 0)
    | none => (D1, 0)
def removeD (D : DS) (n : ByteArray) : DS × Int :=
  match beginD D [n] false with
  | (D1, some c) => (D1, c)
  | (D1, none) => ({ D1 with files := dropD D1.files n }, 0)

theorem fmap_some {l : List DF} {pv : ByteArray → Nat} {n : ByteArray} {f : DF} (h : findD l n = some f) : (fmap l pv n).getD (.pointer none) = .pointer (some ⟨pv n, 0, none⟩) := by
  unfold fmap; rw [h]; rfl

set_option maxRecDepth 100000 in
set_option maxHeartbeats 1000000 in
theorem sync1_any (D : DS) (n : ByteArray) (f : DF) (S : Nat → Prop) (bx bm : Nat) (col : Nat → Option ByteArray) (pv : ByteArray → Nat) (w : World) (h : DAt w D S bx bm col pv) (hf : findD D.files n = some f) :
    Calls Tryd.prog 32 #[.pointer (some ⟨pv n, 0, none⟩)] w fun e w' => e = .returned (.int .i64 0) ∧ DRep w' (.pointer (some ⟨bx, 0, none⟩)) { D with files := setD D.files n f.b f.b.length } (fun k => S k ∨ w.heap.size ≤ k) ∧ Chg S w w' := by
  replace h := h.tight
  obtain ⟨hfn, hfm⟩ := findD_name hf
  have hfr := h.fl f hfm
  rw [hfn] at hfr
  obtain ⟨a, c, T, h1, h2, h3, h4, h5, h6, h7⟩ := hfr
  have hc0 := cellAt h1 0 (v := .slice a f.b.length c) rfl
  have hc1 := cellAt h1 1 (v := .int .i64 f.d) rfl
  have hf1 := freeAt h1 1
  have HS1 := Lib.hid (heap_store h1 1 (.int .i64 f.b.length))
  have HCH : Hid (Chg (fun k => (S k ∧ k < w.heap.size) ∧ col k = some n) w (w.setCell ⟨pv n, 1, none⟩ (.int .i64 f.b.length))) := (Chg.refl _ _).setCell (p := ⟨pv n, 1, none⟩) (.inl h3) _
  have HFR : Hid (FRep (w.setCell ⟨pv n, 1, none⟩ (.int .i64 f.b.length)) (pv n) f.b f.b.length (fun k => ((S k ∧ k < w.heap.size) ∧ col k = some n) ∨ w.heap.size ≤ k)) :=
    ⟨a, c, T, HS1.out, h2.frame (fun k hk _ => Below.heap_setCell _ _ _ _ (fun e => h4 (by rw [← show k = pv n from e]; exact hk))), .inl h3, h4, fun k hk => .inl (h5 k hk), Nat.le_refl _, h7⟩
  have HFin := Lib.hid (h.set HCH.out HFR.out)
  clear h1 h2 h3 h4 h5 h6 h7
  go_enter Tryd.func32, Tryd.ntmps32
  go_wp2
  go_ret
  exact ⟨rfl, ⟨bx, bm, _, _, rfl, HFin.out.mono (fun k hk => hk.imp_left (fun h => h.1))⟩, HCH.out.mono (fun k hk => hk.1.1)⟩

set_option maxRecDepth 100000 in
set_option maxHeartbeats 1000000 in
theorem sync_any (x : Value) (n : ByteArray) (D : DS) (S : Nat → Prop) (w : World) (h : DRep w x D S) (hp : 0 ≤ D.plan ∧ D.plan ≤ 9223372036854775807) :
    Calls Tryd.prog 14 #[x, .string n] w (DPost w x S (syncD D n)) := by
  obtain ⟨bx, bm, col, pv, rfl, h⟩ := h
  have H := Lib.hid h
  have hbx := lt_of_heap h.blk
  clear h
  have HB : Hid (Below w.heap.size w (w.alloc (.cells #[.string n] 9))) := (Below.refl _ _).alloc (Nat.le_refl _) _
  have H2 : Hid ((w.alloc (.cells #[.string n] 9)).heap[w.heap.size]? = some (.cells #[.string n] 9 (0, 0))) := heap_alloc_new w _
  go_enter Tryd.func14, Tryd.ntmps14
  go_wp2_with fail
  generalize w.alloc (.cells #[.string n] 9) = w3 at *
  have HBS := Lib.hid (Chg.ofBelow (S := S) HB.out)
  have HRUN : Hid (Calls Tryd.prog 29 #[.pointer (some ⟨bx, 0, none⟩), .agg #[.slice (some ⟨w.heap.size, 0, none⟩) 1 1, .bool false, .func (.func 32) #[] #[]]] w3 (DPost w (.pointer (some ⟨bx, 0, none⟩)) S (syncD D n))) := by
    have hsz := HB.out.size
    refine run_any 32 #[] (enters_of Tryd.func32 (by kernel_rfl) rfl) D S bx bm col pv w3 (H.out.frame (fun k _ hk => HB.out.block k hk)) hp (some ⟨w.heap.size, 0, none⟩) 1 n [] (Reads.block H2.out 1 1 rfl) (by simp) (fun ad had => by cases had; show w.heap.size ≠ bx; omega) false _ ?_ ?_
    · intro D1 code hbe w' hd hch
      refine ⟨by unfold syncD; rw [hbe], ?_, HBS.out.trans (hch.mono (T := S) (fun k hk => by rw [hk]; exact H.out.sx.1)) (fun k hk => .inl hk)⟩
      unfold syncD
      rw [hbe]
      exact ⟨bx, bm, col, pv, rfl, hd.mono (fun k hk => .inl hk)⟩
    · intro D1 hbe w' hd hch
      obtain ⟨hD1, hf1, -⟩ := beginD_none hbe
      obtain ⟨f, hf⟩ := Option.isSome_iff_exists.1 hf1
      have hf' : findD D1.files n = some f := by rw [hD1]; exact hf
      rw [fmap_some hf]
      refine (sync1_any D1 n f S bx bm col pv w' hd hf').mono ?_
      rintro e w2 ⟨rfl, hrep, hch2⟩
      have hv : syncD D n = ({ D1 with files := setD D1.files n f.b f.b.length }, 0) := by unfold syncD; rw [hbe]; simp only; rw [hf']
      rw [hv]
      have := hch.size
      exact ⟨0, rfl, rfl, hrep.mono (fun k hk => hk.imp_right (fun h => by omega)), (HBS.out.trans (hch.mono (T := S) (fun k hk => by rw [hk]; exact H.out.sx.1)) (fun k hk => .inl hk)).trans hch2 (fun k hk => .inl hk)⟩
  clear H2
  refine HRUN.out.mono ?_
  rintro e w4 ⟨rfl, hrep, hch⟩
  have HREP := Lib.hid hrep
  have HCH := Lib.hid hch
  clear hrep hch HRUN
  go_wp2
  go_ret
  exact ⟨rfl, HREP.out, HCH.out⟩
end Go.Proofs.YtjhhmljebflanaaDoor
