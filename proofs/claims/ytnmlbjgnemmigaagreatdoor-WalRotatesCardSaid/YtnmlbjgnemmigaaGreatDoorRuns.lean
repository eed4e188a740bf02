/- Runs of Put, what their disk's records are, also behind a crash; no program in sight. -/
import Derived.Test.YtnmlbjgnemmigaaGreatDoorRecs
import Derived.Test.YtnmlbjgnemmigaaGreatDoorLists
import Derived.Test.YtnmlbjgnemmigaaGreatDoorLive8
namespace Go.Proofs.YtnmlbjgnemmigaaGreatDoor
set_option linter.unusedVariables false
set_option linter.unusedSimpArgs false
open Go.RowKit

def runS (most : Int) (s : Seg) (l : List (List UInt8)) : Seg := l.foldl (fun s r => (stepS most s r).1) s
theorem runS_snoc (most : Int) (s : Seg) (l : List (List UInt8)) (r : List UInt8) : runS most s (l ++ [r]) = (stepS most (runS most s l) r).1 := by unfold runS; rw [List.foldl_append]; rfl
theorem runS_take {P : List SL} {m : Nat} (h : m < P.length) (most : Int) (s : Seg) : runS most s ((P.take (m + 1)).map SL.l) = (stepS most (runS most s ((P.take m).map SL.l)) P[m].l).1 := by
  rw [List.take_succ_eq_append_getElem h, List.map_append]; exact runS_snoc _ _ _ _
theorem stepS_i0 (most : Int) (s : Seg) (r : List UInt8) : (stepS most s r).1.i0 = s.i0 ∧ (stepS most s r).1.pre.length ≤ s.pre.length + 1 := by
  unfold stepS
  split
  · exact ⟨rfl, by show s.pre.length ≤ _; omega⟩
  · split
    · exact ⟨rfl, by show s.pre.length ≤ _; omega⟩
    · split
      · exact ⟨rfl, by simp⟩
      · exact ⟨rfl, by show s.pre.length ≤ _; omega⟩
theorem stepS_len (most : Int) (s : Seg) (r : List UInt8) : (framesB (stepS most s r).1.all).length ≤ (framesB s.all).length + (r.length + 8) := by
  rw [stepS_all, framesB_append, List.length_append]
  split
  · rw [framesB_one, frameB_length]; omega
  · simp [framesB]
/-- What a run has. -/
structure RunI (most : Int) (s : Seg) (q b : Nat) : Prop where
  good : s.good most
  i0 : s.i0 = 0
  pre : s.pre.length ≤ q
  len : (framesB s.all).length ≤ b + 8 * q
theorem runI_0 (most : Int) : RunI most seg0 0 0 := ⟨seg0_good most, rfl, Nat.le_refl _, by simp [seg0, Seg.all, framesB]⟩
theorem RunI.step {most : Int} {s : Seg} {q b : Nat} (h : RunI most s q b) (hq : q ≤ 300) (r : List UInt8) (hr : r.length ≤ 2000) : RunI most (stepS most s r).1 (q + 1) (b + r.length) := by
  have h1 := stepS_i0 most s r
  have h2 := stepS_len most s r
  have h3 := h.i0
  have h4 := h.pre
  have h5 := h.len
  exact ⟨stepS_good h.good (by omega) r hr, by omega, by omega, by omega⟩
theorem sumL_take {P : List SL} {m : Nat} (h : m < P.length) : sumL (P.take (m + 1)) = sumL (P.take m) + P[m].l.length := by
  unfold sumL
  rw [List.take_succ_eq_append_getElem h, List.map_append, List.sum_append]; simp
theorem sumL_le (P : List SL) (m : Nat) : sumL (P.take m) ≤ sumL P := by
  conv => rhs; rw [← List.take_append_drop m P]
  unfold sumL
  rw [List.map_append, List.sum_append]; omega
theorem sumL_at {P : List SL} {m : Nat} (h : m < P.length) : P[m].l.length ≤ sumL P := by
  have h1 := sumL_take h
  have h2 := sumL_le P (m + 1)
  omega
theorem runI_take (most : Int) (P : List SL) (hP : P.length ≤ 300) (hs : sumL P ≤ 2000) : ∀ m, m ≤ P.length → RunI most (runS most seg0 ((P.take m).map SL.l)) m (sumL (P.take m))
  | 0, _ => by
    have := runI_0 most
    simpa [runS, sumL] using this
  | m + 1, hm => by
    have ih := runI_take most P hP hs m (by omega)
    have hlt : m < P.length := by omega
    rw [runS_take hlt, sumL_take hlt]
    exact ih.step (by omega) _ (by have := sumL_at hlt; omega)

theorem readD_up {D : DS} (h : D.down = false) (n : ByteArray) : (readD D n).1 = match findD D.files n with
    | some f => f.b
    | none => [] := by
  unfold readD
  rw [if_neg (by rw [h]; simp)]
  cases findD D.files n <;> rfl
theorem rel_names_mem {D F : DS} (h : Rel D F) (x : ByteArray) : x ∈ D.files.map DF.name ↔ x ∈ F.files.map DF.name := by
  have h1 := findD_none (l := D.files) (n := x)
  have h2 := findD_none (l := F.files) (n := x)
  rw [h.same] at h1
  rw [← Classical.not_not (a := x ∈ D.files.map DF.name), ← Classical.not_not (a := x ∈ F.files.map DF.name)]
  exact not_congr (h1.symm.trans h2)
theorem recsD_rel {D F : DS} (h : Rel D F) (hd : F.down = false) : recsD D = recsF F.files := by
  unfold recsD recsF
  rw [refL_same (rel_names_mem h), List.flatMap_def, List.flatMap_def]
  congr 1
  refine List.map_congr_left (fun n _ => ?_)
  rw [readD_up (by rw [h.down]; exact hd), h.same]
  rfl
theorem rel_segs {D : DS} {room : Int} {s : Seg} (h : Rel D (segD room s)) (hn : s.i0 + s.pre.length + 1 ≤ 99999999) : refL (D.files.map DF.name) = upto s.i0 (s.pre.length + 1) := by
  rw [refL_same (rel_names_mem h), show (segD room s).files = s.files from rfl, seg_names, refL_names (by omega)]
theorem rel_recs {D : DS} {room most : Int} {s : Seg} (h : Rel D (segD room s)) (hg : s.good most) : recsD D = s.all := by
  rw [recsD_rel h rfl]; exact recs_seg hg
theorem preF_fit {most : Int} : ∀ {i : Nat} {a : List (List (List UInt8))}, (∀ c ∈ a, ((framesB c).length : Int) ≤ most ∨ c = []) → 0 ≤ most → ∀ f ∈ preF i a, (f.b.length : Int) ≤ most
  | _, [], _, _, f, hf => by cases hf
  | i, c :: a, h, h0, f, hf => by
    rw [preF] at hf
    rcases List.mem_cons.1 hf with rfl | hf
    · rcases h c (by simp) with h1 | h1
      · exact h1
      · subst h1; simpa [framesB] using h0
    · exact preF_fit (fun c hc => h c (by simp [hc])) h0 f hf
/-- No segment is longer than the greatest size. -/
theorem rel_fit {D : DS} {room most : Int} {s : Seg} (h : Rel D (segD room s)) (hg : s.good most) (h0 : 0 ≤ most) (n : ByteArray) : ((readD D n).1.length : Int) ≤ most := by
  rw [readD_up (by rw [h.down]; rfl), h.same]
  cases hf : findD (segD room s).files n with
  | none => simpa using h0
  | some f =>
    obtain ⟨-, hm⟩ := findD_name hf
    have hm2 : f ∈ preF s.i0 s.pre ++ [s.last] := hm
    rcases List.mem_append.1 hm2 with hm2 | hm2
    · exact preF_fit (fun c hc => hg.fit c (List.mem_append_left _ hc)) h0 f hm2
    · rw [List.mem_singleton.1 hm2]
      show ((framesB s.cur).length : Int) ≤ most
      rcases hg.fit s.cur (by simp) with h1 | h1
      · exact h1
      · rw [h1]; simpa [framesB] using h0
/-- What a crash that keeps nothing leaves. -/
theorem rel_cut {D : DS} {room most : Int} {s : Seg} (h : Rel D (segD room s)) (hg : s.good most) {ss : List (List UInt8)} (h1 : ss.Pairwise (· < ·)) (h2 : ∀ x : List UInt8, x ∈ ss ↔ ⟨x.toArray⟩ ∈ D.files.map DF.name) (ks : List Int) :
    ∃ j, recsD (crashN D ss ks ss.length) = s.all.take j ∧ j ≤ s.all.length ∧ s.all.length - s.wt ≤ j ∧ (ks = [] → j = s.all.length - s.wt) := by
  rw [recsD_rel (rel_crash h h1 h2 ks) rfl]
  exact recs_crash hg ks
end Go.Proofs.YtnmlbjgnemmigaaGreatDoor
