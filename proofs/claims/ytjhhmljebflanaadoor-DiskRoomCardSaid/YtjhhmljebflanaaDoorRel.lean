/- A disk and the disk of the reference: the same files; no program in sight. -/
import Derived.Test.YtjhhmljebflanaaDoorRf6
import Derived.Test.YtjhhmljebflanaaDoorDLive
namespace Go.Proofs.YtjhhmljebflanaaDoor
set_option linter.unusedVariables false
set_option linter.unusedSimpArgs false
open Go.RowKit

instance : DecidableEq DF := fun a b => decidable_of_iff (a.name = b.name ∧ a.b = b.b ∧ a.d = b.d) (by cases a; cases b; simp)

theorem findD_outF (l : List DF) (n x : ByteArray) : findD (outF l n) x = if x = n then none else findD l x := by
  induction l with
  | nil => simp [outF, findD]
  | cons a l ih =>
    unfold outF at ih ⊢
    rw [List.filter_cons]
    by_cases h : a.name = n
    · rw [if_neg (by simp [h]), ih, findD]
      by_cases hx : x = n
      · rw [if_pos hx, if_pos hx]
      · rw [if_neg hx, if_neg hx, if_neg (fun e => hx (by rw [← e, h]))]
    · rw [if_pos (by simp [h]), findD, ih, findD]
      by_cases hx : a.name = x
      · rw [if_pos hx, if_pos hx, if_neg (fun e => h (hx.trans e))]
      · rw [if_neg hx, if_neg hx]
theorem findD_insF (l : List DF) (f : DF) (hn : findD l f.name = none) (x : ByteArray) : findD (insF l f) x = if x = f.name then some f else findD l x := by
  induction l with
  | nil =>
    simp only [insF, findD]
    by_cases h : f.name = x
    · rw [if_pos h, if_pos h.symm]
    · rw [if_neg h, if_neg (fun e => h e.symm)]
  | cons a l ih =>
    have hne : ¬ a.name = f.name := fun e => by rw [findD, if_pos e] at hn; cases hn
    rw [findD, if_neg hne] at hn
    rw [insF]
    split
    · rw [findD, ih hn, findD]
      by_cases hx : a.name = x
      · rw [if_pos hx, if_pos hx, if_neg (fun e => hne (hx.trans e))]
      · rw [if_neg hx, if_neg hx]
    · rw [findD]
      by_cases hx : f.name = x
      · rw [if_pos hx, if_pos hx.symm]
      · rw [if_neg hx, if_neg (fun e => hx e.symm)]
theorem findD_putF (l : List DF) (f : DF) (x : ByteArray) : findD (putF l f) x = if x = f.name then some f else findD l x := by
  unfold putF
  rw [findD_insF _ _ (by rw [findD_outF, if_pos rfl]), findD_outF]
  split
  · rfl
  · rfl

abbrev below (a b : DF) : Prop := a.name.toList < b.name.toList
theorem ba_toList2 {a b : ByteArray} (h : a.toList = b.toList) : a = b := by
  have h2 := ba_beq a b
  rw [beq_toListBytes, h] at h2
  simpa using h2
theorem bytes_lt_of {x y : List UInt8} (h : ¬ x < y) (hn : x ≠ y) : y < x := by
  refine Classical.byContradiction fun h2 => hn (List.le_antisymm ?_ ?_)
  · exact List.not_lt.1 h2
  · exact List.not_lt.1 h
theorem outF_sorted {l : List DF} (h : l.Pairwise below) (n : ByteArray) : (outF l n).Pairwise below := h.filter _
theorem insF_mem (l : List DF) (r x : DF) : x ∈ insF l r ↔ x = r ∨ x ∈ l := by
  induction l with
  | nil => simp [insF]
  | cons a l ih =>
    rw [insF]
    split
    · rw [List.mem_cons, ih, List.mem_cons]
      constructor
      · rintro (h | h | h)
        · exact .inr (.inl h)
        · exact .inl h
        · exact .inr (.inr h)
      · rintro (h | h | h)
        · exact .inr (.inl h)
        · exact .inl h
        · exact .inr (.inr h)
    · exact List.mem_cons
theorem insF_sorted {l : List DF} (h : l.Pairwise below) (f : DF) (hn : ∀ a ∈ l, a.name ≠ f.name) : (insF l f).Pairwise below := by
  induction l with
  | nil => simp [insF]
  | cons a l ih =>
    obtain ⟨h1, h2⟩ := List.pairwise_cons.1 h
    rw [insF]
    split
    · rename_i hlt
      refine List.pairwise_cons.2 ⟨fun x hx => ?_, ih h2 (fun y hy => hn y (List.mem_cons_of_mem _ hy))⟩
      rcases (insF_mem l f x).1 hx with rfl | hx
      · exact hlt
      · exact h1 x hx
    · rename_i hlt
      have hfa : below f a := bytes_lt_of hlt (fun e => hn a (List.mem_cons_self ..) (ba_toList2 e))
      refine List.pairwise_cons.2 ⟨fun x hx => ?_, h⟩
      rcases List.mem_cons.1 hx with rfl | hx
      · exact hfa
      · exact List.lt_trans hfa (h1 x hx)
theorem putF_sorted {l : List DF} (h : l.Pairwise below) (f : DF) : (putF l f).Pairwise below := by
  refine insF_sorted (outF_sorted h _) f (fun a ha => ?_)
  have := (List.mem_filter.1 ha).2
  simpa using this
theorem sorted_nodup {l : List DF} (h : l.Pairwise below) : (l.map DF.name).Nodup := by
  rw [List.nodup_iff_pairwise_ne, List.pairwise_map]
  exact h.imp (fun {a b} hab e => by unfold below at hab; rw [e] at hab; exact List.lt_irrefl _ hab)

theorem mem_iff_findD {l : List DF} (h : (l.map DF.name).Nodup) (f : DF) : f ∈ l ↔ findD l f.name = some f :=
  ⟨fun hf => findD_mem h hf, fun hf => (findD_name hf).2⟩
theorem nodup_of_names {l : List DF} (h : (l.map DF.name).Nodup) : l.Nodup := by
  rw [List.nodup_iff_pairwise_ne, List.pairwise_map] at h
  exact h.imp (fun {a b} hab e => hab (by rw [e]))
theorem sum_erase (g : DF → Nat) {l : List DF} {a : DF} (h : a ∈ l) : (l.map g).sum = g a + ((l.erase a).map g).sum := by
  induction l with
  | nil => cases h
  | cons b l ih =>
    by_cases hb : b = a
    · subst hb; rw [List.erase_cons_head]; rfl
    · rw [List.erase_cons_tail (by simpa using hb), List.map_cons, List.sum_cons, List.map_cons, List.sum_cons, ih (by rcases List.mem_cons.1 h with e | e; exact absurd e.symm hb; exact e)]
      omega
theorem sum_same (g : DF → Nat) : ∀ (l1 l2 : List DF), l1.Nodup → l2.Nodup → (∀ f, f ∈ l1 ↔ f ∈ l2) → (l1.map g).sum = (l2.map g).sum
  | [], l2, _, _, h => by
    have : l2 = [] := List.eq_nil_iff_forall_not_mem.2 (fun a ha => by have := (h a).2 ha; simp at this)
    rw [this]
  | a :: l1, l2, h1, h2, h => by
    have ha : a ∈ l2 := (h a).1 (by simp)
    obtain ⟨h3, h4⟩ := List.nodup_cons.1 h1
    rw [sum_erase g ha, List.map_cons, List.sum_cons, sum_same g l1 (l2.erase a) h4 (h2.erase a) (fun f => by
      rw [h2.mem_erase_iff]
      constructor
      · intro hf; exact ⟨fun e => h3 (e ▸ hf), (h f).1 (List.mem_cons_of_mem _ hf)⟩
      · rintro ⟨hne, hf⟩
        rcases List.mem_cons.1 ((h f).2 hf) with e | e
        · exact absurd e hne
        · exact e)]

theorem len_sum (l : List DF) : (l.map (fun _ => 1)).sum = l.length := by
  induction l with
  | nil => rfl
  | cons a l ih => rw [List.map_cons, List.sum_cons, ih, List.length_cons, Nat.add_comm]
/-- The same files. -/
structure Rel (D F : DS) : Prop where
  room : D.room = F.room
  plan : D.plan = F.plan
  down : D.down = F.down
  nd : (D.files.map DF.name).Nodup
  so : F.files.Pairwise below
  same : ∀ n, findD D.files n = findD F.files n

section
variable {D F : DS} (h : Rel D F)
include h
theorem Rel.mem (f : DF) : f ∈ D.files ↔ f ∈ F.files := by
  rw [mem_iff_findD h.nd, mem_iff_findD (sorted_nodup h.so), h.same]
theorem Rel.sums (g : DF → Nat) : (D.files.map g).sum = (F.files.map g).sum :=
  sum_same g _ _ (nodup_of_names h.nd) (nodup_of_names (sorted_nodup h.so)) h.mem
theorem Rel.sum : sumD D.files = sumD F.files := h.sums _
theorem Rel.len : D.files.length = F.files.length := by
  have := h.sums (fun _ => 1)
  rwa [len_sum, len_sum] at this
theorem Rel.step : Rel { D with plan := max (D.plan - 1) 0 } (stepF F) := ⟨h.room, by show max (D.plan - 1) 0 = max (F.plan - 1) 0; rw [h.plan], h.down, h.nd, h.so, h.same⟩
theorem Rel.kill : Rel { D with plan := 0, down := true } { F with plan := 0, down := true } := ⟨h.room, rfl, rfl, h.nd, h.so, h.same⟩

theorem rel_create (n to : ByteArray) (b : List UInt8) : (createD D n).2 = (doF 1 F n to b).2 ∧ Rel (createD D n).1 (doF 1 F n to b).1 := by
  have hs := h.same n
  have hst := h.step
  have hk := h.kill
  unfold createD beginD doF
  rw [← h.down, ← h.plan]
  by_cases hd : D.down = true
  · simp [hd, h]
  · have hd' : D.down = false := by simpa using hd
    rw [hd'] at hst
    by_cases hp : D.plan = 1
    · simp [hd', hp, hk]
    · cases hn : namedB n with
      | false => simp [hd, hp, hn, hst]
      | true =>
        cases hf : findD F.files n with
        | some f => rw [hf] at hs; simp [hd, hp, hn, hs, hf, hst]
        | none =>
          rw [hf] at hs
          simp [hd, hp, hn, hs, hf]
          exact ⟨h.room, hst.plan, hst.down, by simp only [List.map_cons, List.nodup_cons]; exact ⟨findD_none.1 hs, h.nd⟩, putF_sorted h.so _, fun x => by
            show findD (⟨n, [], 0⟩ :: D.files) x = findD (putF F.files ⟨n, [], 0⟩) x
            rw [findD, findD_putF]
            by_cases hx : n = x
            · rw [if_pos hx, if_pos hx.symm]
            · rw [if_neg hx, if_neg (fun e => hx e.symm)]; exact h.same x⟩

theorem setD_nodup (n : ByteArray) (b : List UInt8) (d : Nat) : ((setD D.files n b d).map DF.name).Nodup := by rw [setD_names]; exact h.nd
theorem rel_set {n : ByteArray} {f : DF} (hf : findD F.files n = some f) (b : List UInt8) (d : Nat) (x : ByteArray) : findD (setD D.files n b d) x = findD (putF F.files ⟨f.name, b, d⟩) x := by
  obtain ⟨hfn, -⟩ := findD_name hf
  subst hfn
  rw [findD_setD, findD_putF, h.same]
  by_cases hx : x = f.name
  · subst hx; rw [if_pos rfl, hf]; simp
  · rw [if_neg hx]
    cases hq : findD F.files x with
    | none => rfl
    | some g =>
      have := (findD_name hq).1
      simp only [Option.map_some]
      rw [if_neg (fun e => hx (by rw [← this, e]))]

theorem rel_append (n to : ByteArray) (b : List UInt8) : (appendD D n b).2 = (doF 2 F n to b).2 ∧ Rel (appendD D n b).1 (doF 2 F n to b).1 := by
  have hs := h.same n
  have hst := h.step
  have hk := h.kill
  have hsum := h.sum
  have hroom := h.room
  unfold appendD beginD doF
  rw [← h.down, ← h.plan]
  by_cases hd : D.down = true
  · simp [hd, h]
  · have hd' : D.down = false := by simpa using hd
    rw [hd'] at hst
    have hst2 := hst
    rw [hroom] at hst2
    by_cases hp : D.plan = 1
    · simp [hd', hp, hk]
    · cases hn : namedB n with
      | false => simp [hd, hp, hn, hst]
      | true =>
        cases hf : findD F.files n with
        | none => rw [hf] at hs; simp [hd, hp, hn, hs, hf, hst]
        | some f =>
          rw [hf] at hs
          by_cases hr : F.room < sumD F.files + b.length
          · simp [hd, hp, hn, hs, hf, hsum, hroom, hr, hst2]
          · simp [hd, hp, hn, hs, hf, hsum, hroom, hr]
            exact ⟨rfl, hst.plan, hst.down, setD_nodup h _ _ _, putF_sorted h.so _, rel_set h hf _ _⟩

theorem rel_sync (n to : ByteArray) (b : List UInt8) : (syncD D n).2 = (doF 3 F n to b).2 ∧ Rel (syncD D n).1 (doF 3 F n to b).1 := by
  have hs := h.same n
  have hst := h.step
  have hk := h.kill
  unfold syncD beginD doF
  rw [← h.down, ← h.plan]
  by_cases hd : D.down = true
  · simp [hd, h]
  · have hd' : D.down = false := by simpa using hd
    rw [hd'] at hst
    by_cases hp : D.plan = 1
    · simp [hd', hp, hk]
    · cases hn : namedB n with
      | false => simp [hd, hp, hn, hst]
      | true =>
        cases hf : findD F.files n with
        | none => rw [hf] at hs; simp [hd, hp, hn, hs, hf, hst]
        | some f =>
          rw [hf] at hs
          simp [hd, hp, hn, hs, hf]
          exact ⟨h.room, hst.plan, hst.down, setD_nodup h _ _ _, putF_sorted h.so _, rel_set h hf _ _⟩

theorem rel_remove (n to : ByteArray) (b : List UInt8) : (removeD D n).2 = (doF 5 F n to b).2 ∧ Rel (removeD D n).1 (doF 5 F n to b).1 := by
  have hs := h.same n
  have hst := h.step
  have hk := h.kill
  unfold removeD beginD doF
  rw [← h.down, ← h.plan]
  by_cases hd : D.down = true
  · simp [hd, h]
  · have hd' : D.down = false := by simpa using hd
    rw [hd'] at hst
    by_cases hp : D.plan = 1
    · simp [hd', hp, hk]
    · cases hn : namedB n with
      | false => simp [hd, hp, hn, hst]
      | true =>
        cases hf : findD F.files n with
        | none => rw [hf] at hs; simp [hd, hp, hn, hs, hf, hst]
        | some f =>
          rw [hf] at hs
          simp [hd, hp, hn, hs, hf]
          exact ⟨h.room, hst.plan, hst.down, ((dropD_sub _ _).map DF.name).nodup h.nd, outF_sorted h.so _, fun x => by
            show findD (dropD D.files n) x = findD (outF F.files n) x
            rw [findD_dropD, findD_outF, h.same]⟩

theorem rel_rename (n to : ByteArray) (b : List UInt8) : (renameD D n to).2 = (doF 4 F n to b).2 ∧ Rel (renameD D n to).1 (doF 4 F n to b).1 := by
  have hs := h.same n
  have hst := h.step
  have hk := h.kill
  unfold renameD beginD doF
  rw [← h.down, ← h.plan]
  by_cases hd : D.down = true
  · simp [hd, h]
  · have hd' : D.down = false := by simpa using hd
    rw [hd'] at hst
    by_cases hp : D.plan = 1
    · simp [hd', hp, hk]
    · cases hn : namedB n with
      | false => simp [hd, hp, hn, hst]
      | true =>
        cases hnt : namedB to with
        | false => simp [hd, hp, hn, hnt, hst]
        | true =>
          cases hf : findD F.files n with
          | none => rw [hf] at hs; simp [hd, hp, hn, hnt, hs, hf, hst]
          | some f =>
            rw [hf] at hs
            simp [hd, hp, hn, hnt, hs, hf]
            exact ⟨h.room, hst.plan, hst.down, by
              simp only [List.map_cons, List.nodup_cons]
              refine ⟨fun hm => ?_, ((dropD_sub _ _).trans (dropD_sub _ _) |>.map DF.name).nodup h.nd⟩
              obtain ⟨g, hg, he⟩ := List.mem_map.1 hm
              exact (dropD_mem.1 hg).2 he, putF_sorted (outF_sorted h.so _) _, fun x => by
              show findD (⟨to, f.b, f.d⟩ :: dropD (dropD D.files n) to) x = findD (putF (outF F.files n) ⟨to, f.b, f.d⟩) x
              rw [findD, findD_putF, findD_dropD, findD_dropD, findD_outF, h.same]
              by_cases hx : to = x
              · rw [if_pos hx, if_pos hx.symm]
              · have hx' : ¬ x = to := fun e => hx e.symm
                simp only [if_neg hx, if_neg hx']⟩
end
end Go.Proofs.YtjhhmljebflanaaDoor
