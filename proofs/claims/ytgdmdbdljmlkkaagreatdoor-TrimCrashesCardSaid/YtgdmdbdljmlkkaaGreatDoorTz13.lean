/- Rel2, DConcat -/
import Derived.Test.YtgdmdbdljmlkkaaGreatDoorTz12
import Derived.Lib.AppendZerosOnto
set_option maxRecDepth 100000
set_option linter.unusedVariables false
set_option linter.unusedSimpArgs false
namespace Go.Proofs.YtgdmdbdljmlkkaaGreatDoor
open Go.RowKit
instance : DecidableEq DF := fun a b => decidable_of_iff (a.name = b.name ∧ a.b = b.b ∧ a.d = b.d) (by cases a; cases b; simp)
theorem findD_outF (l : List DF) (n x : ByteArray) : findD (outF l n) x = if x = n then none else findD l x := by
 induction l with
 | nil => simp [outF, findD]
 | cons a l ih =>
   unfold outF at ih ⊢
   rw [List.filter_cons]
   by_cases h : a.name = n
   · rw [if_neg (by simp [h]), ih, findD]
     by_cases hx : x = n
     · rw [if_pos hx, if_pos hx]
     · rw [if_neg hx, if_neg hx, if_neg (fun e => hx (by rw [← e, h]))]
   · rw [if_pos (by simp [h]), findD, ih, findD]
     by_cases hx : a.name = x
     · rw [if_pos hx, if_pos hx, if_neg (fun e => h (hx.trans e))]
     · rw [if_neg hx, if_neg hx]
theorem findD_insF (l : List DF) (f : DF) (hn : findD l f.name = none) (x : ByteArray) : findD (insF l f) x = if x = f.name then some f else findD l x := by
 induction l with
 | nil =>
   simp only [insF, findD]
   by_cases h : f.name = x
   · rw [if_pos h, if_pos h.symm]
   · rw [if_neg h, if_neg (fun e => h e.symm)]
 | cons a l ih =>
   have hne : ¬ a.name = f.name := fun e => by rw [findD, if_pos e] at hn; cases hn
   rw [findD, if_neg hne] at hn
   rw [insF]
   split
   · rw [findD, ih hn, findD]
     by_cases hx : a.name = x
     · rw [if_pos hx, if_pos hx, if_neg (fun e => hne (hx.trans e))]
     · rw [if_neg hx, if_neg hx]
   · rw [findD]
     by_cases hx : f.name = x
     · rw [if_pos hx, if_pos hx.symm]
     · rw [if_neg hx, if_neg (fun e => hx e.symm)]
theorem findD_putF (l : List DF) (f : DF) (x : ByteArray) : findD (putF l f) x = if x = f.name then some f else findD l x := by
 unfold putF
 rw [findD_insF _ _ (by rw [findD_outF, if_pos rfl]), findD_outF]
 split
 · rfl
 · rfl
abbrev below (a b : DF) : Prop := a.name.toList < b.name.toList
theorem ba_toList2 {a b : ByteArray} (h : a.toList = b.toList) : a = b := by
 have h2 := ba_beq a b
 rw [beq_toListBytes, h] at h2
 simpa using h2
theorem bytes_lt_of {x y : List UInt8} (h : ¬ x < y) (hn : x ≠ y) : y < x := by
 refine Classical.byContradiction fun h2 => hn (List.le_antisymm ?_ ?_)
 · exact List.not_lt.1 h2
 · exact List.not_lt.1 h
theorem outF_sorted {l : List DF} (h : l.Pairwise below) (n : ByteArray) : (outF l n).Pairwise below := h.filter _
theorem insF_mem (l : List DF) (r x : DF) : x ∈ insF l r ↔ x = r ∨ x ∈ l := by
 induction l with
 | nil => simp [insF]
 | cons a l ih =>
   rw [insF]
   split
   · rw [List.mem_cons, ih, List.mem_cons]
     constructor
     · rintro (h | h | h)
       · exact .inr (.inl h)
       · exact .inl h
       · exact .inr (.inr h)
     · rintro (h | h | h)
       · exact .inr (.inl h)
       · exact .inl h
       · exact .inr (.inr h)
   · exact List.mem_cons
theorem insF_sorted {l : List DF} (h : l.Pairwise below) (f : DF) (hn : ∀ a ∈ l, a.name ≠ f.name) : (insF l f).Pairwise below := by
 induction l with
 | nil => simp [insF]
 | cons a l ih =>
   obtain ⟨h1, h2⟩ := List.pairwise_cons.1 h
   rw [insF]
   split
   · rename_i hlt
     refine List.pairwise_cons.2 ⟨fun x hx => ?_, ih h2 (fun y hy => hn y (List.mem_cons_of_mem _ hy))⟩
     rcases (insF_mem l f x).1 hx with rfl | hx
     · exact hlt
     · exact h1 x hx
   · rename_i hlt
     have hfa : below f a := bytes_lt_of hlt (fun e => hn a (List.mem_cons_self ..) (ba_toList2 e))
     refine List.pairwise_cons.2 ⟨fun x hx => ?_, h⟩
     rcases List.mem_cons.1 hx with rfl | hx
     · exact hfa
     · exact List.lt_trans hfa (h1 x hx)
theorem putF_sorted {l : List DF} (h : l.Pairwise below) (f : DF) : (putF l f).Pairwise below := by
 refine insF_sorted (outF_sorted h _) f (fun a ha => ?_)
 have := (List.mem_filter.1 ha).2
 simpa using this
theorem sorted_nodup {l : List DF} (h : l.Pairwise below) : (l.map DF.name).Nodup := by
 rw [List.nodup_iff_pairwise_ne, List.pairwise_map]
 exact h.imp (fun {a b} hab e => by unfold below at hab; rw [e] at hab; exact List.lt_irrefl _ hab)
theorem mem_iff_findD {l : List DF} (h : (l.map DF.name).Nodup) (f : DF) : f ∈ l ↔ findD l f.name = some f :=
 ⟨fun hf => findD_mem h hf, fun hf => (findD_name hf).2⟩
theorem nodup_of_names {l : List DF} (h : (l.map DF.name).Nodup) : l.Nodup := by
 rw [List.nodup_iff_pairwise_ne, List.pairwise_map] at h
 exact h.imp (fun {a b} hab e => hab (by rw [e]))
theorem sum_erase (g : DF → Nat) {l : List DF} {a : DF} (h : a ∈ l) : (l.map g).sum = g a + ((l.erase a).map g).sum := by
 induction l with
 | nil => cases h
 | cons b l ih =>
   by_cases hb : b = a
   · subst hb; rw [List.erase_cons_head]; rfl
   · rw [List.erase_cons_tail (by simpa using hb), List.map_cons, List.sum_cons, List.map_cons, List.sum_cons, ih (by rcases List.mem_cons.1 h with e | e; exact absurd e.symm hb; exact e)]
     omega
theorem sum_same (g : DF → Nat) : ∀ (l1 l2 : List DF), l1.Nodup → l2.Nodup → (∀ f, f ∈ l1 ↔ f ∈ l2) → (l1.map g).sum = (l2.map g).sum
 | [], l2, _, _, h => by
   have : l2 = [] := List.eq_nil_iff_forall_not_mem.2 (fun a ha => by have := (h a).2 ha; simp at this)
   rw [this]
 | a :: l1, l2, h1, h2, h => by
   have ha : a ∈ l2 := (h a).1 (by simp)
   obtain ⟨h3, h4⟩ := List.nodup_cons.1 h1
   rw [sum_erase g ha, List.map_cons, List.sum_cons, sum_same g l1 (l2.erase a) h4 (h2.erase a) (fun f => by
     rw [h2.mem_erase_iff]
     constructor
     · intro hf; exact ⟨fun e => h3 (e ▸ hf), (h f).1 (List.mem_cons_of_mem _ hf)⟩
     · rintro ⟨hne, hf⟩
       rcases List.mem_cons.1 ((h f).2 hf) with e | e
       · exact absurd e hne
       · exact e)]
theorem len_sum (l : List DF) : (l.map (fun _ => 1)).sum = l.length := by
 induction l with
 | nil => rfl
 | cons a l ih => rw [List.map_cons, List.sum_cons, ih, List.length_cons, Nat.add_comm]
structure Rel (D F : DS) : Prop where
 room : D.room = F.room
 plan : D.plan = F.plan
 down : D.down = F.down
 nd : (D.files.map DF.name).Nodup
 so : F.files.Pairwise below
 same : ∀ n, findD D.files n = findD F.files n
section
variable {D F : DS} (h : Rel D F)
include h
theorem Rel.mem (f : DF) : f ∈ D.files ↔ f ∈ F.files := by
 rw [mem_iff_findD h.nd, mem_iff_findD (sorted_nodup h.so), h.same]
theorem Rel.sums (g : DF → Nat) : (D.files.map g).sum = (F.files.map g).sum :=
 sum_same g _ _ (nodup_of_names h.nd) (nodup_of_names (sorted_nodup h.so)) h.mem
theorem Rel.sum : sumD D.files = sumD F.files := h.sums _
theorem Rel.len : D.files.length = F.files.length := by
 have := h.sums (fun _ => 1)
 rwa [len_sum, len_sum] at this
theorem Rel.step : Rel { D with plan := max (D.plan - 1) 0 } (stepF F) := ⟨h.room, by show max (D.plan - 1) 0 = max (F.plan - 1) 0; rw [h.plan], h.down, h.nd, h.so, h.same⟩
theorem Rel.kill : Rel { D with plan := 0, down := true } { F with plan := 0, down := true } := ⟨h.room, rfl, rfl, h.nd, h.so, h.same⟩
theorem rel_create (n tgt : ByteArray) (b : List UInt8) : (createD D n).2 = (doF 1 F n tgt b).2 ∧ Rel (createD D n).1 (doF 1 F n tgt b).1 := by
 have hs := h.same n
 have hst := h.step
 have hk := h.kill
 unfold createD beginD doF
 rw [← h.down, ← h.plan]
 by_cases hd : D.down = true
 · simp [hd, h]
 · have hd' : D.down = false := by simpa using hd
   rw [hd'] at hst
   by_cases hp : D.plan = 1
   · simp [hd', hp, hk]
   · cases hn : namedB n with
     | false => simp [hd, hp, hn, hst]
     | true =>
       cases hf : findD F.files n with
       | some f => rw [hf] at hs; simp [hd, hp, hn, hs, hf, hst]
       | none =>
         rw [hf] at hs
         simp [hd, hp, hn, hs, hf]
         exact ⟨h.room, hst.plan, hst.down, by simp only [List.map_cons, List.nodup_cons]; exact ⟨findD_none.1 hs, h.nd⟩, putF_sorted h.so _, fun x => by
           show findD (⟨n, [], 0⟩ :: D.files) x = findD (putF F.files ⟨n, [], 0⟩) x
           rw [findD, findD_putF]
           by_cases hx : n = x
           · rw [if_pos hx, if_pos hx.symm]
           · rw [if_neg hx, if_neg (fun e => hx e.symm)]; exact h.same x⟩
theorem setD_nodup (n : ByteArray) (b : List UInt8) (d : Nat) : ((setD D.files n b d).map DF.name).Nodup := by rw [setD_names]; exact h.nd
theorem rel_set {n : ByteArray} {f : DF} (hf : findD F.files n = some f) (b : List UInt8) (d : Nat) (x : ByteArray) : findD (setD D.files n b d) x = findD (putF F.files ⟨f.name, b, d⟩) x := by
 obtain ⟨hfn, -⟩ := findD_name hf
 subst hfn
 rw [findD_setD, findD_putF, h.same]
 by_cases hx : x = f.name
 · subst hx; rw [if_pos rfl, hf]; simp
 · rw [if_neg hx]
   cases hq : findD F.files x with
   | none => rfl
   | some g =>
     have := (findD_name hq).1
     simp only [Option.map_some]
     rw [if_neg (fun e => hx (by rw [← this, e]))]
theorem rel_append (n tgt : ByteArray) (b : List UInt8) : (appendD D n b).2 = (doF 2 F n tgt b).2 ∧ Rel (appendD D n b).1 (doF 2 F n tgt b).1 := by
 have hs := h.same n
 have hst := h.step
 have hk := h.kill
 have hsum := h.sum
 have hroom := h.room
 unfold appendD beginD doF
 rw [← h.down, ← h.plan]
 by_cases hd : D.down = true
 · simp [hd, h]
 · have hd' : D.down = false := by simpa using hd
   rw [hd'] at hst
   have hst2 := hst
   rw [hroom] at hst2
   by_cases hp : D.plan = 1
   · simp [hd', hp, hk]
   · cases hn : namedB n with
     | false => simp [hd, hp, hn, hst]
     | true =>
       cases hf : findD F.files n with
       | none => rw [hf] at hs; simp [hd, hp, hn, hs, hf, hst]
       | some f =>
         rw [hf] at hs
         by_cases hr : F.room < sumD F.files + b.length
         · simp [hd, hp, hn, hs, hf, hsum, hroom, hr, hst2]
         · simp [hd, hp, hn, hs, hf, hsum, hroom, hr]
           exact ⟨rfl, hst.plan, hst.down, setD_nodup h _ _ _, putF_sorted h.so _, rel_set h hf _ _⟩
theorem rel_sync (n tgt : ByteArray) (b : List UInt8) : (syncD D n).2 = (doF 3 F n tgt b).2 ∧ Rel (syncD D n).1 (doF 3 F n tgt b).1 := by
 have hs := h.same n
 have hst := h.step
 have hk := h.kill
 unfold syncD beginD doF
 rw [← h.down, ← h.plan]
 by_cases hd : D.down = true
 · simp [hd, h]
 · have hd' : D.down = false := by simpa using hd
   rw [hd'] at hst
   by_cases hp : D.plan = 1
   · simp [hd', hp, hk]
   · cases hn : namedB n with
     | false => simp [hd, hp, hn, hst]
     | true =>
       cases hf : findD F.files n with
       | none => rw [hf] at hs; simp [hd, hp, hn, hs, hf, hst]
       | some f =>
         rw [hf] at hs
         simp [hd, hp, hn, hs, hf]
         exact ⟨h.room, hst.plan, hst.down, setD_nodup h _ _ _, putF_sorted h.so _, rel_set h hf _ _⟩
theorem rel_remove (n tgt : ByteArray) (b : List UInt8) : (removeD D n).2 = (doF 5 F n tgt b).2 ∧ Rel (removeD D n).1 (doF 5 F n tgt b).1 := by
 have hs := h.same n
 have hst := h.step
 have hk := h.kill
 unfold removeD beginD doF
 rw [← h.down, ← h.plan]
 by_cases hd : D.down = true
 · simp [hd, h]
 · have hd' : D.down = false := by simpa using hd
   rw [hd'] at hst
   by_cases hp : D.plan = 1
   · simp [hd', hp, hk]
   · cases hn : namedB n with
     | false => simp [hd, hp, hn, hst]
     | true =>
       cases hf : findD F.files n with
       | none => rw [hf] at hs; simp [hd, hp, hn, hs, hf, hst]
       | some f =>
         rw [hf] at hs
         simp [hd, hp, hn, hs, hf]
         exact ⟨h.room, hst.plan, hst.down, ((dropD_sub _ _).map DF.name).nodup h.nd, outF_sorted h.so _, fun x => by
           show findD (dropD D.files n) x = findD (outF F.files n) x
           rw [findD_dropD, findD_outF, h.same]⟩
theorem rel_rename (n tgt : ByteArray) (b : List UInt8) : (renameD D n tgt).2 = (doF 4 F n tgt b).2 ∧ Rel (renameD D n tgt).1 (doF 4 F n tgt b).1 := by
 have hs := h.same n
 have hst := h.step
 have hk := h.kill
 unfold renameD beginD doF
 rw [← h.down, ← h.plan]
 by_cases hd : D.down = true
 · simp [hd, h]
 · have hd' : D.down = false := by simpa using hd
   rw [hd'] at hst
   by_cases hp : D.plan = 1
   · simp [hd', hp, hk]
   · cases hn : namedB n with
     | false => simp [hd, hp, hn, hst]
     | true =>
       cases hnt : namedB tgt with
       | false => simp [hd, hp, hn, hnt, hst]
       | true =>
         cases hf : findD F.files n with
         | none => rw [hf] at hs; simp [hd, hp, hn, hnt, hs, hf, hst]
         | some f =>
           rw [hf] at hs
           simp [hd, hp, hn, hnt, hs, hf]
           exact ⟨h.room, hst.plan, hst.down, by
             simp only [List.map_cons, List.nodup_cons]
             refine ⟨fun hm => ?_, ((dropD_sub _ _).trans (dropD_sub _ _) |>.map DF.name).nodup h.nd⟩
             obtain ⟨g, hg, he⟩ := List.mem_map.1 hm
             exact (dropD_mem.1 hg).2 he, putF_sorted (outF_sorted h.so _) _, fun x => by
             show findD (⟨tgt, f.b, f.d⟩ :: dropD (dropD D.files n) tgt) x = findD (putF (outF F.files n) ⟨tgt, f.b, f.d⟩) x
             rw [findD, findD_putF, findD_dropD, findD_dropD, findD_outF, h.same]
             by_cases hx : tgt = x
             · rw [if_pos hx, if_pos hx.symm]
             · have hx' : ¬ x = tgt := fun e => hx e.symm
               simp only [if_neg hx, if_neg hx']⟩
end
def cutF (f : DF) (k : Option Int) : DF := ⟨f.name, f.b.take (f.d + cutN f k), f.d + cutN f k⟩
def crashF (l : List DF) (ks : List Int) : List DF := l.mapIdx fun i f => cutF f ks[i]?
theorem crashR_f (R : List RF) (ks : List Int) : (crashR R ks).map RF.f = crashF (R.map RF.f) ks := by
 unfold crashR crashF
 apply List.ext_getElem
 · simp
 · intro i h1 h2
   simp [cutRF, cutF]
theorem crashF_names (l : List DF) (ks : List Int) : (crashF l ks).map DF.name = l.map DF.name := by
 apply List.ext_getElem
 · simp [crashF]
 · intro i h1 h2
   simp [crashF, cutF]
theorem findD_append (a b : List DF) (x : ByteArray) : findD (a ++ b) x = (findD a x).or (findD b x) := by
 induction a with
 | nil => simp [findD]
 | cons f a ih =>
   rw [List.cons_append, findD, findD]
   split
   · rfl
   · exact ih
theorem sorted_unique : ∀ (l1 l2 : List (List UInt8)), l1.Pairwise (· < ·) → l2.Pairwise (· < ·) → (∀ s, s ∈ l1 ↔ s ∈ l2) → l1 = l2
 | [], l2, _, _, h => (List.eq_nil_iff_forall_not_mem.2 (fun a ha => by have := (h a).2 ha; simp at this)).symm
 | a :: l1, [], _, _, h => by have := (h a).1 (by simp); simp at this
 | a :: l1, b :: l2, h1, h2, h => by
   obtain ⟨h3, h4⟩ := List.pairwise_cons.1 h1
   obtain ⟨h5, h6⟩ := List.pairwise_cons.1 h2
   have hab : a = b := by
     rcases List.mem_cons.1 ((h a).1 (by simp)) with e | e
     · exact e
     · rcases List.mem_cons.1 ((h b).2 (by simp)) with e2 | e2
       · exact e2.symm
       · exact absurd (List.lt_trans (h5 a e) (h3 b e2)) (List.lt_irrefl _)
   subst hab
   rw [sorted_unique l1 l2 h4 h6 (fun s => by
     constructor
     · intro hs
       rcases List.mem_cons.1 ((h s).1 (List.mem_cons_of_mem _ hs)) with e | e
       · subst e; exact absurd (h3 s hs) (List.lt_irrefl _)
       · exact e
     · intro hs
       rcases List.mem_cons.1 ((h s).2 (List.mem_cons_of_mem _ hs)) with e | e
       · subst e; exact absurd (h5 s hs) (List.lt_irrefl _)
       · exact e)]
theorem mk_toList (n : ByteArray) : (⟨n.toList.toArray⟩ : ByteArray) = n := by rw [ByteArray.toList_eq]
theorem toList_mk (l : List UInt8) : (⟨l.toArray⟩ : ByteArray).toList = l := by rw [ByteArray.toList_eq]
theorem rel_names {D F : DS} (h : Rel D F) {ss : List (List UInt8)} (h1 : ss.Pairwise (· < ·)) (h2 : ∀ s : List UInt8, s ∈ ss ↔ ⟨s.toArray⟩ ∈ D.files.map DF.name) : ss = F.files.map fun f => f.name.toList := by
 refine sorted_unique _ _ h1 (by rw [List.pairwise_map]; exact h.so) (fun s => ?_)
 rw [h2]
 constructor
 · intro hm
   obtain ⟨f, hf, he⟩ := List.mem_map.1 hm
   exact List.mem_map.2 ⟨f, (h.mem f).1 hf, by rw [he, toList_mk]⟩
 · intro hm
   obtain ⟨f, hf, he⟩ := List.mem_map.1 hm
   exact List.mem_map.2 ⟨f, (h.mem f).2 hf, by rw [← he, mk_toList]⟩
theorem crashN_head (D : DS) (ss : List (List UInt8)) (ks : List Int) : ∀ m, (crashN D ss ks m).room = D.room ∧ (crashN D ss ks m).plan = 0 ∧ (crashN D ss ks m).down = false
 | 0 => ⟨rfl, rfl, rfl⟩
 | m + 1 => by
   have ih := crashN_head D ss ks m
   rw [crashN]
   split
   · unfold crashStep
     split
     · exact ih
     · exact ih
   · exact ih
theorem findD_names {l : List DF} {x : ByteArray} (h : x ∉ l.map DF.name) : findD l x = none := findD_none.2 h
theorem crashN_find {D F : DS} (h : Rel D F) (ks : List Int) (x : ByteArray) : ∀ m, m ≤ F.files.length →
   findD (crashN D (F.files.map fun f => f.name.toList) ks m).files x = findD (crashF (F.files.take m) ks ++ F.files.drop m) x
 | 0, _ => by simp [crashN, crashF, h.same]
 | m + 1, hm => by
   have hlt : m < F.files.length := hm
   have ih := fun y => crashN_find h ks y m (Nat.le_of_succ_le hm)
   have hnd := sorted_nodup h.so
   obtain ⟨g, hg⟩ : ∃ g, g = F.files[m] := ⟨_, rfl⟩
   have hdrop : F.files.drop m = g :: F.files.drop (m + 1) := by rw [List.drop_eq_getElem_cons hlt, hg]
   have htake : crashF (F.files.take (m + 1)) ks = crashF (F.files.take m) ks ++ [cutF g ks[m]?] := by
     unfold crashF
     rw [List.take_succ_eq_append_getElem hlt, List.mapIdx_append, hg]
     congr 1
     simp [List.length_take, Nat.min_eq_left (Nat.le_of_lt hlt)]
   have hnA : findD (crashF (F.files.take m) ks) g.name = none := by
     refine findD_names ?_
     rw [crashF_names]
     intro hmem
     have h9 : (F.files.take m ++ F.files.drop m).map DF.name = F.files.map DF.name := by rw [List.take_append_drop]
     rw [← h9, List.map_append, List.nodup_append] at hnd
     exact hnd.2.2 _ hmem _ (by rw [hdrop]; simp) rfl
   have hfg : findD (crashN D (F.files.map fun f => f.name.toList) ks m).files g.name = some g := by
     rw [ih, findD_append, hnA, hdrop, findD, if_pos rfl]; rfl
   have hst : crashN D (F.files.map fun f => f.name.toList) ks (m + 1) = { crashN D (F.files.map fun f => f.name.toList) ks m with files := setD (crashN D (F.files.map fun f => f.name.toList) ks m).files g.name (g.b.take (g.d + cutN g ks[m]?)) (g.d + cutN g ks[m]?) } := by
     rw [crashN]
     have hget : (F.files.map fun f => f.name.toList)[m]? = some g.name.toList := by rw [List.getElem?_map, List.getElem?_eq_getElem hlt, hg]; rfl
     simp only [hget, crashStep, mk_toList, hfg]
   rw [hst]
   show findD (setD _ _ _ _) x = _
   rw [findD_setD, ih, htake, hdrop]
   by_cases hx : x = g.name
   · subst hx
     simp only [findD_append, hnA, findD, cutF, if_true, Option.none_or, Option.some_or, Option.map_some]
   · have hx' : ¬ g.name = x := fun e => hx e.symm
     have e1 : findD (crashF (F.files.take m) ks ++ g :: F.files.drop (m + 1)) x = findD (crashF (F.files.take m) ks ++ [cutF g ks[m]?] ++ F.files.drop (m + 1)) x := by
       simp only [findD_append, findD, cutF, if_neg hx', Option.or_none]
     rw [e1]
     cases hq : findD (crashF (F.files.take m) ks ++ [cutF g ks[m]?] ++ F.files.drop (m + 1)) x with
     | none => rfl
     | some f =>
       have := (findD_name hq).1
       simp only [Option.map_some]
       rw [if_neg (fun e => hx (by rw [← this, e]))]
theorem rel_crash {D F : DS} (h : Rel D F) {ss : List (List UInt8)} (h1 : ss.Pairwise (· < ·)) (h2 : ∀ s : List UInt8, s ∈ ss ↔ ⟨s.toArray⟩ ∈ D.files.map DF.name) (ks : List Int) :
   Rel (crashN D ss ks ss.length) ⟨F.room, crashF F.files ks, 0, false⟩ := by
 obtain rfl := rel_names h h1 h2
 have hh := crashN_head D (F.files.map fun f => f.name.toList) ks (F.files.map fun f => f.name.toList).length
 refine ⟨hh.1.trans h.room, hh.2.1, hh.2.2, by rw [crashN_names]; exact h.nd, ?_, fun x => ?_⟩
 · show (crashF F.files ks).Pairwise below
   have h9 : ((crashF F.files ks).map DF.name).Pairwise (fun a b => a.toList < b.toList) := by rw [crashF_names, List.pairwise_map]; exact h.so
   rw [List.pairwise_map] at h9
   exact h9
 · have := crashN_find h ks x F.files.length (Nat.le_refl _)
   rw [List.length_map, this, List.take_length, List.drop_length, List.append_nil]
theorem rel_read {D F : DS} (h : Rel D F) (n : ByteArray) : readD D n = readD F n := by
 unfold readD
 rw [h.down, h.same]
theorem rel_arm {D F : DS} (h : Rel D F) (n : Int) : Rel { D with plan := n } { F with plan := n } := ⟨h.room, rfl, h.down, h.nd, h.so, h.same⟩
theorem sumD_cons (f : DF) (l : List DF) : sumD (f :: l) = f.b.length + sumD l := rfl
theorem sum_setD {l : List DF} (hn : (l.map DF.name).Nodup) {n : ByteArray} {f : DF} (hf : findD l n = some f) (b : List UInt8) (d : Nat) : sumD (setD l n b d) + f.b.length = sumD l + b.length := by
 induction l with
 | nil => cases hf
 | cons a l ih =>
   rw [List.map_cons, List.nodup_cons] at hn
   rw [findD] at hf
   rw [setD]
   by_cases ha : a.name = n
   · rw [if_pos ha] at hf
     cases hf
     rw [if_pos ha, sumD_cons, sumD_cons]
     have hs : setD l n b d = l := by
       clear ih
       have hnot : n ∉ l.map DF.name := ha ▸ hn.1
       clear hn
       induction l with
       | nil => rfl
       | cons c l ih2 =>
         rw [List.map_cons, List.mem_cons, not_or] at hnot
         rw [setD, if_neg (fun e => hnot.1 e.symm), ih2 hnot.2]
     rw [hs]
     show b.length + sumD l + f.b.length = f.b.length + sumD l + b.length
     omega
   · rw [if_neg ha] at hf
     rw [if_neg ha, sumD_cons, sumD_cons]
     have := ih hn.2 hf
     omega
theorem sum_dropD (l : List DF) (n : ByteArray) : sumD (dropD l n) ≤ sumD l := by
 induction l with
 | nil => exact Nat.le_refl _
 | cons a l ih =>
   rw [dropD]
   split
   · rw [sumD_cons]; omega
   · rw [sumD_cons, sumD_cons]; omega
theorem sum_dropD_hit {l : List DF} {n : ByteArray} {f : DF} (hf : findD l n = some f) : sumD (dropD l n) + f.b.length ≤ sumD l := by
 induction l with
 | nil => cases hf
 | cons a l ih =>
   rw [findD] at hf
   rw [dropD]
   by_cases ha : a.name = n
   · rw [if_pos ha] at hf ⊢
     cases hf
     have := sum_dropD l n
     rw [sumD_cons]; omega
   · rw [if_neg ha] at hf ⊢
     have := ih hf
     rw [sumD_cons, sumD_cons]; omega
theorem len_setD (l : List DF) (n : ByteArray) (b : List UInt8) (d : Nat) : (setD l n b d).length = l.length := by
 have := congrArg List.length (setD_names l n b d)
 simpa using this
theorem len_dropD (l : List DF) (n : ByteArray) : (dropD l n).length ≤ l.length := (dropD_sub l n).length_le
structure Bnd (D : DS) (s n : Nat) : Prop where
 sum : sumD D.files ≤ s
 len : D.files.length ≤ n
 nm : ∀ f ∈ D.files, f.name.size ≤ 300
 nd : (D.files.map DF.name).Nodup
 plan : 0 ≤ D.plan ∧ D.plan ≤ 9223372036854775807
theorem nm_of_names {l l' : List DF} (h : l'.map DF.name = l.map DF.name) (hl : ∀ f ∈ l, f.name.size ≤ 300) : ∀ f ∈ l', f.name.size ≤ 300 := fun f hf => by
 have : f.name ∈ l.map DF.name := by rw [← h]; exact List.mem_map.2 ⟨f, hf, rfl⟩
 obtain ⟨g, hg, he⟩ := List.mem_map.1 this
 rw [← he]; exact hl g hg
theorem Bnd.more {D : DS} {s n s' n' : Nat} (h : Bnd D s n) (hs : s ≤ s') (hn : n ≤ n') : Bnd D s' n' := ⟨Nat.le_trans h.sum hs, Nat.le_trans h.len hn, h.nm, h.nd, h.plan⟩
theorem Bnd.begin {D : DS} {s n : Nat} (h : Bnd D s n) (ns : List ByteArray) (fr : Bool) : Bnd (beginD D ns fr).1 s n ∧ (beginD D ns fr).1.files = D.files := by
 unfold beginD
 split
 · exact ⟨h, rfl⟩
 · split
   · exact ⟨⟨h.sum, h.len, h.nm, h.nd, by show (0 : Int) ≤ 0 ∧ (0 : Int) ≤ 9223372036854775807; omega⟩, rfl⟩
   · have := h.plan
     exact ⟨⟨h.sum, h.len, h.nm, h.nd, by show 0 ≤ max (D.plan - 1) 0 ∧ max (D.plan - 1) 0 ≤ 9223372036854775807; omega⟩, rfl⟩
theorem begin_find {D D1 : DS} {n : ByteArray} {ns : List ByteArray} {fr : Bool} (h : beginD D (n :: ns) fr = (D1, none)) : (findD D1.files n).isSome = !fr := by
 have := beginD_none h
 obtain ⟨h1, h2, -⟩ := this
 rw [h1]; exact h2
theorem bnd_create {D : DS} {s n : Nat} (h : Bnd D s n) (nm : ByteArray) (hn : nm.size ≤ 300) : Bnd (createD D nm).1 s (n + 1) := by
 have hb := h.begin [nm] true
 unfold createD
 rcases hq : beginD D [nm] true with ⟨D1, o⟩
 rw [hq] at hb
 cases o with
 | some c => exact hb.1.more (Nat.le_refl _) (by omega)
 | none =>
   have hf := begin_find hq
   have hb1 := hb.1
   refine ⟨?_, ?_, ?_, ?_, hb1.plan⟩
   · show sumD (⟨nm, [], 0⟩ :: D1.files) ≤ s
     rw [sumD_cons]; have := hb1.sum; simpa using this
   · show (⟨nm, [], 0⟩ :: D1.files : List DF).length ≤ n + 1
     have := hb1.len; simpa using this
   · intro f hf
     rcases List.mem_cons.1 hf with rfl | hf
     · exact hn
     · exact hb1.nm f hf
   · show ((⟨nm, [], 0⟩ :: D1.files : List DF).map DF.name).Nodup
     rw [List.map_cons, List.nodup_cons]
     refine ⟨findD_none.1 ?_, hb1.nd⟩
     simpa using hf
theorem bnd_set {D : DS} {s n t : Nat} (h : Bnd D s n) {nm : ByteArray} {f : DF} (hf : findD D.files nm = some f) (b : List UInt8) (d : Nat) (hb : b.length ≤ f.b.length + t) : Bnd { D with files := setD D.files nm b d } (s + t) n := by
 have h1 := sum_setD h.nd hf b d
 have h2 := h.sum
 exact ⟨by show sumD (setD D.files nm b d) ≤ s + t; omega, by show (setD _ _ _ _).length ≤ n; rw [len_setD]; exact h.len, nm_of_names (setD_names _ _ _ _) h.nm, by show ((setD _ _ _ _).map DF.name).Nodup; rw [setD_names]; exact h.nd, h.plan⟩
theorem bnd_append {D : DS} {s n : Nat} (h : Bnd D s n) (nm : ByteArray) (b : List UInt8) : Bnd (appendD D nm b).1 (s + b.length) n := by
 have hb := h.begin [nm] false
 unfold appendD
 rcases hq : beginD D [nm] false with ⟨D1, o⟩
 rw [hq] at hb
 cases o with
 | some c => exact hb.1.more (by omega) (Nat.le_refl _)
 | none =>
   simp only
   split
   · exact hb.1.more (by omega) (Nat.le_refl _)
   · split
     · rename_i f hf
       exact bnd_set hb.1 hf _ _ (by rw [List.length_append]; omega)
     · exact hb.1.more (by omega) (Nat.le_refl _)
theorem bnd_sync {D : DS} {s n : Nat} (h : Bnd D s n) (nm : ByteArray) : Bnd (syncD D nm).1 s n := by
 have hb := h.begin [nm] false
 unfold syncD
 rcases hq : beginD D [nm] false with ⟨D1, o⟩
 rw [hq] at hb
 cases o with
 | some c => exact hb.1
 | none =>
   simp only
   split
   · rename_i f hf
     have := bnd_set (t := 0) hb.1 hf f.b f.b.length (by omega)
     simpa using this
   · exact hb.1
theorem bnd_drop {D : DS} {s n : Nat} (h : Bnd D s n) (nm : ByteArray) : Bnd { D with files := dropD D.files nm } s n :=
 ⟨Nat.le_trans (sum_dropD _ _) h.sum, Nat.le_trans (len_dropD _ _) h.len, fun f hf => h.nm f (dropD_mem.1 hf).1, ((dropD_sub _ _).map DF.name).nodup h.nd, h.plan⟩
theorem bnd_remove {D : DS} {s n : Nat} (h : Bnd D s n) (nm : ByteArray) : Bnd (removeD D nm).1 s n := by
 have hb := h.begin [nm] false
 unfold removeD
 rcases hq : beginD D [nm] false with ⟨D1, o⟩
 rw [hq] at hb
 cases o with
 | some c => exact hb.1
 | none => exact bnd_drop hb.1 nm
theorem bnd_rename {D : DS} {s n : Nat} (h : Bnd D s n) (nm tgt : ByteArray) (ht : tgt.size ≤ 300) : Bnd (renameD D nm tgt).1 s (n + 1) := by
 have hb := h.begin [nm, tgt] false
 unfold renameD
 rcases hq : beginD D [nm, tgt] false with ⟨D1, o⟩
 rw [hq] at hb
 cases o with
 | some c => exact hb.1.more (Nat.le_refl _) (by omega)
 | none =>
   simp only
   split
   · rename_i f hf
     have h1 := sum_dropD_hit hf
     have h2 := sum_dropD (dropD D1.files nm) tgt
     have h3 := hb.1.sum
     have h4 := len_dropD (dropD D1.files nm) tgt
     have h5 := len_dropD D1.files nm
     have h6 := hb.1.len
     refine ⟨?_, ?_, ?_, ?_, hb.1.plan⟩
     · show sumD (⟨tgt, f.b, f.d⟩ :: dropD (dropD D1.files nm) tgt) ≤ s
       rw [sumD_cons]
       show f.b.length + _ ≤ s
       simp only at h3
       omega
     · show (⟨tgt, f.b, f.d⟩ :: dropD (dropD D1.files nm) tgt : List DF).length ≤ n + 1
       rw [List.length_cons]
       simp only at h6
       omega
     · intro g hg
       rcases List.mem_cons.1 hg with rfl | hg
       · exact ht
       · exact hb.1.nm g (dropD_mem.1 (dropD_mem.1 hg).1).1
     · show ((⟨tgt, f.b, f.d⟩ :: dropD (dropD D1.files nm) tgt : List DF).map DF.name).Nodup
       rw [List.map_cons, List.nodup_cons]
       refine ⟨fun hm => ?_, ((dropD_sub _ _).trans (dropD_sub _ _) |>.map DF.name).nodup hb.1.nd⟩
       obtain ⟨g, hg, he⟩ := List.mem_map.1 hm
       exact (dropD_mem.1 hg).2 he
   · exact hb.1.more (Nat.le_refl _) (by omega)
theorem bnd_crash {D : DS} {s n : Nat} (h : Bnd D s n) (ss : List (List UInt8)) (ks : List Int) : ∀ m, Bnd (crashN D ss ks m) s n
 | 0 => ⟨h.sum, h.len, h.nm, h.nd, by show (0 : Int) ≤ 0 ∧ (0 : Int) ≤ 9223372036854775807; omega⟩
 | m + 1 => by
   have ih := bnd_crash h ss ks m
   rw [crashN]
   split
   · unfold crashStep
     split
     · rename_i f hf
       have := bnd_set (t := 0) ih hf (f.b.take (f.d + cutN f ks[m]?)) (f.d + cutN f ks[m]?) (by rw [List.length_take]; omega)
       simpa using this
     · exact ih
   · exact ih
set_option maxHeartbeats 1000000 in
theorem bequal_any (a1 a2 : Option Addr) (c1 c2 : Nat) (l1 l2 : List UInt8) (w : World) (h1 : Reads w (.slice a1 l1.length c1) l1.length 1 (byts l1)) (h2 : Reads w (.slice a2 l2.length c2) l2.length 1 (byts l2)) (hl : l1.length ≤ 100000) (hl2 : l2.length ≤ 100000) :
   Calls Tryz.prog 90 #[.slice a1 l1.length c1, .slice a2 l2.length c2] w fun e w' => e = .returned (.bool (decide (l1 = l2))) ∧ Below w.heap.size w w' := by
 by_cases hlen : l1.length = l2.length
 · have HC : Hid (∀ (j : Nat) (hj : j < l1.length), ∃ b o b' o', a1 = some ⟨b, o, none⟩ ∧ a2 = some ⟨b', o', none⟩ ∧ l1.length ≤ c1 ∧ l2.length ≤ c2 ∧ b < w.heap.size ∧ b' < w.heap.size ∧ w.cell? ⟨b, o + j, none⟩ = some (.int .u8 l1[j].toNat) ∧ w.cell? ⟨b', o' + j, none⟩ = some (.int .u8 (l2[j]'(by omega)).toNat)) := by
     intro j hj
     obtain ⟨b, o, c', hv, hle, hb, hc⟩ := h1.at (by omega)
     cases hv
     obtain ⟨b', o', c'', hv, hle', hb', hc'⟩ := h2.at (by omega)
     cases hv
     refine ⟨b, o, b', o', rfl, rfl, hle, hle', hb, hb', hc j _ ?_, hc' j _ ?_⟩
     · rw [byts, List.getElem?_map, List.getElem?_eq_getElem hj]; rfl
     · rw [byts, List.getElem?_map, List.getElem?_eq_getElem (show j < l2.length by omega)]; rfl
   have heq : ((l1.length : Int) != (l2.length : Int)) = false := by simp; omega
   clear h1 h2
   go_enter Tryz.func90, Tryz.ntmps90
   go_wp2_with fail
   go_loopw [13] (fun i w' => ∃ m : Nat, m ≤ l1.length ∧ i = .int .i64 m ∧ Hid (Below w.heap.size w w') ∧ Hid (∀ j (h1 : j < l1.length) (h2 : j < l2.length), j < m → l1[j] = l2[j])) (fun i _ => l1.length - (RowKit.intOf i).toNat)
   case atStart => exact ⟨0, by omega, rfl, Below.refl _ _, fun j _ _ h => by omega⟩
   case round =>
     obtain ⟨m, hm, rfl, HB, HLOW⟩ := hrel
     by_cases hlt : m < l1.length
     · obtain ⟨b, o, b', o', rfl, rfl, hle, hle', hb, hb', k1, k2⟩ := HC.out m hlt
       have hc1 := (HB.out.cell (p := ⟨b, o + m, none⟩) hb).trans k1
       have hc2 := (HB.out.cell (p := ⟨b', o' + m, none⟩) hb').trans k2
       clear k1 k2
       have hl2' : m < l2.length := by omega
       by_cases hq : l1[m] = l2[m]
       · have hb1 : (((l1[m].toNat : Nat) : Int) != ((l2[m].toNat : Nat) : Int)) = false := by rw [hq]; simp
         go_wp2_with fail
         go_quiet (fail)
         have HBN := Lib.hid (show Below w.heap.size w (wr.drewN nq) from ⟨HB.out.os, HB.out.tape, HB.out.output, HB.out.size, HB.out.block⟩)
         clear hc1 hc2 hb1 hb hb'
         go_wp2
         go_roundw
         case rel =>
           refine ⟨m + 1, by omega, by go_num, HBN, fun j h1 h2 h3 => ?_⟩
           rcases Nat.lt_or_ge j m with h4 | h4
           · exact HLOW.out j h1 h2 h4
           · have : j = m := by omega
             subst this; exact hq
         case measure => simp [RowKit.intOf]; omega
       · have hb1 : (((l1[m].toNat : Nat) : Int) != ((l2[m].toNat : Nat) : Int)) = true := by
           simp only [bne_iff_ne, ne_eq, Int.natCast_inj, UInt8.toNat_inj]; exact hq
         have HE : Hid (decide (l1 = l2) = false) := decide_eq_false (fun e => hq (by subst e; rfl))
         go_wp2_with fail
         go_quiet (fail)
         have HBN := Lib.hid (show Below w.heap.size w (wr.drewN nq) from ⟨HB.out.os, HB.out.tape, HB.out.output, HB.out.size, HB.out.block⟩)
         clear hc1 hc2 hb1 hb hb'
         go_wp2
         go_ret
         exact ⟨congrArg (fun b => Ending.returned (.bool b)) HE.out.symm, HBN.out⟩
     · obtain rfl : m = l1.length := by omega
       have HE : Hid (decide (l1 = l2) = true) := decide_eq_true (List.ext_getElem hlen (fun j h1 h2 => HLOW.out j h1 h2 h1))
       go_wp2
       go_ret
       exact ⟨congrArg (fun b => Ending.returned (.bool b)) HE.out.symm, HB.out⟩
 · have HN : Hid (decide (l1 = l2) = false) := decide_eq_false (fun e => hlen (by rw [e]))
   have hne : ((l1.length : Int) != (l2.length : Int)) = true := by simp; omega
   clear h1 h2
   rw [HN.out]
   go_enter Tryz.func90, Tryz.ntmps90
   go_wp2
   go_ret
   exact ⟨rfl, Below.refl _ _⟩
set_option maxHeartbeats 1000000 in
theorem grow0_any (n : Nat) (hn : n ≤ 1000000000) (w : World) : Calls Tryz.prog 174 #[.slice none 0 0, .int .i64 n] w fun e w' =>
   ∃ v, e = .returned v ∧ Row w' 5 1 v 0 [] (fun k => w.heap.size ≤ k) ∧ Below w.heap.size w w' := by
 obtain ⟨i0, hi0, hz0, hs0, hb0⟩ : ∃ i0, Tryz.prog.info? 5 = some i0 ∧ i0.zero = some (.int .u8 0) ∧ i0.size = 1 ∧ i0.bytes = 1 := by
   have h := elemU8.info
   cases hq : Tryz.prog.info? 5 with
   | none => rw [hq] at h; cases h
   | some i0 =>
     rw [hq] at h
     simp only [Option.map_some, Option.some.injEq, Prod.mk.injEq] at h
     exact ⟨i0, rfl, h⟩
 by_cases h0 : n = 0
 · subst h0
   go_enter Tryz.func174, Tryz.ntmps174
   go_wp2
   go_ret
   exact ⟨_, rfl, Row.nil _ _ _ _, Below.refl _ _⟩
 · have hrz : ∀ ty, (Builtin.append_ #[72, 3] ty #[.slice none 0 0, .int .i64 (n : Int)]).run Tryz.prog w =
     .ok (.slice (some ⟨w.heap.size, 0, none⟩) n (grownCap w n 0 5)) (w.drew.alloc (.cells (#[] ++ Builtin.zeroCells (Value.int .u8 0).cells n ++ Builtin.zeroCells (Value.int .u8 0).cells (grownCap w n 0 5 - n)) 5)) := fun ty => by
     have h := Lib.run_append_grow_zeros w 72 3 ty 5 i0 (.int .u8 0) .i64 .i64 Tryz.underlying72 Tryz.underlying3 hi0 hz0 none 0 0 [] (run_firstCells_none w.drew i0.size 0 0 0) n (by omega) (by omega) (by omega) (by omega)
       (by rw [hb0]; omega) (growslice_fits (by omega) (by rw [hb0]; omega))
     simpa using h
   have hGn : n ≤ grownCap w n 0 5 := grownCap_ge w _ _ _
   have hGm : grownCap w n 0 5 ≤ maxLen := grownCap_le_maxLen w n 0 5 (by unfold maxLen; omega)
   obtain ⟨G, hG⟩ : ∃ G, G = grownCap w n 0 5 := ⟨_, rfl⟩
   rw [← hG] at hrz hGn hGm
   have hG63 : G ≤ 9223372036854775807 := by unfold maxLen at hGm; omega
   have hHM := Lib.hid hGm
   clear hG hGm
   have HSZ : Hid ((#[] ++ Builtin.zeroCells (Value.int .u8 0).cells n ++ Builtin.zeroCells (Value.int .u8 0).cells (G - n)).size = G) := by
     have hz : ∀ k, (Builtin.zeroCells (Value.int .u8 0).cells k).size = k := fun k => by unfold Builtin.zeroCells; simp [show (Value.int .u8 0).cells.size = 1 from rfl]
     simp only [Array.size_append, hz]
     show 0 + n + (G - n) = G
     omega
   generalize (#[] ++ Builtin.zeroCells (Value.int .u8 0).cells n ++ Builtin.zeroCells (Value.int .u8 0).cells (G - n)) = cs at *
   go_enter Tryz.func174, Tryz.ntmps174
   go_wp2_with (at_builtin; refine Lib.wpList_append_run _ rfl _ _ _ _ rfl _ _ rfl rfl _ _ (hrz _) ?_)
   all_goals (go_ret; refine ⟨_, rfl, ⟨rfl, .inr ⟨w.heap.size, 0, G, cs, rfl, Nat.le_refl _, heap_alloc_new w.drew _, by omega, hHM.out, by rw [HSZ.out]; omega, by simp⟩⟩, ((Below.refl _ _).drew).alloc (Nat.le_refl _) _⟩)
def lens (ps : List (Option Addr × List UInt8 × Nat)) : Nat := (ps.map fun p => p.2.1.length).sum
def joined (ps : List (Option Addr × List UInt8 × Nat)) : List UInt8 := (ps.map fun p => p.2.1).flatten
theorem joined_length (ps : List (Option Addr × List UInt8 × Nat)) : (joined ps).length = lens ps := by
 unfold joined lens
 rw [List.length_flatten, List.map_map]; rfl
theorem lens_succ {ps : List (Option Addr × List UInt8 × Nat)} {m : Nat} (h : m < ps.length) : lens (ps.take (m + 1)) = lens (ps.take m) + ps[m].2.1.length := by
 unfold lens
 rw [List.take_succ_eq_append_getElem h, List.map_append, List.sum_append]; simp
theorem joined_succ {ps : List (Option Addr × List UInt8 × Nat)} {m : Nat} (h : m < ps.length) : joined (ps.take (m + 1)) = joined (ps.take m) ++ ps[m].2.1 := by
 unfold joined
 rw [List.take_succ_eq_append_getElem h, List.map_append, List.flatten_append]; simp
theorem lens_take (ps : List (Option Addr × List UInt8 × Nat)) (m : Nat) : lens (ps.take m) ≤ lens ps := by
 conv => rhs; rw [← List.take_append_drop m ps]
 unfold lens
 rw [List.map_append, List.sum_append]; omega
def partV (p : Option Addr × List UInt8 × Nat) : Value := .slice p.1 p.2.1.length p.2.2
set_option maxHeartbeats 1000000 in
theorem concat_any (pa : Option Addr) (pc : Nat) (ps : List (Option Addr × List UInt8 × Nat)) (w : World) (hr : Reads w (.slice pa ps.length pc) ps.length 1 (ps.map partV)) (hl : ps.length ≤ 100000)
   (he : ∀ p ∈ ps, Reads w (partV p) p.2.1.length 1 (byts p.2.1)) (hs : lens ps ≤ 1000000000) :
   Calls Tryz.prog 140 #[.slice pa ps.length pc] w fun e w' => ∃ a c, e = .returned (.slice a (joined ps).length c) ∧ Row w' 5 1 (.slice a (joined ps).length c) (joined ps).length (byts (joined ps)) (fun k => w.heap.size ≤ k) ∧ Below w.heap.size w w' := by
 have HC : Hid (∀ (j : Nat) (hj : j < ps.length), ∃ b o, pa = some ⟨b, o, none⟩ ∧ ps.length ≤ pc ∧ b < w.heap.size ∧ w.cell? ⟨b, o + j, none⟩ = some (partV ps[j])) := by
   intro j hj
   obtain ⟨b, o, c', hv, hle, hb, hc⟩ := hr.at (by omega)
   cases hv
   refine ⟨b, o, rfl, hle, hb, hc j _ ?_⟩
   rw [List.getElem?_map, List.getElem?_eq_getElem hj]; rfl
 have HE := Lib.hid he
 clear hr he
 go_enter Tryz.func140, Tryz.ntmps140
 go_wp2_with fail
 go_loopw [3, 11] (fun s i w' => ∃ m : Nat, m ≤ ps.length ∧ i = .int .i64 m ∧ s = .int .i64 (lens (ps.take m) : Nat) ∧ w' = w) (fun _ i _ => ps.length - (RowKit.intOf i).toNat)
 case atStart => exact ⟨0, by omega, by first | rfl | trivial, by first | rfl | trivial, by first | rfl | trivial⟩
 case round =>
   obtain ⟨m, hm, rfl, rfl, rfl⟩ := hrel
   have hlt2 := lens_take ps m
   by_cases hlt : m < ps.length
   · obtain ⟨b, o, rfl, hle, hb, hc⟩ := HC.out m hlt
     have hsu := lens_succ hlt
     have hls := lens_take ps (m + 1)
     unfold partV at hc
     go_wp2_with fail
     go_roundw
     case rel => exact ⟨m + 1, by omega, by go_num, by rw [hsu]; go_num, by first | rfl | trivial⟩
     case measure => simp [RowKit.intOf]; omega
   · obtain rfl : m = ps.length := by omega
     rw [List.take_length]
     clear hlt2
     go_wp2_with fail
     refine (grow0_any (lens ps) hs _).mono ?_
     rintro e w1 ⟨v, rfl, hrow, hb⟩
     have HROW := Lib.hid hrow
     have HB := Lib.hid hb
     clear hrow hb
     go_wp2_with fail
     go_loopw [6, 27] (fun v i w' => ∃ m : Nat, m ≤ ps.length ∧ i = .int .i64 m ∧ Hid (Row w' 5 1 v (lens (ps.take m)) (byts (joined (ps.take m))) (fun k => wr.heap.size ≤ k)) ∧ Hid (Below wr.heap.size wr w')) (fun _ i _ => ps.length - (RowKit.intOf i).toNat)
     case atStart => exact ⟨0, by omega, rfl, HROW, HB⟩
     case round =>
       obtain ⟨m, hm, rfl, HRW, HBW⟩ := hrel
       have HLN := Lib.hid (joined_length (ps.take m))
       have hlt2 := lens_take ps m
       by_cases hlt : m < ps.length
       · obtain ⟨b, o, rfl, hle, hb, hc⟩ := HC.out m hlt
         have HRP := Lib.hid ((HE.out ps[m] (List.getElem_mem hlt)).later HBW.out)
         have hsu := lens_succ hlt
         have hjs := joined_succ hlt
         have hls := lens_take ps (m + 1)
         have hc2 := (HBW.out.cell (p := ⟨b, o + m, none⟩) hb).trans hc
         unfold partV at hc2
         unfold partV at HRP
         clear hc
         go_wp2_with (refine wpList_row elemU8 rfl rfl (S := fun b => _ ≤ b) (n := lens (ps.take m)) (xs := byts (joined (ps.take m))) rfl HRW.out (m := ps[m].2.1.length) (news := byts ps[m].2.1) rfl HRP.out (byts_one _) (by unfold maxLen; omega) (by omega) ?_; intro v5 w5 hr5 hch5)
         go_roundw
         case rel =>
           have hsz := HBW.out.size
           refine ⟨m + 1, by omega, by go_num, ?_, HBW.out.trans (hch5.toBelow hsz (fun n hn h => by omega))⟩
           rw [Hid, hsu, hjs, byts_append]
           exact hr5.mono (fun k hk => by rcases hk with hk | hk; exact hk; omega)
         case measure => simp [RowKit.intOf]; omega
       · obtain rfl : m = ps.length := by omega
         rw [List.take_length] at HRW
         have HR2 := Lib.hid (joined_length ps)
         obtain ⟨-, a, c, hv, -⟩ := HRW.out.reads
         subst hv
         go_wp2
         go_ret
         rw [HR2.out]
         exact ⟨a, c, rfl, HRW.out, HBW.out⟩
end Go.Proofs.YtgdmdbdljmlkkaaGreatDoor
