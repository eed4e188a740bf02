/- A disk and the disk of the reference: crashes and reads; no program in sight. -/
import Derived.Test.YtjhhmljebflanaaDoorRel
namespace Go.Proofs.YtjhhmljebflanaaDoor
set_option linter.unusedVariables false
set_option linter.unusedSimpArgs false
open Go.RowKit

def cutF (f : DF) (k : Option Int) : DF := ⟨f.name, f.b.take (f.d + cutN f k), f.d + cutN f k⟩
def crashF (l : List DF) (ks : List Int) : List DF := l.mapIdx fun i f => cutF f ks[i]?
theorem crashR_f (R : List RF) (ks : List Int) : (crashR R ks).map RF.f = crashF (R.map RF.f) ks := by
  unfold crashR crashF
  apply List.ext_getElem
  · simp
  · intro i h1 h2
    simp [cutRF, cutF]
theorem crashF_names (l : List DF) (ks : List Int) : (crashF l ks).map DF.name = l.map DF.name := by
  apply List.ext_getElem
  · simp [crashF]
  · intro i h1 h2
    simp [crashF, cutF]

theorem findD_append (a b : List DF) (x : ByteArray) : findD (a ++ b) x = (findD a x).or (findD b x) := by
  induction a with
  | nil => simp [findD]
  | cons f a ih =>
    rw [List.cons_append, findD, findD]
    split
    · rfl
    · exact ih
theorem sorted_unique : ∀ (l1 l2 : List (List UInt8)), l1.Pairwise (· < ·) → l2.Pairwise (· < ·) → (∀ s, s ∈ l1 ↔ s ∈ l2) → l1 = l2
  | [], l2, _, _, h => (List.eq_nil_iff_forall_not_mem.2 (fun a ha => by have := (h a).2 ha; simp at this)).symm
  | a :: l1, [], _, _, h => by have := (h a).1 (by simp); simp at this
  | a :: l1, b :: l2, h1, h2, h => by
    obtain ⟨h3, h4⟩ := List.pairwise_cons.1 h1
    obtain ⟨h5, h6⟩ := List.pairwise_cons.1 h2
    have hab : a = b := by
      rcases List.mem_cons.1 ((h a).1 (by simp)) with e | e
      · exact e
      · rcases List.mem_cons.1 ((h b).2 (by simp)) with e2 | e2
        · exact e2.symm
        · exact absurd (List.lt_trans (h5 a e) (h3 b e2)) (List.lt_irrefl _)
    subst hab
    rw [sorted_unique l1 l2 h4 h6 (fun s => by
      constructor
      · intro hs
        rcases List.mem_cons.1 ((h s).1 (List.mem_cons_of_mem _ hs)) with e | e
        · subst e; exact absurd (h3 s hs) (List.lt_irrefl _)
        · exact e
      · intro hs
        rcases List.mem_cons.1 ((h s).2 (List.mem_cons_of_mem _ hs)) with e | e
        · subst e; exact absurd (h5 s hs) (List.lt_irrefl _)
        · exact e)]
theorem mk_toList (n : ByteArray) : (⟨n.toList.toArray⟩ : ByteArray) = n := by rw [ByteArray.toList_eq]
theorem toList_mk (l : List UInt8) : (⟨l.toArray⟩ : ByteArray).toList = l := by rw [ByteArray.toList_eq]

/-- The sorted names of a disk are those of the reference, in order. -/
theorem rel_names {D F : DS} (h : Rel D F) {ss : List (List UInt8)} (h1 : ss.Pairwise (· < ·)) (h2 : ∀ s : List UInt8, s ∈ ss ↔ ⟨s.toArray⟩ ∈ D.files.map DF.name) : ss = F.files.map fun f => f.name.toList := by
  refine sorted_unique _ _ h1 (by rw [List.pairwise_map]; exact h.so) (fun s => ?_)
  rw [h2]
  constructor
  · intro hm
    obtain ⟨f, hf, he⟩ := List.mem_map.1 hm
    exact List.mem_map.2 ⟨f, (h.mem f).1 hf, by rw [he, toList_mk]⟩
  · intro hm
    obtain ⟨f, hf, he⟩ := List.mem_map.1 hm
    exact List.mem_map.2 ⟨f, (h.mem f).2 hf, by rw [← he, mk_toList]⟩

theorem crashN_head (D : DS) (ss : List (List UInt8)) (ks : List Int) : ∀ m, (crashN D ss ks m).room = D.room ∧ (crashN D ss ks m).plan = 0 ∧ (crashN D ss ks m).down = false
  | 0 => ⟨rfl, rfl, rfl⟩
  | m + 1 => by
    have ih := crashN_head D ss ks m
    rw [crashN]
    split
    · unfold crashStep
      split
      · exact ih
      · exact ih
    · exact ih

theorem findD_names {l : List DF} {x : ByteArray} (h : x ∉ l.map DF.name) : findD l x = none := findD_none.2 h

theorem crashN_find {D F : DS} (h : Rel D F) (ks : List Int) (x : ByteArray) : ∀ m, m ≤ F.files.length →
    findD (crashN D (F.files.map fun f => f.name.toList) ks m).files x = findD (crashF (F.files.take m) ks ++ F.files.drop m) x
  | 0, _ => by simp [crashN, crashF, h.same]
  | m + 1, hm => by
    have hlt : m < F.files.length := hm
    have ih := fun y => crashN_find h ks y m (Nat.le_of_succ_le hm)
    have hnd := sorted_nodup h.so
    obtain ⟨g, hg⟩ : ∃ g, g = F.files[m] := ⟨_, rfl⟩
    have hdrop : F.files.drop m = g :: F.files.drop (m + 1) := by rw [List.drop_eq_getElem_cons hlt, hg]
    have htake : crashF (F.files.take (m + 1)) ks = crashF (F.files.take m) ks ++ [cutF g ks[m]?] := by
      unfold crashF
      rw [List.take_succ_eq_append_getElem hlt, List.mapIdx_append, hg]
      congr 1
      simp [List.length_take, Nat.min_eq_left (Nat.le_of_lt hlt)]
    have hnA : findD (crashF (F.files.take m) ks) g.name = none := by
      refine findD_names ?_
      rw [crashF_names]
      intro hmem
      have h9 : (F.files.take m ++ F.files.drop m).map DF.name = F.files.map DF.name := by rw [List.take_append_drop]
      rw [← h9, List.map_append, List.nodup_append] at hnd
      exact hnd.2.2 _ hmem _ (by rw [hdrop]; simp) rfl
    have hfg : findD (crashN D (F.files.map fun f => f.name.toList) ks m).files g.name = some g := by
      rw [ih, findD_append, hnA, hdrop, findD, if_pos rfl]; rfl
    have hst : crashN D (F.files.map fun f => f.name.toList) ks (m + 1) = { crashN D (F.files.map fun f => f.name.toList) ks m with files := setD (crashN D (F.files.map fun f => f.name.toList) ks m).files g.name (g.b.take (g.d + cutN g ks[m]?)) (g.d + cutN g ks[m]?) } := by
      rw [crashN]
      have hget : (F.files.map fun f => f.name.toList)[m]? = some g.name.toList := by rw [List.getElem?_map, List.getElem?_eq_getElem hlt, hg]; rfl
      simp only [hget, crashStep, mk_toList, hfg]
    rw [hst]
    show findD (setD _ _ _ _) x = _
    rw [findD_setD, ih, htake, hdrop]
    by_cases hx : x = g.name
    · subst hx
      simp only [findD_append, hnA, findD, cutF, if_true, Option.none_or, Option.some_or, Option.map_some]
    · have hx' : ¬ g.name = x := fun e => hx e.symm
      have e1 : findD (crashF (F.files.take m) ks ++ g :: F.files.drop (m + 1)) x = findD (crashF (F.files.take m) ks ++ [cutF g ks[m]?] ++ F.files.drop (m + 1)) x := by
        simp only [findD_append, findD, cutF, if_neg hx', Option.or_none]
      rw [e1]
      cases hq : findD (crashF (F.files.take m) ks ++ [cutF g ks[m]?] ++ F.files.drop (m + 1)) x with
      | none => rfl
      | some f =>
        have := (findD_name hq).1
        simp only [Option.map_some]
        rw [if_neg (fun e => hx (by rw [← this, e]))]

theorem rel_crash {D F : DS} (h : Rel D F) {ss : List (List UInt8)} (h1 : ss.Pairwise (· < ·)) (h2 : ∀ s : List UInt8, s ∈ ss ↔ ⟨s.toArray⟩ ∈ D.files.map DF.name) (ks : List Int) :
    Rel (crashN D ss ks ss.length) ⟨F.room, crashF F.files ks, 0, false⟩ := by
  obtain rfl := rel_names h h1 h2
  have hh := crashN_head D (F.files.map fun f => f.name.toList) ks (F.files.map fun f => f.name.toList).length
  refine ⟨hh.1.trans h.room, hh.2.1, hh.2.2, by rw [crashN_names]; exact h.nd, ?_, fun x => ?_⟩
  · show (crashF F.files ks).Pairwise below
    have h9 : ((crashF F.files ks).map DF.name).Pairwise (fun a b => a.toList < b.toList) := by rw [crashF_names, List.pairwise_map]; exact h.so
    rw [List.pairwise_map] at h9
    exact h9
  · have := crashN_find h ks x F.files.length (Nat.le_refl _)
    rw [List.length_map, this, List.take_length, List.drop_length, List.append_nil]
theorem rel_read {D F : DS} (h : Rel D F) (n : ByteArray) : readD D n = readD F n := by
  unfold readD
  rw [h.down, h.same]
theorem rel_arm {D F : DS} (h : Rel D F) (n : Int) : Rel { D with plan := n } { F with plan := n } := ⟨h.room, rfl, h.down, h.nd, h.so, h.same⟩
end Go.Proofs.YtjhhmljebflanaaDoor
