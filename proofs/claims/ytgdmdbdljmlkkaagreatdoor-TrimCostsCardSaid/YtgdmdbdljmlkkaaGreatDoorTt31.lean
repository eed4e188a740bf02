/- Texts for trimTwice_holds, joined: TrimQ, TrimS. -/
import Derived.Test.YtgdmdbdljmlkkaaGreatDoorTt30
import Derived.Test.YtgdmdbdljmlkkaaGreatDoorTt21
set_option linter.unusedVariables false
set_option linter.unusedSimpArgs false
namespace Go.Proofs.YtgdmdbdljmlkkaaGreatDoor
open Go.RowKit
theorem emp_mark {P : List (List UInt8)} (h : ∀ r ∈ P, r ≠ []) : empAt 0 ([] :: P) ([] :: P).length = true := by
  unfold empAt
  rw [List.all_eq_true]
  intro j hj
  rw [List.mem_range] at hj
  cases j with
  | zero => exact decide_eq_true (.inr rfl)
  | succ j =>
    refine decide_eq_true (.inl ?_)
    rw [List.length_cons] at hj
    rw [List.getD_cons_succ]
    exact h _ (getD_mem (by omega))
theorem full_mark {P : List (List UInt8)} (h : ∀ r ∈ P, r ≠ []) : fullL ([] :: P) = P := by
  have e : fullL ([] :: P) = fullL P := by unfold fullL; rw [List.filter_cons_of_neg (by simp)]
  rw [e, fullL_id h]
theorem split_mark {P : List (List UInt8)} (h : ∀ r ∈ P, r ≠ [] ∧ r.length ≤ 1048576) : splitB (framesB ([] :: P)) = ([] :: P, (framesB ([] :: P)).length) :=
  split_full _ (fun r hr => by
    rcases List.mem_cons.1 hr with rfl | hr
    · exact Nat.zero_le _
    · exact (h r hr).2)
theorem marked_mark {P : List (List UInt8)} (h : ∀ r ∈ P, r ≠ [] ∧ r.length ≤ 1048576) : markedB (framesB ([] :: P)) = true := by
  rw [marked_split, split_mark h]; rfl
theorem restAt_of {g : Int → List UInt8} {R : List Int} {i : Nat} {b : List UInt8} (h1 : g (R.getD i 0) = b) (h2 : (splitB b).2 = b.length ∨ i + 1 = R.length) (h3 : empAt i (splitB b).1 (splitB b).1.length = true) : restAt g R i = true := by
  subst h1
  unfold restAt
  rw [h3, Bool.and_true]
  exact decide_eq_true h2
theorem find_last {g : Int → List UInt8} {L : List Int} {P : List (List UInt8)} (hL : L ≠ []) (hg : g (lastN L) = framesB ([] :: P)) (hP : ∀ r ∈ P, r ≠ [] ∧ r.length ≤ 1048576) :
    findG g L = ⟨0, L.take (L.length - 1), lastN L, P, framesB ([] :: P), 0⟩ := by
  have hsp := split_mark hP
  have hm := marked_mark hP
  have hpos := List.length_pos_iff.2 hL
  have hk : markK g L (L.length - 1) = L.length - 1 := by
    cases h : L.length - 1 with
    | zero => rfl
    | succ i =>
      have e : L.getD (i + 1) 0 = lastN L := by unfold lastN; rw [h]
      rw [markK, e, hg, hm, if_pos rfl]
  have hdrop : L.drop (L.length - 1) = [lastN L] := by
    rw [List.drop_eq_getElem_cons (by omega), List.drop_of_length_le (by omega)]
    congr 1
    unfold lastN
    rw [List.getD_eq_getElem?_getD, List.getElem?_eq_getElem (by omega)]; rfl
  have hch : chainUp [lastN L] 1 = true := rfl
  have hre : restUp g [lastN L] 1 = true := by
    unfold restUp
    rw [List.all_eq_true]
    intro i hi
    rw [List.mem_range] at hi
    obtain rfl : i = 0 := by omega
    exact restAt_of (b := framesB ([] :: P)) hg (.inr rfl) (by rw [hsp]; exact emp_mark (fun r hr => (hP r hr).1))
  have hrc : recsG g [lastN L] = P := by
    unfold recsG
    rw [List.flatMap_cons, List.flatMap_nil, List.append_nil, hg, hsp]
    exact full_mark (fun r hr => (hP r hr).1)
  unfold findG
  rw [if_neg hL, hk, hdrop, show L.length - (L.length - 1) = 1 by omega, hch, hre, Bool.and_self, if_pos rfl, hrc, hg, hsp]
  simp
theorem find_two {g : Int → List UInt8} {a : Int} {P : List (List UInt8)} {r : List UInt8} (h1 : g a = framesB ([] :: P)) (h2 : g (a + 1) = framesB [r]) (hP : ∀ r ∈ P, r ≠ [] ∧ r.length ≤ 1048576) (hr : r ≠ [] ∧ r.length ≤ 1048576) :
    findG g [a, a + 1] = ⟨0, [], a + 1, P ++ [r], framesB [r], 0⟩ := by
  have hsp := split_mark hP
  have hs2 : splitB (framesB [r]) = ([r], (framesB [r]).length) := split_full _ (fun x hx => by rw [List.mem_singleton.1 hx]; exact hr.2)
  have hm2 : markedB (framesB [r]) = false := marked_noneB (by rw [hs2]; intro x hx; rw [List.mem_singleton.1 hx]; exact hr.1)
  have hk : markK g [a, a + 1] 1 = 0 := by
    rw [markK]
    show (if markedB (g (a + 1)) = true then _ else _) = 0
    rw [h2, hm2, if_neg (by decide)]; rfl
  have hch : chainUp [a, a + 1] 2 = true := by
    unfold chainUp
    rw [List.all_eq_true]
    intro i hi
    rw [List.mem_range] at hi
    unfold chainAt
    have : i = 0 ∨ i = 1 := by omega
    rcases this with rfl | rfl
    · exact decide_eq_true (.inl rfl)
    · exact decide_eq_true (.inr rfl)
  have hre : restUp g [a, a + 1] 2 = true := by
    unfold restUp
    rw [List.all_eq_true]
    intro i hi
    rw [List.mem_range] at hi
    have : i = 0 ∨ i = 1 := by omega
    rcases this with rfl | rfl
    · exact restAt_of (b := framesB ([] :: P)) h1 (.inl (by rw [hsp])) (by rw [hsp]; exact emp_mark (fun r hr => (hP r hr).1))
    · exact restAt_of (b := framesB [r]) h2 (.inl (by rw [hs2])) (by rw [hs2]; exact empAt_id (fun x hx => by rw [List.mem_singleton.1 hx]; exact hr.1) 1)
  have hrc : recsG g [a, a + 1] = P ++ [r] := by
    unfold recsG
    rw [List.flatMap_cons, List.flatMap_cons, List.flatMap_nil, List.append_nil, h1, hsp, h2, hs2]
    rw [full_mark (fun r hr => (hP r hr).1), fullL_id (fun x hx => by rw [List.mem_singleton.1 hx]; exact hr.1)]
  unfold findG
  rw [if_neg (by simp), show [a, a + 1].length - 1 = 1 from rfl, hk, List.drop_zero, show [a, a + 1].length - 0 = 2 from rfl, hch, hre, Bool.and_self, if_pos rfl, hrc]
  show (⟨0, [], a + 1, P ++ [r], (g (a + 1)).take (splitB (g (a + 1))).2, (g (a + 1)).length - (splitB (g (a + 1))).2⟩ : FR) = _
  rw [h2, hs2]
  simp
theorem files_ext : ∀ {l1 l2 : List DF}, l1.Pairwise below → l2.Pairwise below → (∀ f, f ∈ l1 ↔ f ∈ l2) → l1 = l2
  | [], [], _, _, _ => rfl
  | [], b :: l2, _, _, h => absurd ((h b).2 (List.mem_cons_self ..)) (by simp)
  | a :: l1, [], _, _, h => absurd ((h a).1 (List.mem_cons_self ..)) (by simp)
  | a :: l1, b :: l2, h1, h2, h => by
    obtain ⟨p1, p2⟩ := List.pairwise_cons.1 h1
    obtain ⟨q1, q2⟩ := List.pairwise_cons.1 h2
    have hab : a = b := by
      rcases List.mem_cons.1 ((h a).1 (List.mem_cons_self ..)) with e | e
      · exact e
      · rcases List.mem_cons.1 ((h b).2 (List.mem_cons_self ..)) with e2 | e2
        · exact e2.symm
        · exact absurd (List.lt_trans (p1 b e2) (q1 a e)) (List.lt_irrefl _)
    subst hab
    congr 1
    refine files_ext p2 q2 fun f => ?_
    constructor
    · intro hf
      rcases List.mem_cons.1 ((h f).1 (List.mem_cons_of_mem _ hf)) with e | e
      · subst e; exact absurd (p1 f hf) (List.lt_irrefl _)
      · exact e
    · intro hf
      rcases List.mem_cons.1 ((h f).2 (List.mem_cons_of_mem _ hf)) with e | e
      · subst e; exact absurd (q1 f hf) (List.lt_irrefl _)
      · exact e
theorem files_find {l1 l2 : List DF} (h1 : l1.Pairwise below) (h2 : l2.Pairwise below) (h : ∀ x, findD l1 x = findD l2 x) : l1 = l2 :=
  files_ext h1 h2 fun f => by rw [mem_iff_findD (sorted_nodup h1), mem_iff_findD (sorted_nodup h2), h]
def OnlySegs (E : DS) (n : Int) : Prop := ∀ x, (fnd E x).isSome = true → ∃ m, x = nameI m ∧ 1 ≤ m ∧ m ≤ n
theorem comp_done {E : DS} {n : Int} (hn : 0 ≤ n ∧ n ≤ 99999) (ho : OnlySegs E n) (b : List UInt8) (h0 : (stepsG doR E (compRL E n b)).2 = 0) :
    ∀ x, fnd (stepsG doR E (compRL E n b)).1 x = if x = nameI (n + 1) then some ⟨nameI (n + 1), b, b.length⟩ else none := by
  obtain ⟨m, hm, e1, -, e3⟩ := steps_eff (compRL E n b) E
  have hml := e3 h0
  have hce := comp_eff E n b hn m
  rw [e1.symm] at hce
  rcases hce with ⟨hlt, -⟩ | ⟨j, h, hj⟩
  · omega
  intro x
  rw [h x]
  split
  · rfl
  · rename_i hx
    rw [hj hml]
    split
    · rfl
    · rename_i hx2
      cases hf : fnd E x with
      | none => rfl
      | some f =>
        exfalso
        obtain ⟨k, rfl, k1, k2⟩ := ho x (by rw [hf]; rfl)
        refine hx2 (.inr ?_)
        unfold olderL
        exact List.mem_map_of_mem (List.mem_filter.2 ⟨(mem_segs_fnd E k).2 ⟨k1, by omega, by rw [hf]; rfl⟩, decide_eq_true (by omega)⟩)
theorem comp_succ {E : DS} (hd : E.down = false) (hp : E.plan = 0) {n : Int} (hn : 0 ≤ n ∧ n ≤ 99999) (ho : OnlySegs E n) (b : List UInt8) (hr : (sumD E.files : Int) + b.length ≤ E.room) :
    (stepsG doR E (compRL E n b)).2 = 0 := by
  have hnew : fnd E newNm = none := by
    cases h : fnd E newNm with
    | none => rfl
    | some f =>
      obtain ⟨m, e, -⟩ := ho newNm (by rw [h]; rfl)
      exact absurd e.symm (nameI_cut m).2
  have hA : cleanL E [newNm] = [] := by
    rw [cleanL_filter, List.filter_cons_of_neg (by rw [hnew]; simp)]; rfl
  unfold compRL
  rw [hA, cleanL_older, List.nil_append]
  have hnm : namedB newNm = true := cut_named.2
  obtain ⟨a1, a2, a3⟩ := doR_succ (o := ⟨1, newNm, ⟨#[]⟩, []⟩) hd hp hnm (by intro h; simp at h) (fun _ => hnew) (by intro h; simp at h) (by intro h; simp at h)
  obtain ⟨-, -, a4⟩ := doR_eff E ⟨1, newNm, ⟨#[]⟩, []⟩
  have a6 := (doR_calm hd hp ⟨1, newNm, ⟨#[]⟩, []⟩).2.2
  obtain ⟨a4, a5⟩ := a4 a1
  have a5 := a5 (by simp) (by simp) (by simp)
  generalize hE1 : (doR E ⟨1, newNm, ⟨#[]⟩, []⟩).1 = E1 at *
  have a4 : ∀ x, fnd E1 x = if x = newNm then some ⟨newNm, [], 0⟩ else fnd E x := fun x => by rw [a4, eff_cre]
  have f1 : fnd E1 newNm = some ⟨newNm, [], 0⟩ := by rw [a4]; exact if_pos rfl
  obtain ⟨b1, b2, b3⟩ := doR_succ (o := ⟨2, newNm, ⟨#[]⟩, b⟩) a3 a2 hnm (by intro h; simp at h) (by intro h; simp at h) (fun _ => by rw [f1]; rfl) (fun _ => by show (sumD E1.files : Int) + b.length ≤ E1.room; omega)
  obtain ⟨-, -, b4⟩ := doR_eff E1 ⟨2, newNm, ⟨#[]⟩, b⟩
  have b4 := (b4 b1).1
  generalize hE2 : (doR E1 ⟨2, newNm, ⟨#[]⟩, b⟩).1 = E2 at *
  have b4 : ∀ x, fnd E2 x = if x = newNm then some ⟨newNm, [] ++ b, 0⟩ else fnd E1 x := fun x => by rw [b4, eff_app f1]
  have f2 : fnd E2 newNm = some ⟨newNm, [] ++ b, 0⟩ := by rw [b4]; exact if_pos rfl
  obtain ⟨c1, c2, c3⟩ := doR_succ (o := ⟨3, newNm, ⟨#[]⟩, []⟩) b3 b2 hnm (by intro h; simp at h) (by intro h; simp at h) (fun _ => by rw [f2]; rfl) (by intro h; simp at h)
  obtain ⟨-, -, c4⟩ := doR_eff E2 ⟨3, newNm, ⟨#[]⟩, []⟩
  have c4 := (c4 c1).1
  generalize hE3 : (doR E2 ⟨3, newNm, ⟨#[]⟩, []⟩).1 = E3 at *
  have c4 : ∀ x, fnd E3 x = if x = newNm then some ⟨newNm, [] ++ b, ([] ++ b).length⟩ else fnd E2 x := fun x => by rw [c4, eff_syn f2]
  have f3 : fnd E3 newNm = some ⟨newNm, [] ++ b, ([] ++ b).length⟩ := by rw [c4]; exact if_pos rfl
  obtain ⟨d1, d2, d3⟩ := doR_succ (o := ⟨4, newNm, nameI (n + 1), []⟩) c3 c2 hnm (fun _ => nameI_named2 ⟨by omega, by omega⟩) (by intro h; simp at h) (fun _ => by rw [f3]; rfl) (by intro h; simp at h)
  obtain ⟨-, -, d4⟩ := doR_eff E3 ⟨4, newNm, nameI (n + 1), []⟩
  have d4 := (d4 d1).1
  generalize hE4 : (doR E3 ⟨4, newNm, nameI (n + 1), []⟩).1 = E4 at *
  have d4 : ∀ x, fnd E4 x = if x = nameI (n + 1) then some ⟨nameI (n + 1), [] ++ b, ([] ++ b).length⟩ else if x = newNm then none else fnd E3 x := fun x => by rw [d4, eff_ren f3]
  rw [List.cons_append, step_succ a1, hE1, List.cons_append, step_succ b1, hE2, List.cons_append, step_succ c1, hE3, List.cons_append, step_succ d1, hE4, List.nil_append]
  refine (rm_all (olderL (segsD E) (n + 1)) d3 d2 ?_ (fun x hx => ?_)).1
  · unfold olderL
    rw [List.nodup_iff_pairwise_ne, List.pairwise_map]
    refine List.Pairwise.imp_of_mem (fun {x y} hx hy hxy e => ?_) (List.Pairwise.sublist List.filter_sublist (inc_segs E))
    have := nameI_inj (mem_segs (List.mem_filter.1 hx).1) (mem_segs (List.mem_filter.1 hy).1) e
    omega
  · obtain ⟨m, rfl, m1, m2, m3, m4⟩ := mem_older hx
    refine ⟨nameI_named2 ⟨m1, m2⟩, ?_⟩
    have hne : nameI m ≠ nameI (n + 1) := fun e => by have := nameI_inj ⟨m1, m2⟩ ⟨by omega, by omega⟩ e; omega
    have hc := (nameI_cut m).2
    rw [d4, if_neg hne, if_neg hc, c4, if_neg hc, b4, if_neg hc, a4, if_neg hc]
    exact m4
def segK (n : Nat) (P : List (List UInt8)) : Seg := ⟨n, [], [] :: P, 0⟩
theorem segK_files (n : Nat) (P : List (List UInt8)) : (segK n P).files = [⟨nameI ((n : Int) + 1), framesB ([] :: P), (framesB ([] :: P)).length⟩] := by
  unfold segK Seg.files Seg.last preF
  simp
theorem comp_files {E : DS} {n : Nat} (hn : n ≤ 99999) (ho : OnlySegs E n) {P : List (List UInt8)} {F : DS} (hF : F.files.Pairwise below) (hFE : fnd F = fnd (stepsG doR E (compRL E n (framesB ([] :: P)))).1) (h0 : (stepsG doR E (compRL E n (framesB ([] :: P)))).2 = 0) :
    F.files = (segK n P).files := by
  refine files_find hF (by rw [segK_files]; exact List.pairwise_singleton _ _) fun x => ?_
  show fnd F x = _
  rw [hFE, comp_done ⟨by omega, by omega⟩ ho _ h0 x, segK_files, findD, findD]
  by_cases h : x = nameI ((n : Int) + 1)
  · rw [if_pos h, if_pos h.symm]
  · rw [if_neg h, if_neg (fun e => h e.symm)]
theorem keeps_plain {D : DS} {room most : Int} {n : Nat} (hn : n ≤ 900) {P : List (List UInt8)} (hP : ∀ r ∈ P, r ≠ [] ∧ r.length ≤ 1048576) {r : List UInt8} (hr : r.length ≤ 2000) (h : Rel D (segD room (stepS most (segK n P) r).1)) :
    (findS D).code = 0 ∧ (findS D).recs = P ++ (if takes most r then [r] else []) := by
  rw [rel_find h]
  have hone : ∀ (s : Seg) (Q : List (List UInt8)), s.i0 = n → s.pre = [] → s.cur = [] :: Q → (∀ r ∈ Q, r ≠ [] ∧ r.length ≤ 1048576) → (findS (segD room s)).code = 0 ∧ (findS (segD room s)).recs = Q := fun s Q h0 h1 h2 hQ => by
    have e : findS (segD room s) = findG (contD (segD room s)) (segsD (segD room s)) := rfl
    have hs : segsD (segD room s) = [(n : Int) + 1] := by
      show refL (s.files.map DF.name) = _
      rw [seg_names, refL_names (by rw [h1, h0]; simp; omega), h1, h0]; rfl
    have hf := seg_find (s := s) (by rw [h1, h0]; simp; omega)
    have hc : contD (segD room s) ((n : Int) + 1) = framesB ([] :: Q) := by
      have := contD_some (D := segD room s) rfl (n := (s.i0 + s.pre.length + 1 : Nat)) hf
      rw [h0, h1] at this
      rw [← h2]
      exact this
    rw [e, hs, find_last (by simp) (by show contD (segD room s) ((n : Int) + 1) = _; exact hc) hQ]
    exact ⟨rfl, rfl⟩
  unfold stepS takes
  by_cases h1 : r = []
  · rw [if_pos h1, if_neg (by simp [h1]), List.append_nil]
    exact hone _ P rfl rfl rfl hP
  rw [if_neg h1]
  by_cases h2 : most < (r.length : Int) + 8
  · rw [if_pos h2, if_neg (by simp; omega), List.append_nil]
    exact hone _ P rfl rfl rfl hP
  have ht : decide (r ≠ [] ∧ (r.length : Int) + 8 ≤ most) = true := decide_eq_true ⟨h1, by omega⟩
  rw [if_neg h2, if_pos ht]
  by_cases h3 : (segK n P).cur ≠ [] ∧ most < ((framesB (segK n P).cur).length : Int) + (r.length + 8)
  · rw [if_pos h3]
    obtain ⟨s, hs⟩ : ∃ s : Seg, s = ⟨n, [[] :: P], [r], 1⟩ := ⟨_, rfl⟩
    show (findS (segD room ⟨n, [[] :: P], [r], 1⟩)).code = 0 ∧ (findS (segD room ⟨n, [[] :: P], [r], 1⟩)).recs = P ++ [r]
    rw [← hs]
    have e : findS (segD room s) = findG (contD (segD room s)) (segsD (segD room s)) := rfl
    have hsg : segsD (segD room s) = [(n : Int) + 1, (n : Int) + 1 + 1] := by
      show refL (s.files.map DF.name) = _
      rw [seg_names, refL_names (by rw [hs]; simp; omega), hs]; rfl
    have hc2 : contD (segD room s) ((n : Int) + 1 + 1) = framesB [r] := by
      have := contD_some (D := segD room s) rfl (n := (s.i0 + s.pre.length + 1 : Nat)) (seg_find (s := s) (by rw [hs]; simp; omega))
      rw [hs] at this ⊢
      exact this
    have hc1 : contD (segD room s) ((n : Int) + 1) = framesB ([] :: P) := by
      have hfd : fnd (segD room s) (nameI ((n : Int) + 1)) = some ⟨nameI ((n : Int) + 1), framesB ([] :: P), (framesB ([] :: P)).length⟩ := by
        rw [hs]
        show findD (preF n [[] :: P] ++ [_]) _ = _
        rw [preF, findD_append]
        simp [findD]
      exact contD_some (D := segD room s) rfl hfd
    rw [e, hsg, find_two hc1 hc2 hP ⟨h1, by omega⟩]
    exact ⟨rfl, rfl⟩
  · rw [if_neg h3]
    exact hone _ (P ++ [r]) rfl rfl rfl (fun x hx => by
      rcases List.mem_append.1 hx with hx | hx
      · exact hP x hx
      · rw [List.mem_singleton.1 hx]; exact ⟨h1, by omega⟩)
def putsG (O : DOps) (L : LS) (l : List (List UInt8)) : LS := l.foldl (fun L r => (putG O L r).1) L
theorem putsG_take {P : List SL} {k : Nat} (h : k < P.length) (O : DOps) (L : LS) : putsG O L ((P.take (k + 1)).map SL.l) = (putG O (putsG O L ((P.take k).map SL.l)) P[k].l).1 := by
  unfold putsG
  rw [List.take_succ_eq_append_getElem h, List.map_append, List.foldl_append]; rfl
theorem puts_seg {most room : Int} (P : List SL) (hP : P.length ≤ 60) (hs : sumL P ≤ 2000) (hr : ((sumL P + 8 * P.length : Nat) : Int) ≤ room) : ∀ k, k ≤ P.length → putsG opsF (segL room most seg0) ((P.take k).map SL.l) = segL room most (runS most seg0 ((P.take k).map SL.l)) := by
  intro k
  induction k with
  | zero => intro _; rfl
  | succ k ih =>
    intro hk
    have hlt : k < P.length := by omega
    have hi := runI_take most P (by omega) hs k (by omega)
    have h1 := sumL_at hlt
    have h2 := sumL_le P (k + 1)
    have h6 := sumL_take hlt
    have h3 := hi.len
    have h4 := hi.pre
    have h5 := hi.i0
    rw [putsG_take hlt, ih (by omega), runS_take hlt, put_seg hi.good (by omega) P[k].l (by omega) (by omega)]
theorem run_facts {most room : Int} {P : List SL} (hP : P.length ≤ 60) (hs : sumL P ≤ 2000) (wt0 : Bool) :
    ∃ s : Seg, s = (if wt0 then { runS most seg0 (P.map SL.l) with wt := 0 } else runS most seg0 (P.map SL.l)) ∧ s.good most ∧ s.i0 = 0 ∧ s.pre.length ≤ 60 ∧ (framesB s.all).length ≤ sumL P + 8 * P.length ∧
      OnlySegs (segD room s) ((s.i0 + s.pre.length + 1 : Nat) : Int) ∧ (∀ m ∈ segsD (segD room s), m ≤ ((s.i0 + s.pre.length + 1 : Nat) : Int)) := by
  have hi := runI_take most P (by omega) hs P.length (Nat.le_refl _)
  rw [List.take_length] at hi
  obtain ⟨s, hsd⟩ : ∃ s : Seg, s = (if wt0 then { runS most seg0 (P.map SL.l) with wt := 0 } else runS most seg0 (P.map SL.l)) := ⟨_, rfl⟩
  have hi2 : RunI most s P.length (sumL P) := by
    rw [hsd]; split
    · exact hi.synced
    · exact hi
  have h3 := hi2.len
  have h4 := hi2.pre
  have h5 := hi2.i0
  have hnames : s.files.map DF.name = namesN 0 (s.pre.length + 1) := by rw [seg_names, h5]
  refine ⟨s, hsd, hi2.good, h5, by omega, by omega, fun x hx => ?_, fun m hm => ?_⟩
  · cases hf : fnd (segD room s) x with
    | none => rw [hf] at hx; cases hx
    | some f =>
      obtain ⟨h6, h7⟩ := findD_name hf
      have h8 : x ∈ namesN 0 (s.pre.length + 1) := by rw [← hnames, ← h6]; exact List.mem_map_of_mem h7
      obtain ⟨k, hk, rfl⟩ := List.mem_map.1 h8
      rw [List.mem_range] at hk
      exact ⟨_, rfl, by omega, by omega⟩
  · have e : segsD (segD room s) = upto 0 (s.pre.length + 1) := by
      show refL (s.files.map DF.name) = _
      rw [hnames, refL_names (by omega)]
    rw [e] at hm
    obtain ⟨k, hk, rfl⟩ := List.mem_map.1 hm
    rw [List.mem_range] at hk
    omega
theorem steps_calm (l : List OP) : ∀ {E : DS}, E.down = false → E.plan = 0 → (stepsG doR E l).1.down = false ∧ (stepsG doR E l).1.plan = 0 ∧ (stepsG doR E l).1.room = E.room := by
  induction l with
  | nil => intro E h1 h2; exact ⟨h1, h2, rfl⟩
  | cons o l ih =>
    intro E h1 h2
    obtain ⟨a1, a2, a3⟩ := doR_calm h1 h2 o
    rw [stepsG]
    unfold seqG
    split
    · exact ⟨a1, a2, a3⟩
    · obtain ⟨b1, b2, b3⟩ := ih a1 a2
      exact ⟨b1, b2, b3.trans a3⟩
theorem comp_seg {L M : LS} {room most : Int} {s : Seg} (h : RelL L M) (hM : M = segL room most s) (hnum : s.i0 + s.pre.length + 1 ≤ 1000) (ho : OnlySegs (segD room s) ((s.i0 + s.pre.length + 1 : Nat) : Int)) (P : List (List UInt8)) (hroom : ((framesB s.all).length : Int) + (framesB ([] :: P)).length ≤ room) :
    (compK doP (framesB ([] :: P)) (L.n + 1) 0 L.D).2 = 0 ∧ Rel (compK doP (framesB ([] :: P)) (L.n + 1) 0 L.D).1 (segD room (segK (s.i0 + s.pre.length + 1) P)) ∧
      ∀ most' : Int, compR M most' true (framesB ([] :: P)) = (segL room most' (segK (s.i0 + s.pre.length + 1) P), 0) := by
  have hn : M.n = ((s.i0 + s.pre.length + 1 : Nat) : Int) := by rw [hM]; rfl
  have hD : M.D = segD room s := by rw [hM]; rfl
  obtain ⟨c1, c2⟩ := comp_rel h (by rw [hD]; rfl) (by rw [hn]; omega) (framesB ([] :: P))
  have hs : (stepsG doR M.D (compRL M.D M.n (framesB ([] :: P)))).2 = 0 := by
    rw [hD, hn]
    exact comp_succ rfl rfl (by omega) ho _ (by show (sumD s.files : Int) + _ ≤ room; rw [seg_sum]; exact hroom)
  obtain ⟨f1, f2, f3⟩ := steps_calm (compRL M.D M.n (framesB ([] :: P))) (E := M.D) (by rw [hD]; rfl) (by rw [hD]; rfl)
  have hf : (stepsG doR M.D (compRL M.D M.n (framesB ([] :: P)))).1.files = (segK (s.i0 + s.pre.length + 1) P).files := by
    refine comp_files (E := segD room s) (by omega) ho c2.so ?_ ?_
    · rw [hD, hn]
    · rw [hD, hn] at hs; exact hs
  have hF : (stepsG doR M.D (compRL M.D M.n (framesB ([] :: P)))).1 = segD room (segK (s.i0 + s.pre.length + 1) P) := by
    have h3 : (stepsG doR M.D (compRL M.D M.n (framesB ([] :: P)))).1.room = room := by rw [f3, hD]; rfl
    generalize (stepsG doR M.D (compRL M.D M.n (framesB ([] :: P)))).1 = F at *
    obtain ⟨r1, r2, r3, r4⟩ := F
    simp only at f1 f2 hf h3
    subst f1 f2 hf h3
    rfl
  rw [hF] at c2
  refine ⟨c1.trans hs, c2, fun most' => ?_⟩
  unfold compR
  rw [if_neg (by decide), if_pos hs, hF, hn]
  rfl
theorem comp_bnd {D : DS} {b : List UInt8} {n : Int} {s q : Nat} (h : Bnd D s q) : Bnd (compK doP b n 0 D).1 (s + b.length) (q + 6) := by
  have key : ∀ j, j ≤ 6 → ∀ {D : DS} {s q : Nat}, Bnd D s q → Bnd (compK doP b n (6 - j) D).1 (s + (if 4 ≤ j then b.length else 0)) (q + j) := by
    intro j
    induction j with
    | zero => intro _ D s q h; simpa [compK] using h
    | succ j ih =>
      intro hj D s q h
      rw [compK_step b n (by omega) D]
      have h1 := bnd_stepK (b := b) (next := n) (k := 6 - (j + 1)) h
      unfold seqG
      split
      · exact h1.more (by split <;> split <;> omega) (by omega)
      · have h2 := ih (by omega) h1
        rw [show 6 - (j + 1) + 1 = 6 - j by omega]
        refine h2.more ?_ (by omega)
        split <;> split <;> split <;> omega
  have := key 6 (Nat.le_refl _) h
  simpa using this
end Go.Proofs.YtgdmdbdljmlkkaaGreatDoor
