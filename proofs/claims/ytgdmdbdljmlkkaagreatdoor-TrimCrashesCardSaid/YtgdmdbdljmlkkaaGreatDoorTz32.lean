/- TrimP, TrimQ, TrimS -/
import Derived.Test.YtgdmdbdljmlkkaaGreatDoorTz31
set_option linter.unusedVariables false
set_option linter.unusedSimpArgs false
namespace Go.Proofs.YtgdmdbdljmlkkaaGreatDoor
open Go.RowKit
def compRL (D : DS) (n : Int) (b : List UInt8) : List OP := cleanL D [newNm] ++ [⟨1, newNm, ⟨#[]⟩, []⟩, ⟨2, newNm, ⟨#[]⟩, b⟩, ⟨3, newNm, ⟨#[]⟩, []⟩, ⟨4, newNm, nameI (n + 1), []⟩] ++ cleanL D (olderL (segsD D) (n + 1))
def compR (M : LS) (most : Int) (ok : Bool) (b : List UInt8) : LS × Int :=
 if ok = false then (M, 2)
 else if (stepsG doR M.D (compRL M.D M.n b)).2 = 0 then (⟨M.n + 1, b.length, 0, most, (stepsG doR M.D (compRL M.D M.n b)).1⟩, 0)
 else (⟨M.n, M.size, M.waiting, M.most, (stepsG doR M.D (compRL M.D M.n b)).1⟩, (stepsG doR M.D (compRL M.D M.n b)).2)
theorem seqG_pure (D : DS) (k : DS → DS × Int) : seqG (D, 0) k = k D := by simp [seqG]
theorem seqG_congr {r : DS × Int} {k k' : DS → DS × Int} (h : r.2 = 0 → k r.1 = k' r.1) : seqG r k = seqG r k' := by
 unfold seqG
 by_cases h0 : r.2 = 0
 · rw [if_neg (by rw [h0]; decide), if_neg (by rw [h0]; decide)]; exact h h0
 · rw [if_pos h0, if_pos h0]
theorem cleanG_steps (D : DS) : cleanG doR D newNm = stepsG doR D (cleanL D [newNm]) := by
 unfold cleanG cleanL
 by_cases h : (findD D.files newNm).isSome = true
 · rw [if_pos h, List.filter_cons_of_pos (by simpa using h)]
   exact (steps_one _ _ _).symm
 · rw [if_neg h, List.filter_cons_of_neg (by simpa using h)]
   rfl
theorem olderL_fnd {D E : DS} {n : Int} (h : ∀ m, m < n → 1 ≤ m → m ≤ 99999999 → fnd E (nameI m) = fnd D (nameI m)) : olderL (segsD E) n = olderL (segsD D) n := by
 unfold olderL
 congr 1
 refine inc_ext (List.Pairwise.sublist List.filter_sublist (inc_segs E)) (List.Pairwise.sublist List.filter_sublist (inc_segs D)) (fun m => ?_)
 rw [List.mem_filter, List.mem_filter, mem_segs_fnd, mem_segs_fnd]
 constructor
 · rintro ⟨⟨h1, h2, h3⟩, h4⟩
   exact ⟨⟨h1, h2, by rw [← h m (of_decide_eq_true h4) h1 h2]; exact h3⟩, h4⟩
 · rintro ⟨⟨h1, h2, h3⟩, h4⟩
   exact ⟨⟨h1, h2, by rw [h m (of_decide_eq_true h4) h1 h2]; exact h3⟩, h4⟩
theorem mem_older {D : DS} {n : Int} {x : ByteArray} (h : x ∈ olderL (segsD D) n) : ∃ m, x = nameI m ∧ 1 ≤ m ∧ m ≤ 99999999 ∧ m < n ∧ (fnd D x).isSome = true := by
 unfold olderL at h
 obtain ⟨m, hm, rfl⟩ := List.mem_map.1 h
 obtain ⟨h1, h2⟩ := List.mem_filter.1 hm
 obtain ⟨h3, h4, h5⟩ := (mem_segs_fnd D m).1 h1
 exact ⟨m, rfl, h3, h4, of_decide_eq_true h2, h5⟩
theorem cleanL_older (D : DS) (n : Int) : cleanL D (olderL (segsD D) n) = (olderL (segsD D) n).map rmO := by
 rw [cleanL_filter, List.filter_eq_self.2]
 intro x hx
 obtain ⟨m, -, -, -, -, h⟩ := mem_older hx
 exact h
theorem comp_steps {D : DS} (hd : D.down = false) (b : List UInt8) (n : Int) (hn : 0 ≤ n ∧ n ≤ 99999) : compK doR b (n + 1) 0 D = stepsG doR D (compRL D n b) := by
 have e0 : compK doR b (n + 1) 0 D = seqG (cleanG doR D newNm) fun D1 => seqG (stepsG doR D1 [⟨1, newNm, ⟨#[]⟩, []⟩, ⟨2, newNm, ⟨#[]⟩, b⟩, ⟨3, newNm, ⟨#[]⟩, []⟩, ⟨4, newNm, nameI (n + 1), []⟩]) fun D2 => stepsG doR D2 ((olderL (segsD D2) (n + 1)).map rmO) := by
   unfold compK
   refine seqG_congr fun _ => ?_
   simp only [stepsG, seqG_assoc, seqG_pure, seqG_ret]
 rw [e0, cleanG_steps]
 unfold compRL
 rw [stepsG_append, stepsG_append, seqG_assoc, cleanL_older]
 refine seqG_congr fun h1 => seqG_congr fun h2 => ?_
 obtain ⟨d1, f1⟩ := steps_ok _ hd h1
 obtain ⟨d2, f2⟩ := steps_ok _ d1 h2
 congr 2
 refine olderL_fnd fun m hm m1 m2 => ?_
 refine (f2 (nameI m) (fun o ho => ?_)).trans (f1 (nameI m) (fun o ho => ?_))
 · have hc := (nameI_cut m).2
   have hne : nameI m ≠ nameI (n + 1) := fun e => by have := nameI_inj ⟨m1, m2⟩ ⟨by omega, by omega⟩ e; omega
   simp only [List.mem_cons, List.not_mem_nil, or_false] at ho
   rcases ho with rfl | rfl | rfl | rfl <;> exact ⟨hc, fun _ => by first | exact hne | simp_all⟩
 · have hc := (nameI_cut m).2
   rw [cleanL_filter] at ho
   obtain ⟨x, hx, rfl⟩ := List.mem_map.1 ho
   have := (List.mem_filter.1 hx).1
   rw [List.mem_singleton] at this
   subst this
   exact ⟨hc, fun h => by simp at h⟩
theorem rel_compK {D F : DS} (h : Rel D F) (b : List UInt8) (n : Int) : (compK doP b n 0 D).2 = (compK doR b n 0 F).2 ∧ Rel (compK doP b n 0 D).1 (compK doR b n 0 F).1 := by
 have h0 : (cleanG doP D newNm).2 = (cleanG doR F newNm).2 ∧ Rel (cleanG doP D newNm).1 (cleanG doR F newNm).1 := by
   unfold cleanG
   rw [h.same]
   split
   · exact rel_do h _
   · exact ⟨rfl, h⟩
 unfold compK
 refine rel_seq h0 fun D F h => rel_seq (rel_do h _) fun D F h => rel_seq (rel_do h _) fun D F h => rel_seq (rel_do h _) fun D F h => rel_seq (rel_do h _) fun D F h => rel_seq ?_ fun D F h => ⟨rfl, h⟩
 rw [rel_segsD h]
 exact rel_steps _ h
theorem comp_rel {L M : LS} (h : RelL L M) (hd : M.D.down = false) (hn : 0 ≤ M.n ∧ M.n ≤ 99999) (b : List UInt8) : (compK doP b (L.n + 1) 0 L.D).2 = (stepsG doR M.D (compRL M.D M.n b)).2 ∧ Rel (compK doP b (L.n + 1) 0 L.D).1 (stepsG doR M.D (compRL M.D M.n b)).1 := by
 rw [h.n, ← comp_steps hd b M.n hn]
 exact rel_compK h.rel b (M.n + 1)
theorem eff_cre (n t : ByteArray) (b : List UInt8) (φ : FN) (x : ByteArray) : effO ⟨1, n, t, b⟩ φ x = if x = n then some ⟨n, [], 0⟩ else φ x := by
 unfold effO effK; rw [if_pos rfl]
theorem eff_app {φ : FN} {n t : ByteArray} {b : List UInt8} {f : DF} (h : φ n = some f) (x : ByteArray) : effO ⟨2, n, t, b⟩ φ x = if x = n then some ⟨n, f.b ++ b, f.d⟩ else φ x := by
 simp [effO, effK, h]
theorem eff_syn {φ : FN} {n t : ByteArray} {b : List UInt8} {f : DF} (h : φ n = some f) (x : ByteArray) : effO ⟨3, n, t, b⟩ φ x = if x = n then some ⟨n, f.b, f.b.length⟩ else φ x := by
 simp [effO, effK, h]
theorem eff_ren {φ : FN} {n t : ByteArray} {b : List UInt8} {f : DF} (h : φ n = some f) (x : ByteArray) : effO ⟨4, n, t, b⟩ φ x = if x = t then some ⟨t, f.b, f.d⟩ else if x = n then none else φ x := by
 simp [effO, effK, h]
open Classical in
theorem eff_rms (l : List ByteArray) : ∀ (φ : FN) (x : ByteArray), effL (l.map rmO) φ x = if x ∈ l then none else φ x := by
 induction l with
 | nil => intro φ x; simp [effL]
 | cons a l ih =>
   intro φ x
   have e : effL ((a :: l).map rmO) φ = effL (l.map rmO) (effO (rmO a) φ) := rfl
   rw [e, ih, effO_rm]
   by_cases h : x ∈ l
   · rw [if_pos h, if_pos (List.mem_cons_of_mem _ h)]
   · rw [if_neg h]
     by_cases h2 : x = a
     · rw [if_pos h2, if_pos (by rw [h2]; exact List.mem_cons_self ..)]
     · rw [if_neg h2, if_neg (by rw [List.mem_cons]; rintro (h3 | h3); exact h2 h3; exact h h3)]
def CompO (φ0 φ : FN) : Prop := ∀ x, x ≠ newNm → φ x = φ0 x
open Classical in
def CompN (φ0 : FN) (n : Int) (b : List UInt8) (old : List ByteArray) (φ : FN) : Prop := ∀ x, φ x = if x = nameI n then some ⟨nameI n, b, b.length⟩ else if x = newNm ∨ x ∈ old then none else φ0 x
theorem comp_eff (E : DS) (n : Int) (b : List UInt8) (hn : 0 ≤ n ∧ n ≤ 99999) (m : Nat) :
   (m < (compRL E n b).length ∧ CompO (fnd E) (effL ((compRL E n b).take m) (fnd E))) ∨ ∃ j, CompN (fnd E) (n + 1) b ((olderL (segsD E) (n + 1)).take j) (effL ((compRL E n b).take m) (fnd E)) ∧ (m = (compRL E n b).length → (olderL (segsD E) (n + 1)).take j = olderL (segsD E) (n + 1)) := by
 unfold compRL
 rw [cleanL_older]
 obtain ⟨A, hA⟩ : ∃ A, A = cleanL E [newNm] := ⟨_, rfl⟩
 rw [← hA]
 have hAk : ∀ k, CompO (fnd E) (effL (A.take k) (fnd E)) := fun k x hx => by
   rw [hA, cleanL_filter, ← List.map_take, eff_rms _ _ x, if_neg]
   intro h
   have h2 := (List.mem_filter.1 (List.mem_of_mem_take h)).1
   rw [List.mem_singleton] at h2
   exact hx h2
 obtain ⟨old, hold⟩ : ∃ l, l = olderL (segsD E) (n + 1) := ⟨_, rfl⟩
 have hon : nameI (n + 1) ∉ old := fun h => by
   rw [hold] at h
   obtain ⟨m, e, m1, m2, m3, -⟩ := mem_older h
   have := nameI_inj (a := n + 1) ⟨by omega, by omega⟩ ⟨m1, m2⟩ e
   omega
 have hnn : newNm ≠ nameI (n + 1) := fun e => (nameI_cut (n + 1)).2 e.symm
 rw [← hold, List.append_assoc, List.take_append, effL_append]
 have h1 := hAk m
 generalize effL (A.take m) (fnd E) = φ1 at *
 have e1 := eff_cre newNm ⟨#[]⟩ [] φ1
 have e2 := eff_app (φ := effO ⟨1, newNm, ⟨#[]⟩, []⟩ φ1) (n := newNm) (t := ⟨#[]⟩) (b := b) (f := ⟨newNm, [], 0⟩) (by rw [e1]; exact if_pos rfl)
 have e3 := eff_syn (φ := effO ⟨2, newNm, ⟨#[]⟩, b⟩ (effO ⟨1, newNm, ⟨#[]⟩, []⟩ φ1)) (n := newNm) (t := ⟨#[]⟩) (b := []) (f := ⟨newNm, [] ++ b, 0⟩) (by rw [e2]; exact if_pos rfl)
 have e4 := eff_ren (φ := effO ⟨3, newNm, ⟨#[]⟩, []⟩ (effO ⟨2, newNm, ⟨#[]⟩, b⟩ (effO ⟨1, newNm, ⟨#[]⟩, []⟩ φ1))) (n := newNm) (t := nameI (n + 1)) (b := []) (f := ⟨newNm, [] ++ b, ([] ++ b).length⟩) (by rw [e3]; exact if_pos rfl)
 have o1 : CompO (fnd E) (effO ⟨1, newNm, ⟨#[]⟩, []⟩ φ1) := fun x hx => by rw [e1, if_neg hx]; exact h1 x hx
 have o2 : CompO (fnd E) (effO ⟨2, newNm, ⟨#[]⟩, b⟩ (effO ⟨1, newNm, ⟨#[]⟩, []⟩ φ1)) := fun x hx => by rw [e2, if_neg hx]; exact o1 x hx
 have o3 : CompO (fnd E) (effO ⟨3, newNm, ⟨#[]⟩, []⟩ (effO ⟨2, newNm, ⟨#[]⟩, b⟩ (effO ⟨1, newNm, ⟨#[]⟩, []⟩ φ1))) := fun x hx => by rw [e3, if_neg hx]; exact o2 x hx
 generalize hk : m - A.length = k
 rw [List.take_append, effL_append]
 rcases Nat.lt_or_ge k 4 with h4 | h4
 · left
   refine ⟨by simp only [List.length_append, List.length_cons, List.length_nil]; omega, ?_⟩
   rw [show k - [(⟨1, newNm, ⟨#[]⟩, []⟩ : OP), ⟨2, newNm, ⟨#[]⟩, b⟩, ⟨3, newNm, ⟨#[]⟩, []⟩, ⟨4, newNm, nameI (n + 1), []⟩].length = 0 by simp; omega, List.take_zero]
   have : k = 0 ∨ k = 1 ∨ k = 2 ∨ k = 3 := by omega
   rcases this with rfl | rfl | rfl | rfl
   · exact h1
   · exact o1
   · exact o2
   · exact o3
 · right
   refine ⟨k - 4, ?_, fun hm => ?_⟩
   · rw [List.take_of_length_le (l := [(⟨1, newNm, ⟨#[]⟩, []⟩ : OP), ⟨2, newNm, ⟨#[]⟩, b⟩, ⟨3, newNm, ⟨#[]⟩, []⟩, ⟨4, newNm, nameI (n + 1), []⟩]) (by simp; omega)]
     have ef : effL [(⟨1, newNm, ⟨#[]⟩, []⟩ : OP), ⟨2, newNm, ⟨#[]⟩, b⟩, ⟨3, newNm, ⟨#[]⟩, []⟩, ⟨4, newNm, nameI (n + 1), []⟩] φ1 = effO ⟨4, newNm, nameI (n + 1), []⟩ (effO ⟨3, newNm, ⟨#[]⟩, []⟩ (effO ⟨2, newNm, ⟨#[]⟩, b⟩ (effO ⟨1, newNm, ⟨#[]⟩, []⟩ φ1))) := rfl
     rw [ef]
     intro x
     rw [← List.map_take, eff_rms, show k - [(⟨1, newNm, ⟨#[]⟩, []⟩ : OP), ⟨2, newNm, ⟨#[]⟩, b⟩, ⟨3, newNm, ⟨#[]⟩, []⟩, ⟨4, newNm, nameI (n + 1), []⟩].length = k - 4 from rfl]
     by_cases hx : x = nameI (n + 1)
     · rw [if_neg (by rw [hx]; exact fun h => hon (List.mem_of_mem_take h)), if_pos hx, e4, if_pos hx, List.nil_append]
     · rw [if_neg hx]
       by_cases hx2 : x ∈ old.take (k - 4)
       · rw [if_pos hx2, if_pos (.inr hx2)]
       · rw [if_neg hx2, e4, if_neg hx]
         by_cases hx3 : x = newNm
         · rw [if_pos hx3, if_pos (.inl hx3)]
         · rw [if_neg hx3, if_neg (by rintro (h | h); exact hx3 h; exact hx2 h)]
           exact o3 x hx3
   · apply List.take_of_length_le
     rw [List.length_append, List.length_append, List.length_map] at hm
     simp only [List.length_cons, List.length_nil] at hm
     omega
theorem emp_mark {P : List (List UInt8)} (h : ∀ r ∈ P, r ≠ []) : empAt 0 ([] :: P) ([] :: P).length = true := by
 unfold empAt
 rw [List.all_eq_true]
 intro j hj
 rw [List.mem_range] at hj
 cases j with
 | zero => exact decide_eq_true (.inr rfl)
 | succ j =>
   refine decide_eq_true (.inl ?_)
   rw [List.length_cons] at hj
   rw [List.getD_cons_succ]
   exact h _ (getD_mem (by omega))
theorem full_mark {P : List (List UInt8)} (h : ∀ r ∈ P, r ≠ []) : fullL ([] :: P) = P := by
 have e : fullL ([] :: P) = fullL P := by unfold fullL; rw [List.filter_cons_of_neg (by simp)]
 rw [e, fullL_id h]
theorem split_mark {P : List (List UInt8)} (h : ∀ r ∈ P, r ≠ [] ∧ r.length ≤ 1048576) : splitB (framesB ([] :: P)) = ([] :: P, (framesB ([] :: P)).length) :=
 split_full _ (fun r hr => by
   rcases List.mem_cons.1 hr with rfl | hr
   · exact Nat.zero_le _
   · exact (h r hr).2)
theorem marked_mark {P : List (List UInt8)} (h : ∀ r ∈ P, r ≠ [] ∧ r.length ≤ 1048576) : markedB (framesB ([] :: P)) = true := by
 rw [marked_split, split_mark h]; rfl
theorem restAt_of {g : Int → List UInt8} {R : List Int} {i : Nat} {b : List UInt8} (h1 : g (R.getD i 0) = b) (h2 : (splitB b).2 = b.length ∨ i + 1 = R.length) (h3 : empAt i (splitB b).1 (splitB b).1.length = true) : restAt g R i = true := by
 subst h1
 unfold restAt
 rw [h3, Bool.and_true]
 exact decide_eq_true h2
theorem find_last {g : Int → List UInt8} {L : List Int} {P : List (List UInt8)} (hL : L ≠ []) (hg : g (lastN L) = framesB ([] :: P)) (hP : ∀ r ∈ P, r ≠ [] ∧ r.length ≤ 1048576) :
   findG g L = ⟨0, L.take (L.length - 1), lastN L, P, framesB ([] :: P), 0⟩ := by
 have hsp := split_mark hP
 have hm := marked_mark hP
 have hpos := List.length_pos_iff.2 hL
 have hk : markK g L (L.length - 1) = L.length - 1 := by
   cases h : L.length - 1 with
   | zero => rfl
   | succ i =>
     have e : L.getD (i + 1) 0 = lastN L := by unfold lastN; rw [h]
     rw [markK, e, hg, hm, if_pos rfl]
 have hdrop : L.drop (L.length - 1) = [lastN L] := by
   rw [List.drop_eq_getElem_cons (by omega), List.drop_of_length_le (by omega)]
   congr 1
   unfold lastN
   rw [List.getD_eq_getElem?_getD, List.getElem?_eq_getElem (by omega)]; rfl
 have hch : chainUp [lastN L] 1 = true := rfl
 have hre : restUp g [lastN L] 1 = true := by
   unfold restUp
   rw [List.all_eq_true]
   intro i hi
   rw [List.mem_range] at hi
   obtain rfl : i = 0 := by omega
   exact restAt_of (b := framesB ([] :: P)) hg (.inr rfl) (by rw [hsp]; exact emp_mark (fun r hr => (hP r hr).1))
 have hrc : recsG g [lastN L] = P := by
   unfold recsG
   rw [List.flatMap_cons, List.flatMap_nil, List.append_nil, hg, hsp]
   exact full_mark (fun r hr => (hP r hr).1)
 unfold findG
 rw [if_neg hL, hk, hdrop, show L.length - (L.length - 1) = 1 by omega, hch, hre, Bool.and_self, if_pos rfl, hrc, hg, hsp]
 simp
theorem find_new {E G : DS} (hd : G.down = false) {n : Int} {old : List ByteArray} {P : List (List UInt8)} (hn : 0 ≤ n ∧ n ≤ 99999) (hle : ∀ m ∈ segsD E, m ≤ n) (hP : ∀ r ∈ P, r ≠ [] ∧ r.length ≤ 1048576)
   (h : CompN (fnd E) (n + 1) (framesB ([] :: P)) old (fnd G)) : (findS G).code = 0 ∧ (findS G).recs = P ∧ (findS G).torn = 0 := by
 have hf : fnd G (nameI (n + 1)) = some ⟨nameI (n + 1), framesB ([] :: P), (framesB ([] :: P)).length⟩ := by rw [h]; exact if_pos rfl
 have hmem : n + 1 ∈ segsD G := (mem_segs_fnd G _).2 ⟨by omega, by omega, by rw [hf]; rfl⟩
 have hL : segsD G ≠ [] := fun e => by rw [e] at hmem; simp at hmem
 have htop : ∀ m ∈ segsD G, m ≤ n + 1 := fun m hm => by
   obtain ⟨m1, m2, m3⟩ := (mem_segs_fnd G m).1 hm
   by_cases e : m = n + 1
   · omega
   · have hne : nameI m ≠ nameI (n + 1) := fun q => e (nameI_inj ⟨m1, m2⟩ ⟨by omega, by omega⟩ q)
     rw [h, if_neg hne] at m3
     split at m3
     · cases m3
     · have := hle m ((mem_segs_fnd E m).2 ⟨m1, m2, m3⟩)
       omega
 have hla : lastN (segsD G) = n + 1 := by
   have h1 := htop _ (lastN_mem hL)
   obtain ⟨k, hk, e⟩ := List.mem_iff_getElem.1 hmem
   have hi := inc_segs G
   have h2 : (segsD G)[k] ≤ lastN (segsD G) := by
     unfold lastN
     rw [List.getD_eq_getElem?_getD, List.getElem?_eq_getElem (by omega)]
     show (segsD G)[k] ≤ (segsD G)[(segsD G).length - 1]
     rcases Nat.lt_or_ge k ((segsD G).length - 1) with h3 | h3
     · have := List.pairwise_iff_getElem.1 hi k ((segsD G).length - 1) (by omega) (by omega) h3
       omega
     · have e2 : k = (segsD G).length - 1 := by omega
       subst e2; exact Int.le_refl _
   omega
 have hg : contD G (lastN (segsD G)) = framesB ([] :: P) := by rw [hla]; exact contD_some hd hf
 have := find_last hL hg hP
 have e : findS G = findG (contD G) (segsD G) := by unfold findS; rw [hd]; rfl
 rw [e, this]
 exact ⟨rfl, rfl, rfl⟩
theorem crash_comp {E : DS} (hd : E.down = false) (hdur : Durable (fnd E)) {n : Int} (hn : 0 ≤ n ∧ n ≤ 99999) (hle : ∀ m ∈ segsD E, m ≤ n) (hc : (findS E).code = 0) (ht : (findS E).torn = 0) {P : List (List UInt8)} (hP : ∀ r ∈ P, r ≠ [] ∧ r.length ≤ 1048576)
   (p : Int) (ks : List Int) (G : DS) (hG : G.down = false) (hf : G.files = crashF (stepsG doR { E with plan := p } (compRL { E with plan := p } n (framesB ([] :: P)))).1.files ks) :
   (findS G).code = 0 ∧ (findS G).torn = 0 ∧ ((findS G).recs = (findS E).recs ∨ (findS G).recs = P) ∧ ((stepsG doR { E with plan := p } (compRL { E with plan := p } n (framesB ([] :: P)))).2 = 0 → (findS G).recs = P) := by
 obtain ⟨m, hm, e1, -, e3⟩ := steps_eff (compRL { E with plan := p } n (framesB ([] :: P))) { E with plan := p }
 generalize hS : stepsG doR { E with plan := p } (compRL { E with plan := p } n (framesB ([] :: P))) = S at *
 have hfn : ∀ x, (∀ f, fnd S.1 x = some f → f.d = f.b.length) → fnd G x = fnd S.1 x := fun x h => by
   show findD G.files _ = _
   rw [hf]; exact crash_same ks h
 have hce := comp_eff { E with plan := p } n (framesB ([] :: P)) hn m
 rw [e1.symm] at hce
 rcases hce with ⟨hlt, h⟩ | ⟨j, h, hj⟩
 · have h2 : findS G = findS E := find_fnd hG hd (fun k _ _ => by
     rw [hfn (nameI k) (fun f hf => (hdur (nameI k) f (by rw [show fnd E (nameI k) = fnd S.1 (nameI k) from (h _ (nameI_cut k).2).symm]; exact hf)).1)]
     exact h _ (nameI_cut k).2)
   rw [h2]
   exact ⟨hc, ht, .inl rfl, fun h0 => by have := e3 h0; omega⟩
 · have hd2 : ∀ x f, fnd S.1 x = some f → f.d = f.b.length := fun x f hf => by
     rw [h x] at hf
     split at hf
     · cases hf; rfl
     · split at hf
       · cases hf
       · exact (hdur _ f hf).1
   have hG2 : fnd G = fnd S.1 := funext fun x => hfn x (hd2 x)
   rw [← hG2] at h
   obtain ⟨a1, a2, a3⟩ := find_new (E := E) hG hn hle hP h
   exact ⟨a1, a3, .inr a2, fun _ => a2⟩
theorem files_ext : ∀ {l1 l2 : List DF}, l1.Pairwise below → l2.Pairwise below → (∀ f, f ∈ l1 ↔ f ∈ l2) → l1 = l2
 | [], [], _, _, _ => rfl
 | [], b :: l2, _, _, h => absurd ((h b).2 (List.mem_cons_self ..)) (by simp)
 | a :: l1, [], _, _, h => absurd ((h a).1 (List.mem_cons_self ..)) (by simp)
 | a :: l1, b :: l2, h1, h2, h => by
   obtain ⟨p1, p2⟩ := List.pairwise_cons.1 h1
   obtain ⟨q1, q2⟩ := List.pairwise_cons.1 h2
   have hab : a = b := by
     rcases List.mem_cons.1 ((h a).1 (List.mem_cons_self ..)) with e | e
     · exact e
     · rcases List.mem_cons.1 ((h b).2 (List.mem_cons_self ..)) with e2 | e2
       · exact e2.symm
       · exact absurd (List.lt_trans (p1 b e2) (q1 a e)) (List.lt_irrefl _)
   subst hab
   congr 1
   refine files_ext p2 q2 fun f => ?_
   constructor
   · intro hf
     rcases List.mem_cons.1 ((h f).1 (List.mem_cons_of_mem _ hf)) with e | e
     · subst e; exact absurd (p1 f hf) (List.lt_irrefl _)
     · exact e
   · intro hf
     rcases List.mem_cons.1 ((h f).2 (List.mem_cons_of_mem _ hf)) with e | e
     · subst e; exact absurd (q1 f hf) (List.lt_irrefl _)
     · exact e
theorem files_find {l1 l2 : List DF} (h1 : l1.Pairwise below) (h2 : l2.Pairwise below) (h : ∀ x, findD l1 x = findD l2 x) : l1 = l2 :=
 files_ext h1 h2 fun f => by rw [mem_iff_findD (sorted_nodup h1), mem_iff_findD (sorted_nodup h2), h]
def OnlySegs (E : DS) (n : Int) : Prop := ∀ x, (fnd E x).isSome = true → ∃ m, x = nameI m ∧ 1 ≤ m ∧ m ≤ n
theorem comp_done {E : DS} {n : Int} (hn : 0 ≤ n ∧ n ≤ 99999) (ho : OnlySegs E n) (b : List UInt8) (h0 : (stepsG doR E (compRL E n b)).2 = 0) :
   ∀ x, fnd (stepsG doR E (compRL E n b)).1 x = if x = nameI (n + 1) then some ⟨nameI (n + 1), b, b.length⟩ else none := by
 obtain ⟨m, hm, e1, -, e3⟩ := steps_eff (compRL E n b) E
 have hml := e3 h0
 have hce := comp_eff E n b hn m
 rw [e1.symm] at hce
 rcases hce with ⟨hlt, -⟩ | ⟨j, h, hj⟩
 · omega
 intro x
 rw [h x]
 split
 · rfl
 · rename_i hx
   rw [hj hml]
   split
   · rfl
   · rename_i hx2
     cases hf : fnd E x with
     | none => rfl
     | some f =>
       exfalso
       obtain ⟨k, rfl, k1, k2⟩ := ho x (by rw [hf]; rfl)
       refine hx2 (.inr ?_)
       unfold olderL
       exact List.mem_map_of_mem (List.mem_filter.2 ⟨(mem_segs_fnd E k).2 ⟨k1, by omega, by rw [hf]; rfl⟩, decide_eq_true (by omega)⟩)
theorem comp_succ {E : DS} (hd : E.down = false) (hp : E.plan = 0) {n : Int} (hn : 0 ≤ n ∧ n ≤ 99999) (ho : OnlySegs E n) (b : List UInt8) (hr : (sumD E.files : Int) + b.length ≤ E.room) :
   (stepsG doR E (compRL E n b)).2 = 0 := by
 have hnew : fnd E newNm = none := by
   cases h : fnd E newNm with
   | none => rfl
   | some f =>
     obtain ⟨m, e, -⟩ := ho newNm (by rw [h]; rfl)
     exact absurd e.symm (nameI_cut m).2
 have hA : cleanL E [newNm] = [] := by
   rw [cleanL_filter, List.filter_cons_of_neg (by rw [hnew]; simp)]; rfl
 unfold compRL
 rw [hA, cleanL_older, List.nil_append]
 have hnm : namedB newNm = true := cut_named.2
 obtain ⟨a1, a2, a3⟩ := doR_succ (o := ⟨1, newNm, ⟨#[]⟩, []⟩) hd hp hnm (by intro h; simp at h) (fun _ => hnew) (by intro h; simp at h) (by intro h; simp at h)
 obtain ⟨-, -, a4⟩ := doR_eff E ⟨1, newNm, ⟨#[]⟩, []⟩
 have a6 := (doR_calm hd hp ⟨1, newNm, ⟨#[]⟩, []⟩).2.2
 obtain ⟨a4, a5⟩ := a4 a1
 have a5 := a5 (by simp) (by simp) (by simp)
 generalize hE1 : (doR E ⟨1, newNm, ⟨#[]⟩, []⟩).1 = E1 at *
 have a4 : ∀ x, fnd E1 x = if x = newNm then some ⟨newNm, [], 0⟩ else fnd E x := fun x => by rw [a4, eff_cre]
 have f1 : fnd E1 newNm = some ⟨newNm, [], 0⟩ := by rw [a4]; exact if_pos rfl
 obtain ⟨b1, b2, b3⟩ := doR_succ (o := ⟨2, newNm, ⟨#[]⟩, b⟩) a3 a2 hnm (by intro h; simp at h) (by intro h; simp at h) (fun _ => by rw [f1]; rfl) (fun _ => by show (sumD E1.files : Int) + b.length ≤ E1.room; omega)
 obtain ⟨-, -, b4⟩ := doR_eff E1 ⟨2, newNm, ⟨#[]⟩, b⟩
 have b4 := (b4 b1).1
 generalize hE2 : (doR E1 ⟨2, newNm, ⟨#[]⟩, b⟩).1 = E2 at *
 have b4 : ∀ x, fnd E2 x = if x = newNm then some ⟨newNm, [] ++ b, 0⟩ else fnd E1 x := fun x => by rw [b4, eff_app f1]
 have f2 : fnd E2 newNm = some ⟨newNm, [] ++ b, 0⟩ := by rw [b4]; exact if_pos rfl
 obtain ⟨c1, c2, c3⟩ := doR_succ (o := ⟨3, newNm, ⟨#[]⟩, []⟩) b3 b2 hnm (by intro h; simp at h) (by intro h; simp at h) (fun _ => by rw [f2]; rfl) (by intro h; simp at h)
 obtain ⟨-, -, c4⟩ := doR_eff E2 ⟨3, newNm, ⟨#[]⟩, []⟩
 have c4 := (c4 c1).1
 generalize hE3 : (doR E2 ⟨3, newNm, ⟨#[]⟩, []⟩).1 = E3 at *
 have c4 : ∀ x, fnd E3 x = if x = newNm then some ⟨newNm, [] ++ b, ([] ++ b).length⟩ else fnd E2 x := fun x => by rw [c4, eff_syn f2]
 have f3 : fnd E3 newNm = some ⟨newNm, [] ++ b, ([] ++ b).length⟩ := by rw [c4]; exact if_pos rfl
 obtain ⟨d1, d2, d3⟩ := doR_succ (o := ⟨4, newNm, nameI (n + 1), []⟩) c3 c2 hnm (fun _ => nameI_named2 ⟨by omega, by omega⟩) (by intro h; simp at h) (fun _ => by rw [f3]; rfl) (by intro h; simp at h)
 obtain ⟨-, -, d4⟩ := doR_eff E3 ⟨4, newNm, nameI (n + 1), []⟩
 have d4 := (d4 d1).1
 generalize hE4 : (doR E3 ⟨4, newNm, nameI (n + 1), []⟩).1 = E4 at *
 have d4 : ∀ x, fnd E4 x = if x = nameI (n + 1) then some ⟨nameI (n + 1), [] ++ b, ([] ++ b).length⟩ else if x = newNm then none else fnd E3 x := fun x => by rw [d4, eff_ren f3]
 rw [List.cons_append, step_succ a1, hE1, List.cons_append, step_succ b1, hE2, List.cons_append, step_succ c1, hE3, List.cons_append, step_succ d1, hE4, List.nil_append]
 refine (rm_all (olderL (segsD E) (n + 1)) d3 d2 ?_ (fun x hx => ?_)).1
 · unfold olderL
   rw [List.nodup_iff_pairwise_ne, List.pairwise_map]
   refine List.Pairwise.imp_of_mem (fun {x y} hx hy hxy e => ?_) (List.Pairwise.sublist List.filter_sublist (inc_segs E))
   have := nameI_inj (mem_segs (List.mem_filter.1 hx).1) (mem_segs (List.mem_filter.1 hy).1) e
   omega
 · obtain ⟨m, rfl, m1, m2, m3, m4⟩ := mem_older hx
   refine ⟨nameI_named2 ⟨m1, m2⟩, ?_⟩
   have hne : nameI m ≠ nameI (n + 1) := fun e => by have := nameI_inj ⟨m1, m2⟩ ⟨by omega, by omega⟩ e; omega
   have hc := (nameI_cut m).2
   rw [d4, if_neg hne, if_neg hc, c4, if_neg hc, b4, if_neg hc, a4, if_neg hc]
   exact m4
def segK (n : Nat) (P : List (List UInt8)) : Seg := ⟨n, [], [] :: P, 0⟩
theorem segK_files (n : Nat) (P : List (List UInt8)) : (segK n P).files = [⟨nameI ((n : Int) + 1), framesB ([] :: P), (framesB ([] :: P)).length⟩] := by
 unfold segK Seg.files Seg.last preF
 simp
theorem comp_files {E : DS} {n : Nat} (hn : n ≤ 99999) (ho : OnlySegs E n) {P : List (List UInt8)} {F : DS} (hF : F.files.Pairwise below) (hFE : fnd F = fnd (stepsG doR E (compRL E n (framesB ([] :: P)))).1) (h0 : (stepsG doR E (compRL E n (framesB ([] :: P)))).2 = 0) :
   F.files = (segK n P).files := by
 refine files_find hF (by rw [segK_files]; exact List.pairwise_singleton _ _) fun x => ?_
 show fnd F x = _
 rw [hFE, comp_done ⟨by omega, by omega⟩ ho _ h0 x, segK_files, findD, findD]
 by_cases h : x = nameI ((n : Int) + 1)
 · rw [if_pos h, if_pos h.symm]
 · rw [if_neg h, if_neg (fun e => h e.symm)]
def putsG (O : DOps) (L : LS) (l : List (List UInt8)) : LS := l.foldl (fun L r => (putG O L r).1) L
theorem putsG_take {P : List SL} {k : Nat} (h : k < P.length) (O : DOps) (L : LS) : putsG O L ((P.take (k + 1)).map SL.l) = (putG O (putsG O L ((P.take k).map SL.l)) P[k].l).1 := by
 unfold putsG
 rw [List.take_succ_eq_append_getElem h, List.map_append, List.foldl_append]; rfl
theorem puts_seg {most room : Int} (P : List SL) (hP : P.length ≤ 60) (hs : sumL P ≤ 2000) (hr : ((sumL P + 8 * P.length : Nat) : Int) ≤ room) : ∀ k, k ≤ P.length → putsG opsF (segL room most seg0) ((P.take k).map SL.l) = segL room most (runS most seg0 ((P.take k).map SL.l)) := by
 intro k
 induction k with
 | zero => intro _; rfl
 | succ k ih =>
   intro hk
   have hlt : k < P.length := by omega
   have hi := runI_take most P (by omega) hs k (by omega)
   have h1 := sumL_at hlt
   have h2 := sumL_le P (k + 1)
   have h6 := sumL_take hlt
   have h3 := hi.len
   have h4 := hi.pre
   have h5 := hi.i0
   rw [putsG_take hlt, ih (by omega), runS_take hlt, put_seg hi.good (by omega) P[k].l (by omega) (by omega)]
theorem run_facts {most room : Int} {P : List SL} (hP : P.length ≤ 60) (hs : sumL P ≤ 2000) (wt0 : Bool) :
   ∃ s : Seg, s = (if wt0 then { runS most seg0 (P.map SL.l) with wt := 0 } else runS most seg0 (P.map SL.l)) ∧ s.good most ∧ s.i0 = 0 ∧ s.pre.length ≤ 60 ∧ (framesB s.all).length ≤ sumL P + 8 * P.length ∧
     OnlySegs (segD room s) ((s.i0 + s.pre.length + 1 : Nat) : Int) ∧ (∀ m ∈ segsD (segD room s), m ≤ ((s.i0 + s.pre.length + 1 : Nat) : Int)) := by
 have hi := runI_take most P (by omega) hs P.length (Nat.le_refl _)
 rw [List.take_length] at hi
 obtain ⟨s, hsd⟩ : ∃ s : Seg, s = (if wt0 then { runS most seg0 (P.map SL.l) with wt := 0 } else runS most seg0 (P.map SL.l)) := ⟨_, rfl⟩
 have hi2 : RunI most s P.length (sumL P) := by
   rw [hsd]; split
   · exact hi.synced
   · exact hi
 have h3 := hi2.len
 have h4 := hi2.pre
 have h5 := hi2.i0
 have hnames : s.files.map DF.name = namesN 0 (s.pre.length + 1) := by rw [seg_names, h5]
 refine ⟨s, hsd, hi2.good, h5, by omega, by omega, fun x hx => ?_, fun m hm => ?_⟩
 · cases hf : fnd (segD room s) x with
   | none => rw [hf] at hx; cases hx
   | some f =>
     obtain ⟨h6, h7⟩ := findD_name hf
     have h8 : x ∈ namesN 0 (s.pre.length + 1) := by rw [← hnames, ← h6]; exact List.mem_map_of_mem h7
     obtain ⟨k, hk, rfl⟩ := List.mem_map.1 h8
     rw [List.mem_range] at hk
     exact ⟨_, rfl, by omega, by omega⟩
 · have e : segsD (segD room s) = upto 0 (s.pre.length + 1) := by
     show refL (s.files.map DF.name) = _
     rw [hnames, refL_names (by omega)]
   rw [e] at hm
   obtain ⟨k, hk, rfl⟩ := List.mem_map.1 hm
   rw [List.mem_range] at hk
   omega
theorem steps_calm (l : List OP) : ∀ {E : DS}, E.down = false → E.plan = 0 → (stepsG doR E l).1.down = false ∧ (stepsG doR E l).1.plan = 0 ∧ (stepsG doR E l).1.room = E.room := by
 induction l with
 | nil => intro E h1 h2; exact ⟨h1, h2, rfl⟩
 | cons o l ih =>
   intro E h1 h2
   obtain ⟨a1, a2, a3⟩ := doR_calm h1 h2 o
   rw [stepsG]
   unfold seqG
   split
   · exact ⟨a1, a2, a3⟩
   · obtain ⟨b1, b2, b3⟩ := ih a1 a2
     exact ⟨b1, b2, b3.trans a3⟩
theorem comp_seg {L M : LS} {room most : Int} {s : Seg} (h : RelL L M) (hM : M = segL room most s) (hnum : s.i0 + s.pre.length + 1 ≤ 1000) (ho : OnlySegs (segD room s) ((s.i0 + s.pre.length + 1 : Nat) : Int)) (P : List (List UInt8)) (hroom : ((framesB s.all).length : Int) + (framesB ([] :: P)).length ≤ room) :
   (compK doP (framesB ([] :: P)) (L.n + 1) 0 L.D).2 = 0 ∧ Rel (compK doP (framesB ([] :: P)) (L.n + 1) 0 L.D).1 (segD room (segK (s.i0 + s.pre.length + 1) P)) ∧
     ∀ most' : Int, compR M most' true (framesB ([] :: P)) = (segL room most' (segK (s.i0 + s.pre.length + 1) P), 0) := by
 have hn : M.n = ((s.i0 + s.pre.length + 1 : Nat) : Int) := by rw [hM]; rfl
 have hD : M.D = segD room s := by rw [hM]; rfl
 obtain ⟨c1, c2⟩ := comp_rel h (by rw [hD]; rfl) (by rw [hn]; omega) (framesB ([] :: P))
 have hs : (stepsG doR M.D (compRL M.D M.n (framesB ([] :: P)))).2 = 0 := by
   rw [hD, hn]
   exact comp_succ rfl rfl (by omega) ho _ (by show (sumD s.files : Int) + _ ≤ room; rw [seg_sum]; exact hroom)
 obtain ⟨f1, f2, f3⟩ := steps_calm (compRL M.D M.n (framesB ([] :: P))) (E := M.D) (by rw [hD]; rfl) (by rw [hD]; rfl)
 have hf : (stepsG doR M.D (compRL M.D M.n (framesB ([] :: P)))).1.files = (segK (s.i0 + s.pre.length + 1) P).files := by
   refine comp_files (E := segD room s) (by omega) ho c2.so ?_ ?_
   · rw [hD, hn]
   · rw [hD, hn] at hs; exact hs
 have hF : (stepsG doR M.D (compRL M.D M.n (framesB ([] :: P)))).1 = segD room (segK (s.i0 + s.pre.length + 1) P) := by
   have h3 : (stepsG doR M.D (compRL M.D M.n (framesB ([] :: P)))).1.room = room := by rw [f3, hD]; rfl
   generalize (stepsG doR M.D (compRL M.D M.n (framesB ([] :: P)))).1 = F at *
   obtain ⟨r1, r2, r3, r4⟩ := F
   simp only at f1 f2 hf h3
   subst f1 f2 hf h3
   rfl
 rw [hF] at c2
 refine ⟨c1.trans hs, c2, fun most' => ?_⟩
 unfold compR
 rw [if_neg (by decide), if_pos hs, hF, hn]
 rfl
theorem comp_bnd {D : DS} {b : List UInt8} {n : Int} {s q : Nat} (h : Bnd D s q) : Bnd (compK doP b n 0 D).1 (s + b.length) (q + 6) := by
 have key : ∀ j, j ≤ 6 → ∀ {D : DS} {s q : Nat}, Bnd D s q → Bnd (compK doP b n (6 - j) D).1 (s + (if 4 ≤ j then b.length else 0)) (q + j) := by
   intro j
   induction j with
   | zero => intro _ D s q h; simpa [compK] using h
   | succ j ih =>
     intro hj D s q h
     rw [compK_step b n (by omega) D]
     have h1 := bnd_stepK (b := b) (next := n) (k := 6 - (j + 1)) h
     unfold seqG
     split
     · exact h1.more (by split <;> split <;> omega) (by omega)
     · have h2 := ih (by omega) h1
       rw [show 6 - (j + 1) + 1 = 6 - j by omega]
       refine h2.more ?_ (by omega)
       split <;> split <;> split <;> omega
 have := key 6 (Nat.le_refl _) h
 simpa using this
end Go.Proofs.YtgdmdbdljmlkkaaGreatDoor
