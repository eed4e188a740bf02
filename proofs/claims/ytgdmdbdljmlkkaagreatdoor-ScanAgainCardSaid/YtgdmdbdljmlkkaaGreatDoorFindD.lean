/- A repair that was broken off, and a crash behind it: the log has the same records. -/
import Derived.Test.YtgdmdbdljmlkkaaGreatDoorFindC
namespace Go.Proofs.YtgdmdbdljmlkkaaGreatDoor
set_option linter.unusedVariables false
set_option linter.unusedSimpArgs false
open Go.RowKit

theorem mem_segs_fnd (D : DS) (n : Int) : n ∈ segsD D ↔ (1 ≤ n ∧ n ≤ 99999999 ∧ (fnd D (nameI n)).isSome = true) := mem_segs_iff D n
/-- The files while a log is repaired: j of the older segments are gone. -/
structure Cls (φ0 : FN) (L : List Int) (last : Int) (front : List UInt8) (j : Nat) (φ : FN) : Prop where
  off : ∀ x, x ≠ cutNm → x ≠ newNm → x ≠ nameI last → (∀ n ∈ L.take j, x ≠ nameI n) → φ x = φ0 x
  lst : φ (nameI last) = φ0 (nameI last) ∨ φ (nameI last) = some ⟨nameI last, front, front.length⟩
  gone : ∀ n ∈ L.take j, φ (nameI n) = none
section
variable {φ0 φ ψ : FN} {L : List Int} {last : Int} {front : List UInt8} {j k : Nat}
theorem Cls.refl : Cls φ0 L last front 0 φ0 := ⟨fun _ _ _ _ _ => rfl, .inl rfl, fun n hn => by simp at hn⟩
theorem Cls.same (h : Cls φ0 L last front j φ) (hs : ∀ x, x ≠ cutNm → x ≠ newNm → ψ x = φ x) : Cls φ0 L last front j ψ :=
  ⟨fun x h1 h2 h3 h4 => (hs x h1 h2).trans (h.off x h1 h2 h3 h4), by rw [hs _ (nameI_cut last).1 (nameI_cut last).2]; exact h.lst, fun n hn => (hs _ (nameI_cut n).1 (nameI_cut n).2).trans (h.gone n hn)⟩
theorem Cls.stageA (l : List ByteArray) (hl : ∀ n ∈ l, n = cutNm ∨ n = newNm) : ∀ m {φ : FN}, Cls φ0 L last front j φ → Cls φ0 L last front j (effL ((l.map rmO).take m) φ) := by
  induction l with
  | nil => intro m φ h; simpa [effL] using h
  | cons n l ih =>
    intro m φ h
    cases m with
    | zero => simpa [effL] using h
    | succ m =>
      rw [List.map_cons, List.take_succ_cons]
      show Cls φ0 L last front j (effL ((l.map rmO).take m) (effO (rmO n) φ))
      refine ih (fun x hx => hl x (by simp [hx])) m (h.same (fun x h1 h2 => ?_))
      rw [effO_rm, if_neg]
      rcases hl n (by simp) with rfl | rfl
      · exact h1
      · exact h2
theorem Cls.stageB (m : Nat) (h : Cls φ0 L last front 0 φ) : Cls φ0 L last front 0 (effL ((cutOps last front).take m) φ) := by
  have hc := nameI_cut last
  have e1 : ∀ x, x ≠ cutNm → effO ⟨1, cutNm, ⟨#[]⟩, []⟩ φ x = φ x := fun x hx => by simp [effO, effK, hx]
  have q1 : effO ⟨1, cutNm, ⟨#[]⟩, []⟩ φ cutNm = some ⟨cutNm, [], 0⟩ := by simp [effO, effK]
  generalize g1 : effO ⟨1, cutNm, ⟨#[]⟩, []⟩ φ = φ1 at *
  have e2 : ∀ x, x ≠ cutNm → effO ⟨2, cutNm, ⟨#[]⟩, front⟩ φ1 x = φ1 x := fun x hx => by simp [effO, effK, hx, q1]
  have q2 : effO ⟨2, cutNm, ⟨#[]⟩, front⟩ φ1 cutNm = some ⟨cutNm, front, 0⟩ := by simp [effO, effK, q1]
  generalize g2 : effO ⟨2, cutNm, ⟨#[]⟩, front⟩ φ1 = φ2 at *
  have e3 : ∀ x, x ≠ cutNm → effO ⟨3, cutNm, ⟨#[]⟩, []⟩ φ2 x = φ2 x := fun x hx => by simp [effO, effK, hx, q2]
  have q3 : effO ⟨3, cutNm, ⟨#[]⟩, []⟩ φ2 cutNm = some ⟨cutNm, front, front.length⟩ := by simp [effO, effK, q2]
  generalize g3 : effO ⟨3, cutNm, ⟨#[]⟩, []⟩ φ2 = φ3 at *
  have e4 : ∀ x, x ≠ cutNm → x ≠ nameI last → effO ⟨4, cutNm, nameI last, []⟩ φ3 x = φ3 x := fun x hx h2 => by simp [effO, effK, hx, h2, q3]
  have q4 : effO ⟨4, cutNm, nameI last, []⟩ φ3 (nameI last) = some ⟨nameI last, front, front.length⟩ := by simp [effO, effK, q3]
  generalize g4 : effO ⟨4, cutNm, nameI last, []⟩ φ3 = φ4 at *
  match m with
  | 0 => simpa [effL] using h
  | 1 =>
    show Cls φ0 L last front 0 (effO ⟨1, cutNm, ⟨#[]⟩, []⟩ φ)
    rw [g1]; exact h.same (fun x h1 h2 => e1 x h1)
  | 2 =>
    show Cls φ0 L last front 0 (effO ⟨2, cutNm, ⟨#[]⟩, front⟩ (effO ⟨1, cutNm, ⟨#[]⟩, []⟩ φ))
    rw [g1, g2]; exact h.same (fun x h1 h2 => (e2 x h1).trans (e1 x h1))
  | 3 =>
    show Cls φ0 L last front 0 (effO ⟨3, cutNm, ⟨#[]⟩, []⟩ (effO ⟨2, cutNm, ⟨#[]⟩, front⟩ (effO ⟨1, cutNm, ⟨#[]⟩, []⟩ φ)))
    rw [g1, g2, g3]; exact h.same (fun x h1 h2 => (e3 x h1).trans ((e2 x h1).trans (e1 x h1)))
  | m + 4 =>
    have e : (cutOps last front).take (m + 4) = cutOps last front := List.take_of_length_le (by show 4 ≤ m + 4; omega)
    rw [e]
    show Cls φ0 L last front 0 (effO ⟨4, cutNm, nameI last, []⟩ (effO ⟨3, cutNm, ⟨#[]⟩, []⟩ (effO ⟨2, cutNm, ⟨#[]⟩, front⟩ (effO ⟨1, cutNm, ⟨#[]⟩, []⟩ φ))))
    rw [g1, g2, g3, g4]
    exact ⟨fun x h1 h2 h3 h4 => (e4 x h1 h3).trans ((e3 x h1).trans ((e2 x h1).trans ((e1 x h1).trans (h.off x h1 h2 h3 h4)))), .inr q4, fun n hn => by simp at hn⟩
theorem Cls.stageC (hi : Inc L) (hL : ∀ n ∈ L, 1 ≤ n ∧ n ≤ 99999999) (hk : k < L.length) (hla : last = lastN L) (h : Cls φ0 L last front 0 φ) : ∀ m, m ≤ k → Cls φ0 L last front m (effL ((((L.take k).map nameI).map rmO).take m) φ)
  | 0, _ => by simpa [effL] using h
  | m + 1, hm => by
    have ih := Cls.stageC hi hL hk hla h m (by omega)
    have hml : m < L.length := by omega
    have e1 : (((L.take k).map nameI).map rmO).take (m + 1) = (((L.take k).map nameI).map rmO).take m ++ [rmO (nameI L[m])] := by
      rw [List.take_succ_eq_append_getElem (by rw [List.length_map, List.length_map, List.length_take]; omega)]
      simp
    have e2 : L.take (m + 1) = L.take m ++ [L[m]] := List.take_succ_eq_append_getElem hml
    rw [e1, effL_append]
    have hm1 : L[m] ∈ L.take k := by
      rw [List.mem_iff_getElem]
      exact ⟨m, by rw [List.length_take]; omega, by rw [List.getElem_take]⟩
    have hlt := inc_take_last hi hk hm1
    have hne : nameI last ≠ nameI L[m] := fun e => by
      have := nameI_inj (hL _ (by rw [hla]; exact lastN_mem (by intro e0; rw [e0] at hml; simp at hml))) (hL _ (List.getElem_mem hml)) e
      omega
    have hef : ∀ x, effL [rmO (nameI L[m])] (effL ((((L.take k).map nameI).map rmO).take m) φ) x = if x = nameI L[m] then none else effL ((((L.take k).map nameI).map rmO).take m) φ x := fun x => effO_rm _ _ _
    refine ⟨fun x h1 h2 h3 h4 => ?_, ?_, fun n hn => ?_⟩
    · rw [e2] at h4
      rw [hef, if_neg (h4 _ (List.mem_append_right _ (List.mem_singleton.2 rfl)))]
      exact ih.off x h1 h2 h3 (fun n hn => h4 n (List.mem_append_left _ hn))
    · rw [hef, if_neg hne]; exact ih.lst
    · rw [hef]
      by_cases hx : nameI n = nameI L[m]
      · rw [if_pos hx]
      · rw [if_neg hx]
        rw [e2] at hn
        rcases List.mem_append.1 hn with hn | hn
        · exact ih.gone n hn
        · rw [List.mem_singleton] at hn
          exact absurd (by rw [hn]) hx
theorem Cls.stageD (hf : ∀ f, φ0 (nameI last) = some f → f.d = f.b.length ∧ f.name = nameI last) (m : Nat) (h : Cls φ0 L last front j φ) : Cls φ0 L last front j (effL ([(⟨3, nameI last, ⟨#[]⟩, []⟩ : OP)].take m) φ) := by
  cases m with
  | zero => simpa [effL] using h
  | succ m =>
    have e : [(⟨3, nameI last, ⟨#[]⟩, []⟩ : OP)].take (m + 1) = [⟨3, nameI last, ⟨#[]⟩, []⟩] := List.take_of_length_le (by simp)
    rw [e]
    have hs : effL [⟨3, nameI last, ⟨#[]⟩, []⟩] φ = φ := by
      funext x
      show effO ⟨3, nameI last, ⟨#[]⟩, []⟩ φ x = φ x
      unfold effO effK
      cases hq : φ (nameI last) with
      | none => simp [hq]
      | some f =>
        have hfd : f.d = f.b.length ∧ f.name = nameI last := by
          rcases h.lst with h1 | h1
          · exact hf f (by rw [← h1]; exact hq)
          · rw [h1] at hq; cases hq; exact ⟨rfl, rfl⟩
        have e2 : (⟨nameI last, f.b, f.b.length⟩ : DF) = f := by rw [← hfd.2, ← hfd.1]
        by_cases hx : x = nameI last
        · simp [hx, hq, e2]
        · simp [hx, hq]
    rw [hs]; exact h
end

/-- However far a repair comes. -/
theorem open_cls {E : DS} (hd : E.down = false) (h : (findS E).code = 0) (hL : segsD E ≠ []) (hf : ∀ x f, fnd E x = some f → f.d = f.b.length ∧ f.name = x) (F : DS) (hF : fnd F = fnd E) (hFd : (openS doR F) = stepsG doR F (openOps (findS E) E)) :
    ∃ j, j ≤ (findS E).older.length ∧ Cls (fnd E) (segsD E) (findS E).last (findS E).front j (fnd (openS doR F).1) ∧ (openS doR F).1.room = F.room := by
  rcases find_shape hd h with ⟨hL0, -⟩ | ⟨-, k, -, hk, ho, hla, -, -, hl1, hl2⟩
  · exact absurd hL0 hL
  rw [hFd]
  obtain ⟨m, hm, e1, e2, -⟩ := steps_eff (openOps (findS E) E) F
  rw [e1, hF]
  have hl0 : (findS E).last ≠ 0 := by omega
  have hmem : ∀ n ∈ segsD E, 1 ≤ n ∧ n ≤ 99999999 := fun n hn => mem_segs hn
  have hcC : cleanL E ((findS E).older.map nameI) = (((segsD E).take k).map nameI).map rmO := by
    rw [cleanL_filter, ho, List.filter_eq_self.2]
    intro x hx
    obtain ⟨n, hn, rfl⟩ := List.mem_map.1 hx
    exact ((mem_segs_fnd E n).1 (List.mem_of_mem_take hn)).2.2
  have hops : openOps (findS E) E = cleanL E [cutNm, newNm] ++ ((if (findS E).torn = 0 then [] else cutOps (findS E).last (findS E).front) ++ ((((segsD E).take k).map nameI).map rmO ++ [⟨3, nameI (findS E).last, ⟨#[]⟩, []⟩])) := by
    unfold openOps; rw [if_neg hl0, hcC, List.append_assoc]
  suffices key : ∃ j, j ≤ (findS E).older.length ∧ Cls (fnd E) (segsD E) (findS E).last (findS E).front j (effL ((openOps (findS E) E).take m) (fnd E)) by
    obtain ⟨j, h1, h2⟩ := key
    exact ⟨j, h1, h2, e2⟩
  rw [hops]
  obtain ⟨A, hA⟩ : ∃ A, A = cleanL E [cutNm, newNm] := ⟨_, rfl⟩
  have hAl : A = ([cutNm, newNm].filter fun n => (fnd E n).isSome).map rmO := by rw [hA]; rfl
  obtain ⟨B, hB⟩ : ∃ B, B = (if (findS E).torn = 0 then [] else cutOps (findS E).last (findS E).front) := ⟨_, rfl⟩
  rw [← hA, ← hB]
  rw [List.take_append, effL_append, List.take_append, effL_append, List.take_append, effL_append]
  have c1 : Cls (fnd E) (segsD E) (findS E).last (findS E).front 0 (effL (A.take m) (fnd E)) := by
    rw [hAl]
    refine Cls.stageA _ (fun n hn => ?_) m Cls.refl
    have := (List.mem_filter.1 hn).1
    simpa using this
  have c2 : Cls (fnd E) (segsD E) (findS E).last (findS E).front 0 (effL (B.take (m - A.length)) (effL (A.take m) (fnd E))) := by
    rw [hB]
    split
    · simpa [effL] using c1
    · exact Cls.stageB _ c1
  generalize hm3 : m - A.length - B.length = m3
  generalize effL (B.take (m - A.length)) (effL (A.take m) (fnd E)) = φ2 at *
  obtain ⟨j, hj, c3⟩ : ∃ j, j ≤ k ∧ Cls (fnd E) (segsD E) (findS E).last (findS E).front j (effL (((((segsD E).take k).map nameI).map rmO).take m3) φ2) := by
    rcases Nat.le_total m3 k with h1 | h1
    · exact ⟨m3, h1, Cls.stageC (inc_refL _) hmem hk hla c2 m3 h1⟩
    · refine ⟨k, Nat.le_refl _, ?_⟩
      have e : ((((segsD E).take k).map nameI).map rmO).take m3 = ((((segsD E).take k).map nameI).map rmO).take k := by
        have hlC : ((((segsD E).take k).map nameI).map rmO).length = k := by simp; omega
        generalize (((segsD E).take k).map nameI).map rmO = C at *
        rw [List.take_of_length_le (l := C) (by omega), List.take_of_length_le (l := C) (by omega)]
      rw [e]
      exact Cls.stageC (inc_refL _) hmem hk hla c2 k (Nat.le_refl _)
  refine ⟨j, by rw [ho, List.length_take]; omega, Cls.stageD (fun f h1 => hf _ f h1) _ c3⟩

theorem crash_find (ks : List Int) : ∀ (l : List DF) (x : ByteArray), findD (crashF l ks) x = none ∧ findD l x = none ∨ ∃ f k, findD l x = some f ∧ findD (crashF l ks) x = some (cutF f k) := by
  intro l
  induction l generalizing ks with
  | nil => intro x; exact .inl ⟨rfl, rfl⟩
  | cons a l ih =>
    intro x
    have e : crashF (a :: l) ks = cutF a ks[0]? :: crashF l (ks.drop 1) := by
      have := crashF_append [a] l ks
      simp [crashF] at this ⊢
    rw [e, findD, findD]
    by_cases h : a.name = x
    · rw [if_pos h, if_pos (show (cutF a ks[0]?).name = x from h)]
      exact .inr ⟨a, _, rfl, rfl⟩
    · rw [if_neg h, if_neg (show ¬ (cutF a ks[0]?).name = x from h)]
      exact ih (ks.drop 1) x
theorem cutN_zero {f : DF} (h : f.d = f.b.length) (k : Option Int) : cutN f k = 0 := by
  unfold cutN
  split
  · omega
  · rfl
theorem cutF_same {f : DF} (h : f.d = f.b.length) (k : Option Int) : cutF f k = f := by
  unfold cutF
  rw [cutN_zero h, Nat.add_zero, h, List.take_length, ← h]
theorem crash_same {l : List DF} (ks : List Int) {x : ByteArray} (h : ∀ f, findD l x = some f → f.d = f.b.length) : findD (crashF l ks) x = findD l x := by
  rcases crash_find ks l x with ⟨h1, h2⟩ | ⟨f, k, h1, h2⟩
  · rw [h1, h2]
  · rw [h1, h2, cutF_same (h f h1)]

theorem contD_congr {E F : DS} (hed : E.down = false) (hd : F.down = false) (n : Int) (h : fnd E (nameI n) = fnd F (nameI n)) : contD E n = contD F n := by
  unfold contD
  rw [readD_up hed, readD_up hd, show findD E.files (nameI n) = findD F.files (nameI n) from h]
/-- A log behind a repair that was broken off. -/
theorem find_cls {F E : DS} (hd : F.down = false) (h : (findS F).code = 0) (hL : segsD F ≠ []) (hed : E.down = false) {j : Nat} (hj : j ≤ (findS F).older.length) (hc : Cls (fnd F) (segsD F) (findS F).last (findS F).front j (fnd E)) :
    (findS E).code = 0 ∧ (findS E).recs = (findS F).recs ∧ (findS E).last = (findS F).last ∧ (findS E).front = (findS F).front ∧ segsD E ≠ [] := by
  rcases find_shape hd h with ⟨hL0, -⟩ | ⟨-, k, hkk, hk, ho, hla, hfr, -, hl1, hl2⟩
  · exact absurd hL0 hL
  have hjk : j ≤ k := by rw [ho, List.length_take] at hj; omega
  have hinc : Inc (segsD F) := inc_refL _
  have hfs : findS F = findG (contD F) (segsD F) := by unfold findS; rw [hd]; rfl
  have hse : segsD E = (segsD F).drop j := by
    refine inc_ext (inc_refL _) (hinc.sublist (List.drop_sublist _ _)) (fun n => ?_)
    constructor
    · intro hn
      obtain ⟨h1, h2, h3⟩ := (mem_segs_fnd E n).1 hn
      have hnt : n ∉ (segsD F).take j := fun hm => by rw [hc.gone n hm] at h3; cases h3
      have hin : n ∈ segsD F := by
        by_cases hx : n = lastN (segsD F)
        · rw [hx]; exact lastN_mem hL
        · refine (mem_segs_fnd F n).2 ⟨h1, h2, ?_⟩
          rw [← hc.off (nameI n) (nameI_cut n).1 (nameI_cut n).2 (fun e => hx (by rw [← hla]; exact nameI_inj ⟨h1, h2⟩ ⟨hl1, hl2⟩ e)) (fun m hm e => hnt (by
            have := nameI_inj ⟨h1, h2⟩ (mem_segs (List.mem_of_mem_take hm)) e
            rw [this]; exact hm))]
          exact h3
      rw [← List.take_append_drop j (segsD F)] at hin
      rcases List.mem_append.1 hin with h4 | h4
      · exact absurd h4 hnt
      · exact h4
    · intro hn
      have hin := List.mem_of_mem_drop hn
      obtain ⟨h1, h2, h3⟩ := (mem_segs_fnd F n).1 hin
      refine (mem_segs_fnd E n).2 ⟨h1, h2, ?_⟩
      by_cases hx : n = (findS F).last
      · rw [hx] at h3 ⊢
        rcases hc.lst with h4 | h4
        · rw [h4]; exact h3
        · rw [h4]; rfl
      · rw [hc.off (nameI n) (nameI_cut n).1 (nameI_cut n).2 (fun e => hx (nameI_inj ⟨h1, h2⟩ ⟨hl1, hl2⟩ e)) (fun m hm e => by
          have e2 := nameI_inj ⟨h1, h2⟩ (mem_segs (List.mem_of_mem_take hm)) e
          obtain ⟨a, ha, e3⟩ := List.mem_iff_getElem.1 hm
          obtain ⟨b, hb, e4⟩ := List.mem_iff_getElem.1 hn
          rw [List.length_take] at ha
          rw [List.length_drop] at hb
          rw [List.getElem_take] at e3
          rw [List.getElem_drop] at e4
          have := List.pairwise_iff_getElem.1 hinc a (j + b) (by omega) (by omega) (by omega)
          omega)]
        exact h3
  have hcont : ∀ n ∈ (segsD F).drop j, n ≠ lastN (segsD F) → contD E n = contD F n := fun n hn hx => by
    obtain ⟨h1, h2, h3⟩ := (mem_segs_fnd F n).1 (List.mem_of_mem_drop hn)
    refine contD_congr hed hd n (hc.off (nameI n) (nameI_cut n).1 (nameI_cut n).2 (fun e => hx (by rw [← hla]; exact nameI_inj ⟨h1, h2⟩ ⟨hl1, hl2⟩ e)) (fun m hm e => by
      have e2 := nameI_inj ⟨h1, h2⟩ (mem_segs (List.mem_of_mem_take hm)) e
      obtain ⟨a, ha, e3⟩ := List.mem_iff_getElem.1 hm
      obtain ⟨b, hb, e4⟩ := List.mem_iff_getElem.1 hn
      rw [List.length_take] at ha
      rw [List.length_drop] at hb
      rw [List.getElem_take] at e3
      rw [List.getElem_drop] at e4
      have := List.pairwise_iff_getElem.1 hinc a (j + b) (by omega) (by omega) (by omega)
      omega))
  have hlast : contD E (lastN (segsD F)) = contD F (lastN (segsD F)) ∨ contD E (lastN (segsD F)) = (contD F (lastN (segsD F))).take (splitB (contD F (lastN (segsD F)))).2 := by
    rw [← hfr, ← hla]
    rcases hc.lst with h4 | h4
    · refine .inl ?_
      unfold contD
      rw [readD_up hed, readD_up hd, show findD E.files (nameI (findS F).last) = findD F.files (nameI (findS F).last) from h4]
    · exact .inr (contD_some hed h4)
  have hfg : (findG (contD F) (segsD F)).code = 0 := by rw [← hfs]; exact h
  have hr := findG_cut (g := contD F) (g' := contD E) (L := segsD F) (j := j) (k := k) hinc hL hkk hjk hfg hcont hlast
  have hse2 : findS E = findG (contD E) (segsD E) := by unfold findS; rw [hed]; rfl
  rw [hse2, hse, hr, ← hfs]
  exact ⟨rfl, rfl, hla.symm, rfl, fun e => by have := congrArg List.length e; rw [List.length_drop] at this; simp at this; omega⟩
end Go.Proofs.YtgdmdbdljmlkkaaGreatDoor
