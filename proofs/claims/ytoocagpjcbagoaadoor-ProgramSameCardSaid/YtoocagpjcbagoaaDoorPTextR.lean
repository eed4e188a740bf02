/- The text of a right program. -/
import Derived.Test.YtoocagpjcbagoaaDoorPGiven
import Derived.Test.YtoocagpjcbagoaaDoorPInj
import Derived.Test.YtoocagpjcbagoaaDoorPRCheck
import Derived.Test.YtoocagpjcbagoaaDoorPSame2
namespace Go.Proofs.YtoocagpjcbagoaaDoor
set_option linter.unusedVariables false
set_option linter.unusedSimpArgs false
open Go.RowKit

theorem join_le {s : List UInt8} {K : Nat} : ∀ {l : List (List UInt8)}, (∀ x ∈ l, x.length ≤ K) → (Lib.join l s).length ≤ l.length * (K + s.length)
  | [], _ => by simp [Lib.join, List.intercalate]
  | [x], h => by rw [join_one]; have := h x (by simp); simp; omega
  | x :: y :: r, h => by
    rw [join_cons2, List.length_append, List.length_append]
    have h1 := h x (by simp)
    have h2 := join_le (s := s) (l := y :: r) (fun u hu => h u (List.mem_cons_of_mem _ hu))
    rw [List.length_cons (a := x), Nat.add_mul, Nat.one_mul]
    omega

theorem wordB_len (k : Int) : (wordB k).length ≤ 5 := by
  unfold wordB
  rcases Nat.lt_or_ge k.toNat 13 with h | h
  · have h0 : ∀ i : Fin 13, (wordsL.getD i.val ⟨#[]⟩).data.toList.length ≤ 5 := by decide +kernel
    exact h0 ⟨_, h⟩
  · rw [List.getD_eq_getElem?_getD, List.getElem?_eq_none (by exact h)]; simp
theorem stext_len {x : ST} (h : x.ok) (hs : x.s.size ≤ 1000) : (stextB x).data.toList.length ≤ 3000 := by
  rw [stext_list, List.length_append]
  have h1 := wordB_len x.k
  have h2 : (sufB x).length ≤ 2010 := by
    unfold sufB
    split
    · have := Lib.itoa_length_le x.n h.2.1.1 h.2.1.2
      rw [List.length_cons]; omega
    · split
      · simp only [List.length_cons, List.length_append, List.length_nil, hexL_length]
        have : x.s.data.toList.length = x.s.size := bsize x.s
        omega
      · simp
  omega

theorem rightB_norm {x : ST} {np nl : Nat} (h : rightB x np nl = true) : NormS x ∧ x.s.size ≤ 1000 := by
  have e0 : ∀ {s : ByteArray}, s = ⟨#[]⟩ → s.size ≤ 1000 := fun e => by rw [e]; decide
  unfold rightB at h
  by_cases c1 : x.k = 1 ∨ x.k = 2
  · rw [if_pos c1] at h
    have h1 : x.s = ⟨#[]⟩ := of_decide_eq_true h
    exact ⟨⟨by omega, by omega, fun hn => absurd (by unfold numL; simp; omega) hn, fun _ => h1⟩, e0 h1⟩
  rw [if_neg c1] at h
  by_cases c2 : x.k = 3 ∨ x.k = 5
  · rw [if_pos c2] at h
    simp only [Bool.and_eq_true, decide_eq_true_eq] at h
    exact ⟨⟨by omega, by omega, fun _ => h.1.1, fun hn => absurd (by unfold namL; simp; omega) hn⟩, h.1.2⟩
  rw [if_neg c2] at h
  by_cases c3 : x.k = 4 ∨ x.k = 4
  · rw [if_pos c3] at h
    simp only [Bool.and_eq_true, decide_eq_true_eq] at h
    exact ⟨⟨by omega, by omega, fun hn => absurd (by unfold numL; simp; omega) hn, fun _ => h.1⟩, e0 h.1⟩
  rw [if_neg c3] at h
  by_cases c4 : x.k = 6 ∨ x.k = 6
  · rw [if_pos c4] at h
    simp only [Bool.and_eq_true, decide_eq_true_eq] at h
    exact ⟨⟨by omega, by omega, fun hn => absurd (by unfold numL; simp; omega) hn, fun _ => h.1⟩, e0 h.1⟩
  rw [if_neg c4] at h
  by_cases c5 : x.k = 7 ∨ x.k = 11
  · rw [if_pos c5] at h
    simp only [Bool.and_eq_true, decide_eq_true_eq] at h
    exact ⟨⟨by omega, by omega, fun _ => h.1, fun _ => h.2⟩, e0 h.2⟩
  rw [if_neg c5] at h
  by_cases c6 : x.k = 8 ∨ x.k = 9
  · rw [if_pos c6] at h
    simp only [Bool.and_eq_true, decide_eq_true_eq] at h
    exact ⟨⟨by omega, by omega, fun hn => absurd (by unfold numL; simp; omega) hn, fun _ => h.1⟩, e0 h.1⟩
  rw [if_neg c6] at h
  by_cases c7 : x.k = 10 ∨ x.k = 12
  · rw [if_pos c7] at h
    simp only [Bool.and_eq_true, decide_eq_true_eq] at h
    exact ⟨⟨by omega, by omega, fun _ => h.1, fun hn => absurd (by unfold namL; simp; omega) hn⟩, h.2⟩
  rw [if_neg c7] at h
  cases h

theorem RightP.of_map {P Q : List RT} (h : RightP P) (e : Q.map RT.l = P.map RT.l) : RightP Q := by
  have hl := map_l_len e
  refine ⟨by rw [hl]; exact h.1, by rw [hl]; exact h.2.1, fun r hr => ?_⟩
  obtain ⟨j, hj, rfl⟩ := List.mem_iff_getElem.1 hr
  have h1 := h.2.2 P[j] (List.getElem_mem (by omega))
  have h2 := map_l_eq e hj (by omega)
  unfold fineR at h1 ⊢
  rw [hl, h2]; exact h1
theorem RightP.norm {P : List RT} (h : RightP P) : ∀ l ∈ P.map RT.l, ∀ x ∈ l, NormS x := fun l hl x hx => by
  obtain ⟨r, hr, rfl⟩ := List.mem_map.1 hl
  exact (rightB_norm ((h.2.2 r hr).2 x hx)).1

def lpB (P : List RT) : ByteArray := ⟨(lpT (P.map RT.l)).toArray⟩
theorem textP_lp (P : List RT) : textP stextB P = lpB P := by
  unfold textP lpB lpT joinB
  congr 3
  rw [List.map_map, List.map_map]
  refine List.map_congr_left fun r _ => ?_
  simp only [Function.comp, textR, lrT, joinB, List.map_map, semi]
  rfl
theorem lpB_inj {P Q : List RT} (hP : RightP P) (hQ : RightP Q) : lpB P = lpB Q ↔ P.map RT.l = Q.map RT.l := by
  constructor
  · intro h
    refine lpT_inj ?_ ?_ hP.norm hQ.norm ?_
    · intro e; have := hP.1; simp at e; rw [e] at this; simp at this
    · intro e; have := hQ.1; simp at e; rw [e] at this; simp at this
    · unfold lpB at h
      have := congrArg (fun b : ByteArray => b.data.toList) h
      simpa using this
  · intro h; unfold lpB; rw [h]

theorem textR_len {P : List RT} {w : World} (h : RightP P) (hi : ∀ r ∈ P, r.inw w) : ∀ r ∈ P, (Lib.join ((r.l.map stextB).map (·.data.toList)) semi.data.toList).length ≤ 700000 := fun r hr => by
  have hf := h.2.2 r hr
  have := join_le (s := semi.data.toList) (K := 3000) (l := (r.l.map stextB).map (·.data.toList)) (fun u hu => by
    obtain ⟨b, hb, rfl⟩ := List.mem_map.1 hu
    obtain ⟨x, hx, rfl⟩ := List.mem_map.1 hb
    exact stext_len ((hi r hr).ok x hx) (rightB_norm (hf.2 x hx)).2)
  have h2 : semi.data.toList.length = 2 := rfl
  rw [h2, List.length_map, List.length_map] at this
  have := hf.1
  omega

theorem ptext_right (a : Option Addr) (c : Nat) (P : List RT) (w : World) (h : PrgU w (.slice a P.length c) P) (hr : RightP P) (hw : Words w) (ht : Tab w) :
    Calls Tryd.prog 12 #[.slice a P.length c] w fun e w' => e = .returned (.string (lpB P)) ∧ Below w.heap.size w w' := by
  rw [← textP_lp]
  have h20 := hr.2.1
  have hlr := textR_len hr h.each
  refine ptext_ok rightB stextB a c P w (h.prg (fun r h2 => by have := (hr.2.2 r h2).1; omega)) ⟨hr.1, hr.2.1⟩ hr.2.2 (fun r h2 x hx W => right_any x _ _ (by omega) (by have := (hr.2.2 r h2).1; omega) W) ?_ ?_ ?_
  · unfold Short
    have := join_le (s := bar.data.toList) (K := 700000) (l := (P.map (textR stextB)).map (·.data.toList)) (fun u hu => by
      obtain ⟨b, hb, rfl⟩ := List.mem_map.1 hu
      obtain ⟨r, hr2, rfl⟩ := List.mem_map.1 hb
      exact hlr r hr2)
    have h2 : bar.data.toList.length = 3 := rfl
    rw [h2, List.length_map, List.length_map] at this
    omega
  · intro r h2
    have := hlr r h2
    unfold Short; omega
  · intro r h2 x hx W hW
    have hn := rightB_norm ((hr.2.2 r h2).2 x hx)
    exact stext_any x ⟨hn.1.1, hn.1.2.1⟩ ((h.each r h2).ok x hx).2.1 (by have := hn.2; omega) W (hw.later hW) (tab_below ht hW)
end Go.Proofs.YtoocagpjcbagoaaDoor
