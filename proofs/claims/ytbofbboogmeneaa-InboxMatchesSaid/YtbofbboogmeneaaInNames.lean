/- The names of an inbox: the keys of its two maps, sorted, each one once. -/
import Derived.Test.YtbofbboogmeneaaSeqs
import Derived.Test.YtbofbboogmeneaaInAlive
import Derived.Test.YtbofbboogmeneaaShelf
import Derived.Lib.SlicesCompact
import Derived.Sort.OwnSorted
namespace Go.Proofs.Ytbofbboogmeneaa
set_option linter.unusedVariables false
set_option linter.unusedSimpArgs false
open Go.RowKit Go.Maps Go.Sort Go.Shelf Go.Proofs Go.WideElems Go.WideShapes

theorem length_le_of_nodup {α : Type} [DecidableEq α] : ∀ {l L : List α}, l.Nodup → (∀ x ∈ l, x ∈ L) → l.length ≤ L.length
  | [], _, _, _ => Nat.zero_le _
  | a :: l, L, hn, hs => by
    have ha : a ∈ L := hs a (List.mem_cons_self ..)
    obtain ⟨hal, hn'⟩ := List.nodup_cons.1 hn
    have h1 := length_le_of_nodup (L := L.erase a) hn' (fun x hx => (List.mem_erase_of_ne (by rintro rfl; exact hal hx)).2 (hs x (List.mem_cons_of_mem _ hx)))
    rw [List.length_erase_of_mem ha] at h1
    have h2 := List.length_pos_of_mem ha
    simp only [List.length_cons]; omega

theorem get_ne_none {κ : Type} [DecidableEq κ] (l : List (κ × Value)) (k : κ) : get l k ≠ none ↔ k ∈ l.map (·.1) := by
  induction l with
  | nil => simp [get]
  | cons p l ih =>
    simp only [get, List.map_cons, List.mem_cons]
    by_cases h : k = p.1
    · simp [h]
    · simp [h]; simpa using ih

/-- How an entry reads if its value does not count. -/
def anyR {H : Type} : Value → Option (DataW H × List MemPlace) := fun _ => some (.nil, [])

theorem map_names {w : World} {b : Nat} {F : ByteArray → Option Value} (h : MapFn w Value.string b F) (L : List ByteArray) (hc : ∀ n, F n ≠ none → n ∈ L) (hs : ∀ n ∈ L, n.size ≤ maxLen) (hL : L.length ≤ maxLen) :
    ∃ D0 : DataW Unit, w.ownsMap Try.prog 9 anyR b L.length D0 ∧ size D0 ≤ L.length ∧ ∀ ss : List (List UInt8), ss.Perm (strKeys D0) → ss.Nodup ∧ ∀ x, x ∈ ss ↔ F ⟨x.toArray⟩ ≠ none := by
  obtain ⟨es, clock, l, hb, hE, hnd, hborn, hbnd, hget⟩ := h
  have hmem : ∀ k, k ∈ l.map (·.1) ↔ F k ≠ none := fun k => by rw [← hget k]; exact (get_ne_none l k).symm
  have hlen : es.size = l.length := by have := congrArg List.length hE; simpa using this
  have hle : l.length ≤ L.length := by
    have := length_le_of_nodup hnd (fun x hx => hc x ((hmem x).1 hx))
    simpa using this
  have hkeys : es.toList.map (·.key) = l.map fun p => Value.string p.1 := by
    have := congrArg (List.map (·.1)) hE
    simpa [List.map_map, Function.comp_def] using this
  have hkey : ∀ x ∈ es.toList, ∃ s : ByteArray, x.key = .string s ∧ s.size ≤ maxLen := fun x hx => by
    have : x.key ∈ l.map fun p => Value.string p.1 := hkeys ▸ List.mem_map.2 ⟨x, hx, rfl⟩
    obtain ⟨p, hp, he⟩ := List.mem_map.1 this
    exact ⟨p.1, he.symm, hs _ (hc _ ((hmem _).1 (List.mem_map.2 ⟨p, hp, rfl⟩)))⟩
  have hrd : ∀ x ∈ es.toList, ∀ s, x.key = .string s → s.size ≤ maxLen → Go.WideElems.rd (H := Unit) Try.prog 9 anyR x = some (.string s.data.toList, .nil) := fun x hx s hk hsz => by
    have hsz' : s.data.size ≤ maxLen := hsz
    have h1 : keyOf Try.prog 9 x.key = some (.string s.data.toList) := by
      rw [hk]; simp [keyOf, Try.underlying9, mapKey, hsz', hsz]
    simp [Go.WideElems.rd, h1, anyR]
  refine ⟨_, ⟨es, clock, hb, ⟨by omega, ⟨hborn, hbnd, ?_⟩, fun x hx => ?_⟩, by omega, rfl⟩, ?_, fun ss hss => ?_⟩
  · rw [hkeys]
    have : (l.map fun p => Value.string p.1) = (l.map (·.1)).map Value.string := by rw [List.map_map]; rfl
    rw [this]
    exact List.pairwise_map.2 (hnd.imp (fun h e => h (by injection e)))
  · obtain ⟨s, hk, hsz⟩ := hkey x hx
    exact ⟨_, hrd x hx s hk hsz⟩
  · rw [size_eq, DataW.length_sorted]; simp; omega
  · have hp : (strKeys (DataW.map ((es.toList.map (Go.WideElems.rg (H := Unit) Try.prog 9 anyR)).foldr DataW.insert []))).Perm (l.map fun p => p.1.data.toList) := by
      have h1 : strKeys (DataW.map ((es.toList.map (Go.WideElems.rg (H := Unit) Try.prog 9 anyR)).foldr DataW.insert [])) = ((es.toList.map (Go.WideElems.rg (H := Unit) Try.prog 9 anyR)).foldr DataW.insert []).map fun p => strOf p.1 := rfl
      rw [h1]
      refine ((sorted_perm _).map _).trans ?_
      rw [List.map_map]
      have h2 : es.toList.map ((fun p : Lit × DataW Unit => strOf p.1) ∘ Go.WideElems.rg (H := Unit) Try.prog 9 anyR) = (es.toList.map (·.key)).map (fun v => match v with | .string s => s.data.toList | _ => []) := by
        rw [List.map_map]
        refine List.map_congr_left fun x hx => ?_
        obtain ⟨s, hk, hsz⟩ := hkey x hx
        simp [Go.WideElems.rg, hrd x hx s hk hsz, strOf, hk]
      rw [h2, hkeys, List.map_map]
      exact List.Perm.of_eq rfl
    have hp2 := hss.trans hp
    constructor
    · refine hp2.nodup_iff.2 ?_
      have : (l.map fun p => p.1.data.toList) = (l.map (·.1)).map (fun s : ByteArray => s.data.toList) := by rw [List.map_map]; rfl
      rw [this]
      refine List.pairwise_map.2 (hnd.imp (fun {a b} h e => h ?_))
      cases a; cases b; simpa using e
    · intro x
      rw [hp2.mem_iff, List.mem_map]
      rw [← hmem]
      constructor
      · rintro ⟨p, hp, rfl⟩
        exact List.mem_map.2 ⟨p, hp, rfl⟩
      · intro hx
        obtain ⟨p, hp, he⟩ := List.mem_map.1 hx
        exact ⟨p, hp, by rw [he]⟩

/-! ### Sorted, each one once -/
abbrev leS : List UInt8 → List UInt8 → Bool := fun x y => decide (x ≤ y)
theorem sortS_perm (l : List (List UInt8)) : (l.mergeSort leS).Perm l := List.mergeSort_perm l leS
theorem sortS_sorted (l : List (List UInt8)) : (l.mergeSort leS).Pairwise (· ≤ ·) := by
  have tr : ∀ a b c : List UInt8, leS a b = true → leS b c = true → leS a c = true := fun a b c h1 h2 => by simp only [leS, decide_eq_true_eq] at *; exact List.le_trans h1 h2
  have to : ∀ a b : List UInt8, (leS a b || leS b a) = true := fun a b => by simp only [leS, Bool.or_eq_true, decide_eq_true_eq]; exact List.le_total a b
  exact (List.pairwise_mergeSort tr to l).imp (fun h => by simpa [leS] using h)
theorem ltS_of {x y : List UInt8} (h : x ≤ y) (hn : x ≠ y) : x < y := by
  refine Classical.byContradiction fun h2 => hn (List.le_antisymm h ?_)
  exact List.not_lt.1 h2

theorem compactUpTo_sorted {d : Array (List UInt8)} (hd : ∀ i j, i ≤ j → j < d.size → d[i]! ≤ d[j]!) : ∀ m, m ≤ d.size →
    (Lib.compactUpTo d m).Pairwise (· < ·) ∧ (∀ x, x ∈ Lib.compactUpTo d m ↔ ∃ j, j < m ∧ d[j]! = x)
  | 0, _ => by simp [Lib.compactUpTo]
  | m + 1, hm => by
    obtain ⟨h1, h2⟩ := compactUpTo_sorted hd m (by omega)
    rw [Lib.compactUpTo_succ]
    by_cases hk : Lib.keeps d m = true
    · rw [if_pos hk]
      refine ⟨List.pairwise_append.2 ⟨h1, by simp, fun a ha b hb => ?_⟩, fun x => ?_⟩
      · obtain rfl : b = d[m]! := by simpa using hb
        obtain ⟨j, hj, rfl⟩ := (h2 a).1 ha
        have hne : d[m]! ≠ d[m - 1]! := by
          simp only [Lib.keeps, decide_eq_true_eq] at hk
          rcases hk with h | h
          · omega
          · exact h
        have ha1 : d[j]! ≤ d[m - 1]! := hd _ _ (by omega) (by omega)
        have ha2 : d[m - 1]! < d[m]! := ltS_of (hd _ _ (by omega) (by omega)) (fun e => hne e.symm)
        exact List.lt_of_le_of_lt ha1 ha2
      · rw [List.mem_append, h2]
        constructor
        · rintro (⟨j, hj, rfl⟩ | h)
          · exact ⟨j, by omega, rfl⟩
          · exact ⟨m, by omega, (List.mem_singleton.1 h).symm⟩
        · rintro ⟨j, hj, rfl⟩
          rcases Nat.lt_or_ge j m with h | h
          · exact .inl ⟨j, h, rfl⟩
          · have : j = m := by omega
            subst this; exact .inr (by simp)
    · rw [if_neg hk, List.append_nil]
      refine ⟨h1, fun x => (h2 x).trans ⟨fun ⟨j, hj, e⟩ => ⟨j, by omega, e⟩, ?_⟩⟩
      rintro ⟨j, hj, rfl⟩
      rcases Nat.lt_or_ge j m with h | h
      · exact ⟨j, h, rfl⟩
      · have : j = m := by omega
        subst this
        simp only [Lib.keeps, decide_eq_true_eq, not_or, Classical.not_not] at hk
        exact ⟨j - 1, by omega, hk.2.symm⟩

theorem compact_sorted (l : List (List UInt8)) : (Lib.compact (l.mergeSort leS)).Pairwise (· < ·) ∧ ∀ x, x ∈ Lib.compact (l.mergeSort leS) ↔ x ∈ l := by
  have hd : ∀ i j, i ≤ j → j < (l.mergeSort leS).toArray.size → (l.mergeSort leS).toArray[i]! ≤ (l.mergeSort leS).toArray[j]! := by
    intro i j hij hj
    have hj' : j < (l.mergeSort leS).length := by simpa using hj
    rcases Nat.lt_or_ge i j with h | h
    · have := List.pairwise_iff_getElem.1 (sortS_sorted l) i j (by omega) hj' h
      simpa [List.getElem?_eq_getElem hj', List.getElem?_eq_getElem (show i < (l.mergeSort leS).length by omega)] using this
    · have : i = j := by omega
      subst this
      exact List.le_refl _
  obtain ⟨h1, h2⟩ := compactUpTo_sorted hd (l.mergeSort leS).length (by simp)
  refine ⟨h1, fun x => (h2 x).trans ?_⟩
  rw [← (sortS_perm l).mem_iff (a := x), List.mem_iff_getElem]
  constructor
  · rintro ⟨j, hj, rfl⟩
    exact ⟨j, hj, by simp [List.getElem?_eq_getElem hj]⟩
  · rintro ⟨j, hj, rfl⟩
    exact ⟨j, hj, by simp [List.getElem?_eq_getElem hj]⟩

theorem grow_none (w : World) : Sort.grow w #[] = w := by
  unfold Sort.grow; simp

/-- Sorting and dropping what is twice, on a row of the call's own. -/
theorem sort_compactS (v : Value) (l : List (List UInt8)) (w : World) (base : Nat) (hown : w.ownsRow base 9 1 v l.length (l.map encStr)) (hs : l.length ≤ 10000) (hbase : base ≤ w.heap.size) :
    Calls Try.prog 45 #[v] w fun e w1 => e = .returned (.tuple #[]) ∧ Below base w w1 ∧
      Calls Try.prog 46 #[v] w1 fun e w2 => ∃ v', e = .returned v' ∧ Reads w2 v' (Lib.compact (l.mergeSort leS)).length 1 ((Lib.compact (l.mergeSort leS)).map encStr) ∧ Below base w1 w2 := by
  rcases hown.2 with ⟨rfl, hn⟩ | ⟨g, cap, cur, rfl, hbg, hg, hnc, hcm, hcs, htk⟩
  · obtain rfl : l = [] := List.eq_nil_of_length_eq_zero hn
    refine (Try.slices_Sort_string_none none 0 w).mono ?_
    rintro e w1 ⟨rfl, rfl⟩
    refine ⟨rfl, Below.refl _ _, ?_⟩
    refine (Try.slices_Compact_string_empty none 0 _).mono ?_
    rintro e w2 ⟨rfl, rfl⟩
    have e0 : Lib.compact (([] : List (List UInt8)).mergeSort leS) = [] := by simp [Lib.compact, Lib.compactUpTo]
    rw [e0]
    exact ⟨_, rfl, Reads.nil _ _, Below.refl _ _⟩
  · have hgl := (Array.getElem?_eq_some_iff.1 hg).1
    have hlen : (l.mergeSort leS).length = l.length := List.length_mergeSort _
    refine (Try.slices_Sort_string g 0 cap l w (holds_of_block hg (by rw [Nat.mul_one] at htk; exact htk)) hgl (by omega)).mono ?_
    rintro e w1 ⟨rfl, n, os, hw1⟩
    have hown1 : w1.ownsRow base 9 1 (.slice (some ⟨g, 0, none⟩) l.length cap) l.length ((l.mergeSort leS).map encStr) := by
      rw [hw1]; exact ownsRow_sorted hlen hbg hg hnc hcm hcs
    have hgr1 : w.grownBy w1 (some g) := by rw [hw1]; exact grownBy_sorted _
    clear hw1
    refine ⟨rfl, (Below.refl _ _).grown hgr1 hbase (fun k hk => by cases hk; exact hbg), ?_⟩
    have h1 := hgr1.size
    generalize l.mergeSort leS = z at *
    rcases hown1.2 with ⟨h, _⟩ | ⟨g1, cap1, cur1, hv1, hbg1, hg1, hnc1, hcm1, hcs1, htk1⟩
    · cases h
    · cases hv1
      have hgl1 := (Array.getElem?_eq_some_iff.1 hg1).1
      rw [← hlen]
      refine (Try.slices_Compact_string g 0 cap z w1 (holds_of_block hg1 (by rw [Nat.mul_one, ← hlen] at htk1; exact htk1)) (by omega) (by omega)).mono ?_
      rintro e w2 ⟨rfl, q, hw2⟩
      have hcl : (Lib.compact z).length ≤ z.length := by
        unfold Lib.compact Lib.compactUpTo
        rw [List.length_map]
        have := List.length_filter_le (Lib.keeps z.toArray) (List.range z.length)
        simpa using this
      have hown2 : w2.ownsRow base 9 1 (.slice (some ⟨g, 0, none⟩) z.length cap) z.length ((Lib.compact z ++ List.replicate (z.length - (Lib.compact z).length) []).map encStr) := by
        rw [hw2, ← grow_none (Sort.putRow _ _ _ _ _)]
        exact ownsRow_sorted (by simp; omega) hbg1 hg1 (by omega) hcm1 hcs1
      have hgr2 : w1.grownBy w2 (some g) := by
        rw [hw2, ← grow_none (Sort.putRow _ _ _ _ _)]; exact grownBy_sorted _
      refine ⟨_, rfl, ?_, (Below.refl _ _).grown hgr2 (by omega) (fun k hk => by cases hk; exact hbg)⟩
      have := (Row.ofOwns hown2).reads.take (Lib.compact z).length hcl
      rw [← List.map_take] at this
      simpa using this
end Go.Proofs.Ytbofbboogmeneaa
