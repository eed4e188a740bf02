/- MapNames -/
import Derived.Test.YtgdmdbdljmlkkaaGreatDoorTz08
import Derived.Test.YtgdmdbdljmlkkaaGreatDoorTz01
import Derived.Maps.AppendAt
import Derived.Sort.OwnSorted
import Derived.Sort.KeysCollected
set_option linter.unusedVariables false
set_option linter.unusedSimpArgs false
namespace Go.Proofs.YtgdmdbdljmlkkaaGreatDoor
open Go.RowKit Go.Maps Go.Sort Go.Shelf Go.Proofs Go.WideElems Go.WideShapes
theorem length_le_of_nodup {α : Type} [DecidableEq α] : ∀ {l L : List α}, l.Nodup → (∀ x ∈ l, x ∈ L) → l.length ≤ L.length
 | [], _, _, _ => Nat.zero_le _
 | a :: l, L, hn, hs => by
   have ha : a ∈ L := hs a (List.mem_cons_self ..)
   obtain ⟨hal, hn'⟩ := List.nodup_cons.1 hn
   have h1 := length_le_of_nodup (L := L.erase a) hn' (fun x hx => (List.mem_erase_of_ne (by rintro rfl; exact hal hx)).2 (hs x (List.mem_cons_of_mem _ hx)))
   rw [List.length_erase_of_mem ha] at h1
   have h2 := List.length_pos_of_mem ha
   simp only [List.length_cons]; omega
theorem get_ne_none {κ : Type} [DecidableEq κ] (l : List (κ × Value)) (k : κ) : get l k ≠ none ↔ k ∈ l.map (·.1) := by
 induction l with
 | nil => simp [get]
 | cons p l ih =>
   simp only [get, List.map_cons, List.mem_cons]
   by_cases h : k = p.1
   · simp [h]
   · simp [h]; simpa using ih
def anyR {H : Type} : Value → Option (DataW H × List MemPlace) := fun _ => some (.nil, [])
theorem map_names {w : World} {b : Nat} {F : ByteArray → Option Value} (h : MapFn w Value.string b F) (L : List ByteArray) (hc : ∀ n, F n ≠ none → n ∈ L) (hs : ∀ n ∈ L, n.size ≤ maxLen) (hL : L.length ≤ maxLen) :
   ∃ D0 : DataW Unit, w.ownsMap Tryz.prog 9 anyR b L.length D0 ∧ size D0 ≤ L.length ∧ ∀ ss : List (List UInt8), ss.Perm (strKeys D0) → ss.Nodup ∧ ∀ x, x ∈ ss ↔ F ⟨x.toArray⟩ ≠ none := by
 obtain ⟨es, clock, l, hb, hE, hnd, hborn, hbnd, hget⟩ := h
 have hmem : ∀ k, k ∈ l.map (·.1) ↔ F k ≠ none := fun k => by rw [← hget k]; exact (get_ne_none l k).symm
 have hlen : es.size = l.length := by have := congrArg List.length hE; simpa using this
 have hle : l.length ≤ L.length := by
   have := length_le_of_nodup hnd (fun x hx => hc x ((hmem x).1 hx))
   simpa using this
 have hkeys : es.toList.map (·.key) = l.map fun p => Value.string p.1 := by
   have := congrArg (List.map (·.1)) hE
   simpa [List.map_map, Function.comp_def] using this
 have hkey : ∀ x ∈ es.toList, ∃ s : ByteArray, x.key = .string s ∧ s.size ≤ maxLen := fun x hx => by
   have : x.key ∈ l.map fun p => Value.string p.1 := hkeys ▸ List.mem_map.2 ⟨x, hx, rfl⟩
   obtain ⟨p, hp, he⟩ := List.mem_map.1 this
   exact ⟨p.1, he.symm, hs _ (hc _ ((hmem _).1 (List.mem_map.2 ⟨p, hp, rfl⟩)))⟩
 have hrd : ∀ x ∈ es.toList, ∀ s, x.key = .string s → s.size ≤ maxLen → Go.WideElems.rd (H := Unit) Tryz.prog 9 anyR x = some (.string s.data.toList, .nil) := fun x hx s hk hsz => by
   have hsz' : s.data.size ≤ maxLen := hsz
   have h1 : keyOf Tryz.prog 9 x.key = some (.string s.data.toList) := by
     rw [hk]; simp [keyOf, Tryz.underlying9, mapKey, hsz', hsz]
   simp [Go.WideElems.rd, h1, anyR]
 refine ⟨_, ⟨es, clock, hb, ⟨by omega, ⟨hborn, hbnd, ?_⟩, fun x hx => ?_⟩, by omega, rfl⟩, ?_, fun ss hss => ?_⟩
 · rw [hkeys]
   have : (l.map fun p => Value.string p.1) = (l.map (·.1)).map Value.string := by rw [List.map_map]; rfl
   rw [this]
   exact List.pairwise_map.2 (hnd.imp (fun h e => h (by injection e)))
 · obtain ⟨s, hk, hsz⟩ := hkey x hx
   exact ⟨_, hrd x hx s hk hsz⟩
 · rw [size_eq, DataW.length_sorted]; simp; omega
 · have hp : (strKeys (DataW.map ((es.toList.map (Go.WideElems.rg (H := Unit) Tryz.prog 9 anyR)).foldr DataW.insert []))).Perm (l.map fun p => p.1.data.toList) := by
     have h1 : strKeys (DataW.map ((es.toList.map (Go.WideElems.rg (H := Unit) Tryz.prog 9 anyR)).foldr DataW.insert [])) = ((es.toList.map (Go.WideElems.rg (H := Unit) Tryz.prog 9 anyR)).foldr DataW.insert []).map fun p => strOf p.1 := rfl
     rw [h1]
     refine ((sorted_perm _).map _).trans ?_
     rw [List.map_map]
     have h2 : es.toList.map ((fun p : Lit × DataW Unit => strOf p.1) ∘ Go.WideElems.rg (H := Unit) Tryz.prog 9 anyR) = (es.toList.map (·.key)).map (fun v => match v with | .string s => s.data.toList | _ => []) := by
       rw [List.map_map]
       refine List.map_congr_left fun x hx => ?_
       obtain ⟨s, hk, hsz⟩ := hkey x hx
       simp [Go.WideElems.rg, hrd x hx s hk hsz, strOf, hk]
     rw [h2, hkeys, List.map_map]
     exact List.Perm.of_eq rfl
   have hp2 := hss.trans hp
   constructor
   · refine hp2.nodup_iff.2 ?_
     have : (l.map fun p => p.1.data.toList) = (l.map (·.1)).map (fun s : ByteArray => s.data.toList) := by rw [List.map_map]; rfl
     rw [this]
     refine List.pairwise_map.2 (hnd.imp (fun {a b} h e => h ?_))
     cases a; cases b; simpa using e
   · intro x
     rw [hp2.mem_iff, List.mem_map]
     rw [← hmem]
     constructor
     · rintro ⟨p, hp, rfl⟩
       exact List.mem_map.2 ⟨p, hp, rfl⟩
     · intro hx
       obtain ⟨p, hp, he⟩ := List.mem_map.1 hx
       exact ⟨p, hp, by rw [he]⟩
abbrev leS : List UInt8 → List UInt8 → Bool := fun x y => decide (x ≤ y)
theorem sortS_perm (l : List (List UInt8)) : (l.mergeSort leS).Perm l := List.mergeSort_perm l leS
theorem sortS_sorted (l : List (List UInt8)) : (l.mergeSort leS).Pairwise (· ≤ ·) := by
 have tr : ∀ a b c : List UInt8, leS a b = true → leS b c = true → leS a c = true := fun a b c h1 h2 => by simp only [leS, decide_eq_true_eq] at *; exact List.le_trans h1 h2
 have to : ∀ a b : List UInt8, (leS a b || leS b a) = true := fun a b => by simp only [leS, Bool.or_eq_true, decide_eq_true_eq]; exact List.le_total a b
 exact (List.pairwise_mergeSort tr to l).imp (fun h => by simpa [leS] using h)
theorem ltS_of {x y : List UInt8} (h : x ≤ y) (hn : x ≠ y) : x < y := by
 refine Classical.byContradiction fun h2 => hn (List.le_antisymm h ?_)
 exact List.not_lt.1 h2
end Go.Proofs.YtgdmdbdljmlkkaaGreatDoor
