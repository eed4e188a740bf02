/- WRecs, RangeAll -/
import Derived.Test.YtgdmdbdljmlkkaaGreatDoorTz14
import Derived.Test.YtgdmdbdljmlkkaaGreatDoorTz15
import Derived.Sort.Walk0
import Derived.RangeFuncNested
import Derived.RangeFuncBound
import Derived.RangeFuncCalls
import Derived.RangeFuncLeaves
import Derived.Shelf.Abstract
import Derived.Shelf.RegionOpen
import Derived.WalkKit
import Derived.OwnWalkIn
import Derived.TacticsInMore
import Derived.LoopNIn
import Derived.LoopIn
set_option linter.unusedVariables false
set_option linter.unusedSimpArgs false
namespace Go.Proofs.YtgdmdbdljmlkkaaGreatDoor
open Go.RowKit
def nameI (n : Int) : ByteArray := if 1 ≤ n ∧ n ≤ 99999999 then ⟨(nameL n.toNat).toArray⟩ else ⟨#[]⟩
theorem nameI_yes {n : Nat} (h1 : 1 ≤ n) (h2 : n ≤ 99999999) : nameI n = ⟨(nameL n).toArray⟩ := by
 unfold nameI; rw [if_pos (by omega), Int.toNat_natCast]
theorem nameI_no {n : Int} (h : n < 1 ∨ 99999999 < n) : nameI n = ⟨#[]⟩ := by
 unfold nameI; rw [if_neg (by omega)]
theorem nameI_size (n : Int) : (nameI n).size ≤ 12 := by
 unfold nameI
 split
 · have := nameL_length n.toNat
   rw [Lib.size_eq]; simp [this]
 · exact Nat.zero_le _
structure LS where
 n : Int
 size : Int
 waiting : Int
 most : Int
 D : DS
structure DOps where
 app : DS → ByteArray → List UInt8 → DS × Int
 syn : DS → ByteArray → DS × Int
 cre : DS → ByteArray → DS × Int
def opsD : DOps := ⟨appendD, syncD, createD⟩
def opsF : DOps := ⟨fun D n b => doF 2 D n ⟨#[]⟩ b, fun D n => doF 3 D n ⟨#[]⟩ [], fun D n => doF 1 D n ⟨#[]⟩ []⟩
def rotG (O : DOps) (L : LS) : LS × Int :=
 if 99999999 ≤ L.n then (L, 2)
 else if (O.syn L.D (nameI L.n)).2 ≠ 0 then ({ L with D := (O.syn L.D (nameI L.n)).1 }, (O.syn L.D (nameI L.n)).2)
 else if (O.cre (O.syn L.D (nameI L.n)).1 (nameI (L.n + 1))).2 ≠ 0 then ({ L with D := (O.cre (O.syn L.D (nameI L.n)).1 (nameI (L.n + 1))).1 }, (O.cre (O.syn L.D (nameI L.n)).1 (nameI (L.n + 1))).2)
 else (⟨L.n + 1, 0, 0, L.most, (O.cre (O.syn L.D (nameI L.n)).1 (nameI (L.n + 1))).1⟩, 0)
def appG (O : DOps) (L : LS) (r : List UInt8) : LS × Int :=
 if (O.app L.D (nameI L.n) (frameB r)).2 ≠ 0 then ({ L with D := (O.app L.D (nameI L.n) (frameB r)).1 }, (O.app L.D (nameI L.n) (frameB r)).2)
 else (⟨L.n, L.size + (r.length + 8), L.waiting + 1, L.most, (O.app L.D (nameI L.n) (frameB r)).1⟩, 0)
def putG (O : DOps) (L : LS) (r : List UInt8) : LS × Int :=
 if r = [] then (L, 2)
 else if 1048576 < r.length ∨ L.most < (r.length : Int) + 8 then (L, 4)
 else if 0 < L.size ∧ L.most < L.size + (r.length + 8) then (if (rotG O L).2 ≠ 0 then rotG O L else appG O (rotG O L).1 r)
 else appG O L r
def synG (O : DOps) (L : LS) : LS × Int :=
 (⟨L.n, L.size, if (O.syn L.D (nameI L.n)).2 = 0 then 0 else L.waiting, L.most, (O.syn L.D (nameI L.n)).1⟩, (O.syn L.D (nameI L.n)).2)
structure RelL (L M : LS) : Prop where
 n : L.n = M.n
 size : L.size = M.size
 waiting : L.waiting = M.waiting
 most : L.most = M.most
 rel : Rel L.D M.D
theorem rel_app {D F : DS} (h : Rel D F) (n : ByteArray) (b : List UInt8) : (opsD.app D n b).2 = (opsF.app F n b).2 ∧ Rel (opsD.app D n b).1 (opsF.app F n b).1 := rel_append h n _ b
theorem rel_syn {D F : DS} (h : Rel D F) (n : ByteArray) : (opsD.syn D n).2 = (opsF.syn F n).2 ∧ Rel (opsD.syn D n).1 (opsF.syn F n).1 := rel_sync h n _ _
theorem rel_cre {D F : DS} (h : Rel D F) (n : ByteArray) : (opsD.cre D n).2 = (opsF.cre F n).2 ∧ Rel (opsD.cre D n).1 (opsF.cre F n).1 := rel_create h n _ _
theorem rel_rot {L M : LS} (h : RelL L M) : (rotG opsD L).2 = (rotG opsF M).2 ∧ RelL (rotG opsD L).1 (rotG opsF M).1 := by
 obtain ⟨h1, h2, h3, h4, h5⟩ := id h
 have s := rel_syn h5 (nameI M.n)
 have c := rel_cre s.2 (nameI (M.n + 1))
 unfold rotG
 rw [h1]
 by_cases g1 : 99999999 ≤ M.n
 · rw [if_pos g1, if_pos g1]; exact ⟨rfl, h⟩
 rw [if_neg g1, if_neg g1, s.1]
 by_cases g2 : (opsF.syn M.D (nameI M.n)).2 ≠ 0
 · rw [if_pos g2, if_pos g2]; exact ⟨rfl, rfl, h2, h3, h4, s.2⟩
 rw [if_neg g2, if_neg g2, c.1]
 by_cases g3 : (opsF.cre (opsF.syn M.D (nameI M.n)).1 (nameI (M.n + 1))).2 ≠ 0
 · rw [if_pos g3, if_pos g3]; exact ⟨rfl, rfl, h2, h3, h4, c.2⟩
 rw [if_neg g3, if_neg g3]; exact ⟨rfl, rfl, rfl, rfl, h4, c.2⟩
theorem rel_appG {L M : LS} (h : RelL L M) (r : List UInt8) : (appG opsD L r).2 = (appG opsF M r).2 ∧ RelL (appG opsD L r).1 (appG opsF M r).1 := by
 obtain ⟨h1, h2, h3, h4, h5⟩ := id h
 have a := rel_app h5 (nameI M.n) (frameB r)
 unfold appG
 rw [h1, a.1]
 by_cases g2 : (opsF.app M.D (nameI M.n) (frameB r)).2 ≠ 0
 · rw [if_pos g2, if_pos g2]; exact ⟨rfl, rfl, h2, h3, h4, a.2⟩
 rw [if_neg g2, if_neg g2]
 exact ⟨rfl, rfl, by show L.size + _ = M.size + _; rw [h2], by show L.waiting + 1 = M.waiting + 1; rw [h3], h4, a.2⟩
theorem rel_put {L M : LS} (h : RelL L M) (r : List UInt8) : (putG opsD L r).2 = (putG opsF M r).2 ∧ RelL (putG opsD L r).1 (putG opsF M r).1 := by
 obtain ⟨h1, h2, h3, h4, h5⟩ := id h
 have a := rel_appG h r
 have c := rel_rot h
 have d := rel_appG c.2 r
 unfold putG
 rw [h2, h4]
 by_cases g1 : r = []
 · rw [if_pos g1, if_pos g1]; exact ⟨rfl, h⟩
 rw [if_neg g1, if_neg g1]
 by_cases g2 : 1048576 < r.length ∨ M.most < (r.length : Int) + 8
 · rw [if_pos g2, if_pos g2]; exact ⟨rfl, h⟩
 rw [if_neg g2, if_neg g2]
 by_cases g3 : 0 < M.size ∧ M.most < M.size + (r.length + 8)
 · rw [if_pos g3, if_pos g3, c.1]
   by_cases g4 : (rotG opsF M).2 ≠ 0
   · rw [if_pos g4, if_pos g4]; exact c
   · rw [if_neg g4, if_neg g4]; exact d
 · rw [if_neg g3, if_neg g3]; exact a
theorem rel_synG {L M : LS} (h : RelL L M) : (synG opsD L).2 = (synG opsF M).2 ∧ RelL (synG opsD L).1 (synG opsF M).1 := by
 obtain ⟨h1, h2, h3, h4, h5⟩ := id h
 have s := rel_syn h5 (nameI M.n)
 unfold synG
 rw [h1, s.1]
 exact ⟨rfl, rfl, h2, by show (if _ then (0 : Int) else L.waiting) = _; rw [h3], h4, s.2⟩
structure BndL (L : LS) (s n k : Nat) : Prop where
 d : Bnd L.D s n
 n0 : 1 ≤ L.n ∧ L.n ≤ k
 size : 0 ≤ L.size ∧ L.size ≤ s
 waiting : 0 ≤ L.waiting ∧ L.waiting ≤ k
theorem bnd_rot {L : LS} {s n k : Nat} (h : BndL L s n k) : BndL (rotG opsD L).1 s (n + 1) (k + 1) := by
 have hn := nameI_size (L.n + 1)
 have b1 := bnd_sync h.d (nameI L.n)
 have b2 := bnd_create b1 (nameI (L.n + 1)) (by omega)
 have h1 := h.n0; have h2 := h.size; have h3 := h.waiting
 unfold rotG
 split
 · exact ⟨h.d.more (Nat.le_refl _) (by omega), by show 1 ≤ L.n ∧ L.n ≤ _; omega, h2, by show 0 ≤ L.waiting ∧ L.waiting ≤ _; omega⟩
 · split
   · exact ⟨b1.more (Nat.le_refl _) (by omega), by show 1 ≤ L.n ∧ L.n ≤ _; omega, h2, by show 0 ≤ L.waiting ∧ L.waiting ≤ _; omega⟩
   · split
     · exact ⟨b2, by show 1 ≤ L.n ∧ L.n ≤ _; omega, h2, by show 0 ≤ L.waiting ∧ L.waiting ≤ _; omega⟩
     · exact ⟨b2, by show 1 ≤ L.n + 1 ∧ L.n + 1 ≤ _; omega, by show (0 : Int) ≤ 0 ∧ (0 : Int) ≤ s; omega, by show (0 : Int) ≤ 0 ∧ (0 : Int) ≤ _; omega⟩
theorem bnd_appG {L : LS} {s n k : Nat} (h : BndL L s n k) (r : List UInt8) : BndL (appG opsD L r).1 (s + (r.length + 8)) n (k + 1) := by
 have b1 := bnd_append h.d (nameI L.n) (frameB r)
 rw [frameB_length] at b1
 have h1 := h.n0; have h2 := h.size; have h3 := h.waiting
 unfold appG
 split
 · exact ⟨b1, by show 1 ≤ L.n ∧ L.n ≤ _; omega, by show 0 ≤ L.size ∧ L.size ≤ _; omega, by show 0 ≤ L.waiting ∧ L.waiting ≤ _; omega⟩
 · exact ⟨b1, by show 1 ≤ L.n ∧ L.n ≤ _; omega, by show 0 ≤ L.size + (r.length + 8) ∧ L.size + (r.length + 8) ≤ _; omega, by show 0 ≤ L.waiting + 1 ∧ L.waiting + 1 ≤ _; omega⟩
theorem BndL.more {L : LS} {s n k s' n' k' : Nat} (h : BndL L s n k) (h1 : s ≤ s') (h2 : n ≤ n') (h3 : k ≤ k') : BndL L s' n' k' := by
 have a := h.n0; have b := h.size; have c := h.waiting
 exact ⟨h.d.more h1 h2, by omega, by omega, by omega⟩
theorem bnd_put {L : LS} {s n k : Nat} (h : BndL L s n k) (r : List UInt8) : BndL (putG opsD L r).1 (s + (r.length + 8)) (n + 1) (k + 2) := by
 unfold putG
 split
 · exact h.more (by omega) (by omega) (by omega)
 · split
   · exact h.more (by omega) (by omega) (by omega)
   · split
     · split
       · exact (bnd_rot h).more (by omega) (by omega) (by omega)
       · exact (bnd_appG (bnd_rot h) r).more (by omega) (by omega) (by omega)
     · exact (bnd_appG h r).more (by omega) (by omega) (by omega)
theorem bnd_synG {L : LS} {s n k : Nat} (h : BndL L s n k) : BndL (synG opsD L).1 s n k := by
 have b1 := bnd_sync h.d (nameI L.n)
 have h3 := h.waiting
 refine ⟨b1, h.n0, h.size, ?_⟩
 show 0 ≤ (if _ then (0 : Int) else L.waiting) ∧ (if _ then (0 : Int) else L.waiting) ≤ _
 split <;> omega
theorem nameI_list {n : Nat} (h1 : 1 ≤ n) (h2 : n ≤ 99999999) : (nameI n).toList = nameL n := by rw [nameI_yes h1 h2, toList_mk]
theorem nameI_lt {a b : Nat} (h1 : 1 ≤ a) (h2 : a < b) (h3 : b ≤ 99999999) : (nameI a).toList < (nameI b).toList := by
 rw [nameI_list h1 (by omega), nameI_list (by omega) h3]
 have h := less_name a b (by omega) h3
 rw [bytesLess_eq] at h
 simpa [h2] using h
theorem nameI_ne {a b : Nat} (h1 : 1 ≤ a) (h2 : a < b) (h3 : b ≤ 99999999) : nameI a ≠ nameI b := fun e => by
 have h := nameI_lt h1 h2 h3
 rw [e] at h
 exact List.lt_irrefl _ h
theorem nameI_num {n : Nat} (h1 : 1 ≤ n) (h2 : n ≤ 99999999) : numV (nameI n).data.toList = n := by
 rw [nameI_yes h1 h2]; exact numV_name n h2
theorem okC_dg : ∀ d : Fin 10, okC (UInt8.ofNat (48 + d.val)) = true := by decide +kernel
theorem nameI_named {n : Nat} (h1 : 1 ≤ n) (h2 : n ≤ 99999999) : namedB (nameI n) = true := by
 rw [nameI_yes h1 h2]
 unfold namedB
 have hl := nameL_length n
 have hs : (⟨(nameL n).toArray⟩ : ByteArray).size = 12 := by rw [Lib.size_eq]; simpa using hl
 rw [hs]
 simp only [Bool.and_eq_true, decide_eq_true_eq, List.all_eq_true]
 refine ⟨by omega, fun c hc => ?_⟩
 have hc2 : c ∈ nameL n := by simpa using hc
 unfold nameL at hc2
 rcases List.mem_append.1 hc2 with h | h
 · have : ∀ c ∈ pre4, okC c = true := by decide
   exact this c h
 · obtain ⟨t, -, rfl⟩ := List.mem_map.1 h
   have := okC_dg ⟨n / 10 ^ (7 - t) % 10, Nat.mod_lt _ (by decide)⟩
   exact this
def preF : Nat → List (List (List UInt8)) → List DF
 | _, [] => []
 | i, c :: cs => ⟨nameI (i + 1 : Nat), framesB c, (framesB c).length⟩ :: preF (i + 1) cs
theorem preF_append (i : Nat) (a b : List (List (List UInt8))) : preF i (a ++ b) = preF i a ++ preF (i + a.length) b := by
 induction a generalizing i with
 | nil => rfl
 | cons c a ih => rw [List.cons_append, preF, preF, ih, List.length_cons, List.cons_append, Nat.add_assoc, Nat.add_comm 1]
theorem preF_mem {i : Nat} {a : List (List (List UInt8))} {f : DF} (h : f ∈ preF i a) : ∃ k : Nat, i < k ∧ k ≤ i + a.length ∧ f.name = nameI k := by
 induction a generalizing i with
 | nil => cases h
 | cons c a ih =>
   rw [preF] at h
   rcases List.mem_cons.1 h with rfl | h
   · exact ⟨i + 1, by omega, by rw [List.length_cons]; omega, rfl⟩
   · obtain ⟨k, h1, h2, h3⟩ := ih h
     exact ⟨k, by omega, by rw [List.length_cons]; omega, h3⟩
theorem preF_sum (i : Nat) (a : List (List (List UInt8))) : sumD (preF i a) = (framesB a.flatten).length := by
 induction a generalizing i with
 | nil => rfl
 | cons c a ih =>
   rw [preF, List.flatten_cons, framesB_append, List.length_append, ← ih (i + 1)]
   rfl
theorem outF_ne {l : List DF} {n : ByteArray} (h : ∀ f ∈ l, f.name ≠ n) : outF l n = l := by
 unfold outF
 exact List.filter_eq_self.2 (fun f hf => decide_eq_true (h f hf))
theorem insF_top {l : List DF} {r : DF} (h : ∀ f ∈ l, f.name.toList < r.name.toList) : insF l r = l ++ [r] := by
 induction l with
 | nil => rfl
 | cons a l ih =>
   rw [insF, if_pos (h a (by simp)), ih (fun f hf => h f (by simp [hf]))]
   rfl
theorem findD_snoc {l : List DF} {r : DF} (h : ∀ f ∈ l, f.name ≠ r.name) : findD (l ++ [r]) r.name = some r := by
 induction l with
 | nil => simp [findD]
 | cons a l ih => rw [List.cons_append, findD, if_neg (h a (by simp))]; exact ih (fun f hf => h f (by simp [hf]))
theorem putF_top {l : List DF} {r f : DF} (h : ∀ g ∈ l, g.name.toList < r.name.toList) (hf : f.name = r.name) : putF (l ++ [r]) f = l ++ [f] := by
 have hne : ∀ g ∈ l, g.name ≠ f.name := fun g hg e => by
   have := h g hg
   rw [e, hf] at this
   exact List.lt_irrefl _ this
 unfold putF
 have e : outF (l ++ [r]) f.name = l := by
   have h1 := outF_ne hne
   unfold outF at h1 ⊢
   rw [List.filter_append, h1, List.filter_cons]
   simp [hf]
 rw [e, insF_top (fun g hg => by rw [hf]; exact h g hg)]
theorem putF_new {l : List DF} {f : DF} (h : ∀ g ∈ l, g.name.toList < f.name.toList) : putF l f = l ++ [f] := by
 have hne : ∀ g ∈ l, g.name ≠ f.name := fun g hg e => by
   have := h g hg
   rw [e] at this
   exact List.lt_irrefl _ this
 unfold putF
 rw [outF_ne hne, insF_top h]
structure Seg where
 i0 : Nat
 pre : List (List (List UInt8))
 cur : List (List UInt8)
 wt : Nat
def Seg.last (s : Seg) : DF := ⟨nameI (s.i0 + s.pre.length + 1 : Nat), framesB s.cur, (framesB (s.cur.take (s.cur.length - s.wt))).length⟩
def Seg.files (s : Seg) : List DF := preF s.i0 s.pre ++ [s.last]
def segD (room : Int) (s : Seg) : DS := ⟨room, s.files, 0, false⟩
def segL (room most : Int) (s : Seg) : LS := ⟨(s.i0 + s.pre.length + 1 : Nat), (framesB s.cur).length, s.wt, most, segD room s⟩
def Seg.all (s : Seg) : List (List UInt8) := s.pre.flatten ++ s.cur
structure Seg.good (s : Seg) (most : Int) : Prop where
 num : s.i0 + s.pre.length + 1 ≤ 1000
 wt : s.wt ≤ s.cur.length
 lens : ∀ r ∈ s.all, r.length ≤ 2000
 fit : ∀ c ∈ s.pre ++ [s.cur], ((framesB c).length : Int) ≤ most ∨ c = []
def stepS (most : Int) (s : Seg) (r : List UInt8) : Seg × Int :=
 if r = [] then (s, 2)
 else if most < (r.length : Int) + 8 then (s, 4)
 else if s.cur ≠ [] ∧ most < ((framesB s.cur).length : Int) + (r.length + 8) then (⟨s.i0, s.pre ++ [s.cur], [r], 1⟩, 0)
 else (⟨s.i0, s.pre, s.cur ++ [r], s.wt + 1⟩, 0)
def takes (most : Int) (r : List UInt8) : Bool := decide (r ≠ [] ∧ (r.length : Int) + 8 ≤ most)
theorem stepS_code (most : Int) (s : Seg) (r : List UInt8) : ((stepS most s r).2 = 0 ↔ takes most r = true) := by
 unfold stepS takes
 by_cases h1 : r = []
 · simp [h1]
 · rw [if_neg h1]
   by_cases h2 : most < (r.length : Int) + 8
   · rw [if_pos h2]; simp; omega
   · rw [if_neg h2]
     have : (r ≠ [] ∧ (r.length : Int) + 8 ≤ most) := ⟨h1, by omega⟩
     split <;> simp [this]
theorem stepS_all (most : Int) (s : Seg) (r : List UInt8) : (stepS most s r).1.all = s.all ++ (if takes most r then [r] else []) := by
 unfold stepS takes
 by_cases h1 : r = []
 · simp [h1]
 · rw [if_neg h1]
   by_cases h2 : most < (r.length : Int) + 8
   · rw [if_pos h2, if_neg (by simp; omega)]; simp
   · rw [if_neg h2]
     have h3 : decide (r ≠ [] ∧ (r.length : Int) + 8 ≤ most) = true := decide_eq_true ⟨h1, by omega⟩
     rw [h3]
     split
     · simp [Seg.all]
     · simp [Seg.all]
theorem framesB_len8 (l : List (List UInt8)) : 8 * l.length ≤ (framesB l).length := by
 induction l with
 | nil => simp
 | cons r l ih =>
   have e : framesB (r :: l) = frameB r ++ framesB l := by simp [framesB]
   rw [e, List.length_append, frameB_length, List.length_cons]; omega
theorem framesB_one (r : List UInt8) : framesB [r] = frameB r := by simp [framesB]
theorem framesB_snoc (l : List (List UInt8)) (r : List UInt8) : framesB (l ++ [r]) = framesB l ++ frameB r := by rw [framesB_append, framesB_one]
theorem stepS_good {most : Int} {s : Seg} (h : s.good most) (hn : s.i0 + s.pre.length + 2 ≤ 1000) (r : List UInt8) (hr : r.length ≤ 2000) : (stepS most s r).1.good most := by
 have hall := stepS_all most s r
 have hrec : ∀ x ∈ (stepS most s r).1.all, x.length ≤ 2000 := by
   rw [hall]
   intro x hx
   rcases List.mem_append.1 hx with hx | hx
   · exact h.lens x hx
   · by_cases ht : takes most r = true
     · rw [if_pos ht] at hx
       rw [List.mem_singleton.1 hx]; exact hr
     · rw [if_neg ht] at hx; cases hx
 have hw := h.wt
 refine ⟨?_, ?_, hrec, ?_⟩
 all_goals unfold stepS
 all_goals by_cases h1 : r = []
 · rw [if_pos h1]; exact h.num
 · rw [if_neg h1]
   split
   · exact h.num
   · split
     · simp; omega
     · exact h.num
 · rw [if_pos h1]; exact hw
 · rw [if_neg h1]
   split
   · exact hw
   · split
     · simp
     · simp; omega
 · rw [if_pos h1]; exact h.fit
 · rw [if_neg h1]
   split
   · exact h.fit
   · rename_i h2
     split
     · intro c hc
       rcases List.mem_append.1 hc with hc | hc
       · exact h.fit c hc
       · rw [List.mem_singleton.1 hc, framesB_one, frameB_length]
         left; omega
     · rename_i h3
       intro c hc
       rcases List.mem_append.1 hc with hc | hc
       · exact h.fit c (List.mem_append_left _ hc)
       · rw [List.mem_singleton.1 hc, framesB_snoc, List.length_append, frameB_length]
         left
         by_cases hcur : s.cur = []
         · rw [hcur]; simp [framesB]; omega
         · have : ¬ most < ((framesB s.cur).length : Int) + (r.length + 8) := fun e => h3 ⟨hcur, e⟩
           omega
theorem pre_below {s : Seg} (h : s.i0 + s.pre.length + 1 ≤ 99999999) : ∀ g ∈ preF s.i0 s.pre, g.name.toList < s.last.name.toList := fun g hg => by
 obtain ⟨k, h1, h2, h3⟩ := preF_mem hg
 rw [h3]
 exact nameI_lt (by omega) (by omega) h
theorem seg_find {s : Seg} (h : s.i0 + s.pre.length + 1 ≤ 99999999) : findD s.files (nameI (s.i0 + s.pre.length + 1 : Nat)) = some s.last :=
 findD_snoc (r := s.last) (fun f hf e => by
   have := pre_below h f hf
   rw [e] at this
   exact List.lt_irrefl _ this)
theorem seg_sum (s : Seg) : sumD s.files = (framesB s.all).length := by
 unfold Seg.files Seg.all
 rw [framesB_append, List.length_append, ← preF_sum s.i0]
 simp [sumD, Seg.last]
theorem doF_sync {D : DS} {n tg : ByteArray} {b : List UInt8} {f : DF} (hd : D.down = false) (hp : D.plan = 0) (hn : namedB n = true) (hf : findD D.files n = some f) :
   doF 3 D n tg b = (⟨D.room, putF D.files ⟨f.name, f.b, f.b.length⟩, 0, false⟩, 0) := by
 unfold doF
 simp [hd, hp, hn, hf, stepF]
 decide
theorem doF_append {D : DS} {n tg : ByteArray} {b : List UInt8} {f : DF} (hd : D.down = false) (hp : D.plan = 0) (hn : namedB n = true) (hf : findD D.files n = some f) (hr : ¬ D.room < sumD D.files + b.length) :
   doF 2 D n tg b = (⟨D.room, putF D.files ⟨f.name, f.b ++ b, f.d⟩, 0, false⟩, 0) := by
 unfold doF
 simp [hd, hp, hn, hf, stepF, hr]
 decide
theorem doF_create {D : DS} {n tg : ByteArray} {b : List UInt8} (hd : D.down = false) (hp : D.plan = 0) (hn : namedB n = true) (hf : findD D.files n = none) :
   doF 1 D n tg b = (⟨D.room, putF D.files ⟨n, [], 0⟩, 0, false⟩, 0) := by
 unfold doF
 simp [hd, hp, hn, hf, stepF]
 decide
theorem syn_seg {room : Int} {s : Seg} (h : s.i0 + s.pre.length + 1 ≤ 99999999) : opsF.syn (segD room s) (nameI (s.i0 + s.pre.length + 1 : Nat)) = (segD room { s with wt := 0 }, 0) := by
 show doF 3 (segD room s) (nameI (s.i0 + s.pre.length + 1 : Nat)) ⟨#[]⟩ [] = _
 rw [doF_sync rfl rfl (nameI_named (by omega) h) (seg_find h)]
 show (({ room := room, files := putF (preF s.i0 s.pre ++ [s.last]) ⟨s.last.name, s.last.b, s.last.b.length⟩, plan := 0, down := false } : DS), (0 : Int)) = _
 rw [putF_top (f := ⟨s.last.name, s.last.b, s.last.b.length⟩) (pre_below h) rfl]
 simp [segD, Seg.files, Seg.last]
theorem app_seg {room : Int} {s : Seg} (h : s.i0 + s.pre.length + 1 ≤ 99999999) (hw : s.wt ≤ s.cur.length) (r : List UInt8) (hr : ((framesB s.all).length : Int) + (r.length + 8) ≤ room) :
   opsF.app (segD room s) (nameI (s.i0 + s.pre.length + 1 : Nat)) (frameB r) = (segD room ⟨s.i0, s.pre, s.cur ++ [r], s.wt + 1⟩, 0) := by
 show doF 2 (segD room s) (nameI (s.i0 + s.pre.length + 1 : Nat)) ⟨#[]⟩ (frameB r) = _
 have hroom : ¬ (segD room s).room < sumD (segD room s).files + (frameB r).length := by
   show ¬ room < sumD s.files + (frameB r).length
   rw [seg_sum, frameB_length]; omega
 rw [doF_append rfl rfl (nameI_named (by omega) h) (seg_find h) hroom]
 show (({ room := room, files := putF (preF s.i0 s.pre ++ [s.last]) ⟨s.last.name, s.last.b ++ frameB r, s.last.d⟩, plan := 0, down := false } : DS), (0 : Int)) = _
 rw [putF_top (f := ⟨s.last.name, s.last.b ++ frameB r, s.last.d⟩) (pre_below h) rfl]
 have e2 : (s.cur ++ [r]).take ((s.cur ++ [r]).length - (s.wt + 1)) = s.cur.take (s.cur.length - s.wt) := by
   rw [List.length_append, List.length_singleton, show s.cur.length + 1 - (s.wt + 1) = s.cur.length - s.wt by omega, List.take_append_of_le_length (by omega)]
 unfold segD Seg.files Seg.last
 simp only [framesB_snoc, e2]
theorem cre_seg {room : Int} {s : Seg} (h : s.i0 + s.pre.length + 2 ≤ 99999999) : opsF.cre (segD room { s with wt := 0 }) (nameI ((s.i0 + s.pre.length + 1 : Nat) + 1 : Int)) = (segD room ⟨s.i0, s.pre ++ [s.cur], [], 0⟩, 0) := by
 have e2 : Seg.files { s with wt := 0 } = preF s.i0 (s.pre ++ [s.cur]) := by
   rw [preF_append]
   simp [Seg.files, Seg.last, preF]
 have hbel : ∀ g ∈ preF s.i0 (s.pre ++ [s.cur]), g.name.toList < (nameI (s.i0 + s.pre.length + 2 : Nat)).toList := fun g hg => by
   obtain ⟨k, h1, h2, h3⟩ := preF_mem hg
   rw [h3]
   rw [List.length_append, List.length_singleton] at h2
   exact nameI_lt (by omega) (by omega) h
 have hf : findD (preF s.i0 (s.pre ++ [s.cur])) (nameI (s.i0 + s.pre.length + 2 : Nat)) = none := findD_none.2 (fun hm => by
   obtain ⟨g, hg, he⟩ := List.mem_map.1 hm
   have := hbel g hg
   rw [he] at this
   exact List.lt_irrefl _ this)
 rw [show (((s.i0 + s.pre.length + 1 : Nat) : Int) + 1) = ((s.i0 + s.pre.length + 2 : Nat) : Int) from rfl]
 show doF 1 (⟨room, Seg.files { s with wt := 0 }, 0, false⟩ : DS) (nameI (s.i0 + s.pre.length + 2 : Nat)) ⟨#[]⟩ [] = _
 rw [e2, doF_create rfl rfl (nameI_named (by omega) h) hf]
 show (({ room := room, files := putF (preF s.i0 (s.pre ++ [s.cur])) ⟨nameI (s.i0 + s.pre.length + 2 : Nat), [], 0⟩, plan := 0, down := false } : DS), (0 : Int)) = _
 rw [putF_new hbel]
 unfold segD Seg.files Seg.last
 simp [framesB]
 rfl
theorem put_seg0 {room most : Int} {s : Seg} (hnum : s.i0 + s.pre.length + 1 ≤ 1000) (hwt : s.wt ≤ s.cur.length) (hn : s.i0 + s.pre.length + 2 ≤ 1000) (r : List UInt8) (hr : r.length ≤ 2000) (hroom : ((framesB s.all).length : Int) + (r.length + 8) ≤ room) :
   putG opsF (segL room most s) r = (segL room most (stepS most s r).1, (stepS most s r).2) := by
 unfold putG stepS
 by_cases h1 : r = []
 · rw [if_pos h1, if_pos h1]
 rw [if_neg h1, if_neg h1]
 by_cases h2 : most < (r.length : Int) + 8
 · rw [if_pos (.inr h2), if_pos h2]
 rw [if_neg (by show ¬ (_ ∨ most < _); omega), if_neg h2]
 have hsz : (0 < (segL room most s).size ↔ s.cur ≠ []) := by
   show (0 : Int) < ((framesB s.cur).length : Int) ↔ _
   have h8 := framesB_len8 s.cur
   constructor
   · intro h0 e; rw [e] at h0; simp [framesB] at h0
   · intro h0
     have := List.length_pos_iff.2 h0
     omega
 have app : ∀ t : Seg, t.i0 + t.pre.length + 1 ≤ 1000 → t.wt ≤ t.cur.length → t.all = s.all → appG opsF (segL room most t) r = (segL room most ⟨t.i0, t.pre, t.cur ++ [r], t.wt + 1⟩, 0) := fun t ht hw hall => by
   have e := app_seg (room := room) (s := t) (by omega) hw r (by rw [hall]; exact hroom)
   unfold appG
   show (if (opsF.app (segD room t) (nameI (t.i0 + t.pre.length + 1 : Nat)) (frameB r)).2 ≠ 0 then _ else _) = _
   rw [e, if_neg (by simp)]
   have e2 := framesB_snoc t.cur r
   simp only [segL, e2, List.length_append, frameB_length]
   show (({ n := _, size := _, waiting := _, most := _, D := (opsF.app (segD room t) (nameI (t.i0 + t.pre.length + 1 : Nat)) (frameB r)).1 } : LS), (0 : Int)) = _
   rw [e]
   simp
 by_cases h3 : s.cur ≠ [] ∧ most < ((framesB s.cur).length : Int) + (r.length + 8)
 · rw [if_pos ⟨hsz.2 h3.1, h3.2⟩, if_pos h3]
   have hrot : rotG opsF (segL room most s) = (segL room most ⟨s.i0, s.pre ++ [s.cur], [], 0⟩, 0) := by
     have e1 := syn_seg (room := room) (s := s) (by omega)
     have e2 := cre_seg (room := room) (s := s) (by omega)
     unfold rotG
     rw [if_neg (by show ¬ (99999999 : Int) ≤ (s.i0 + s.pre.length + 1 : Nat); omega)]
     show (if (opsF.syn (segD room s) (nameI (s.i0 + s.pre.length + 1 : Nat))).2 ≠ 0 then _ else if (opsF.cre (opsF.syn (segD room s) (nameI (s.i0 + s.pre.length + 1 : Nat))).1 (nameI ((s.i0 + s.pre.length + 1 : Nat) + 1 : Int))).2 ≠ 0 then _ else (({ n := _, size := 0, waiting := 0, most := _, D := (opsF.cre (opsF.syn (segD room s) (nameI (s.i0 + s.pre.length + 1 : Nat))).1 (nameI ((s.i0 + s.pre.length + 1 : Nat) + 1 : Int))).1 } : LS), (0 : Int))) = _
     rw [e1, if_neg (by simp)]
     simp only [e2]
     rw [if_neg (by simp)]
     simp [segL, framesB]
     omega
   rw [hrot, if_neg (by simp)]
   have := app ⟨s.i0, s.pre ++ [s.cur], [], 0⟩ (by simp; omega) (by simp) (by simp [Seg.all])
   simpa using this
 · rw [if_neg (by rw [hsz]; exact h3), if_neg h3]
   exact app s hnum hwt rfl
theorem put_seg {room most : Int} {s : Seg} (h : s.good most) (hn : s.i0 + s.pre.length + 2 ≤ 1000) (r : List UInt8) (hr : r.length ≤ 2000) (hroom : ((framesB s.all).length : Int) + (r.length + 8) ≤ room) :
   putG opsF (segL room most s) r = (segL room most (stepS most s r).1, (stepS most s r).2) := put_seg0 h.num h.wt hn r hr hroom
theorem synG_seg {room most : Int} {s : Seg} (h : s.i0 + s.pre.length + 1 ≤ 99999999) : synG opsF (segL room most s) = (segL room most { s with wt := 0 }, 0) := by
 have e := syn_seg (room := room) (s := s) h
 unfold synG
 show (({ n := _, size := _, waiting := if (opsF.syn (segD room s) (nameI (s.i0 + s.pre.length + 1 : Nat))).2 = 0 then 0 else _, most := _, D := (opsF.syn (segD room s) (nameI (s.i0 + s.pre.length + 1 : Nat))).1 } : LS), (opsF.syn (segD room s) (nameI (s.i0 + s.pre.length + 1 : Nat))).2) = _
 rw [e]
 simp [segL]
def fileB (fs : List DF) (n : Int) : List UInt8 := match findD fs (nameI n) with
 | some f => f.b
 | none => []
def upto (i n : Nat) : List Int := (List.range n).map fun k => ((i + k + 1 : Nat) : Int)
theorem upto_succ (i n : Nat) : upto i (n + 1) = upto i n ++ [((i + n + 1 : Nat) : Int)] := by unfold upto; rw [List.range_succ, List.map_append]; rfl
theorem upto_length (i n : Nat) : (upto i n).length = n := by simp [upto]
theorem insAt_all {n : Int} : ∀ {l : List Int}, (∀ x ∈ l, x < n) → insAt l n = l.length
 | [], _ => rfl
 | a :: l, h => by
   have e := insAt_all (l := l) (fun x hx => h x (by simp [hx]))
   unfold insAt at e ⊢
   rw [List.takeWhile_cons, if_pos (by simpa using h a (by simp)), List.length_cons, e, List.length_cons]
theorem ins_top {l : List Int} {n : Int} (h : ∀ x ∈ l, x < n) : ins l n = l ++ [n] := by
 unfold ins
 rw [if_neg (by
   intro hc
   have := h n (by simpa using hc)
   omega)]
 have e : insAt l n = l.length := insAt_all h
 rw [e, List.take_length, List.drop_length, List.append_nil]
theorem foldl_upto (i n : Nat) : (upto i n).foldl ins [] = upto i n := by
 induction n with
 | zero => rfl
 | succ n ih =>
   rw [upto_succ, List.foldl_append, ih]
   show ins (upto i n) _ = _
   exact ins_top (fun x hx => by
     obtain ⟨k, hk, rfl⟩ := List.mem_map.1 hx
     have := List.mem_range.1 hk
     omega)
def namesN (i n : Nat) : List ByteArray := (List.range n).map fun k => nameI ((i + k + 1 : Nat) : Int)
theorem refL_names {i n : Nat} (h : i + n ≤ 99999999) : refL (namesN i n) = upto i n := by
 have e : numsL (namesN i n) = upto i n := by
   unfold numsL namesN upto
   have hf : (List.map (fun k => nameI ((i + k + 1 : Nat) : Int)) (List.range n)).filter (fun s => decide (0 < numV s.data.toList)) = List.map (fun k => nameI ((i + k + 1 : Nat) : Int)) (List.range n) := List.filter_eq_self.2 (fun s hs => by
     obtain ⟨k, hk, rfl⟩ := List.mem_map.1 hs
     have := List.mem_range.1 hk
     rw [nameI_num (by omega) (by omega)]; simp)
   rw [hf, List.map_map]
   refine List.map_congr_left fun k hk => ?_
   have := List.mem_range.1 hk
   simp only [Function.comp]
   rw [nameI_num (by omega) (by omega)]
 unfold refL
 rw [e, foldl_upto]
theorem preF_names (i : Nat) (a : List (List (List UInt8))) : (preF i a).map DF.name = (List.range a.length).map fun k => nameI ((i + k + 1 : Nat) : Int) := by
 induction a generalizing i with
 | nil => rfl
 | cons c a ih =>
   rw [preF, List.map_cons, ih, List.length_cons, List.range_succ_eq_map, List.map_cons, List.map_map]
   congr 1
   refine List.map_congr_left fun k _ => ?_
   simp only [Function.comp, Nat.succ_eq_add_one]
   rw [show i + 1 + k + 1 = i + (k + 1) + 1 by omega]
theorem seg_names (s : Seg) : s.files.map DF.name = namesN s.i0 (s.pre.length + 1) := by
 unfold Seg.files
 rw [List.map_append, preF_names]
 unfold namesN
 rw [List.range_succ, List.map_append]
 simp [Seg.last]
theorem split_full (l : List (List UInt8)) (hl : ∀ r ∈ l, r.length ≤ 1048576) : splitB (framesB l) = (l, (framesB l).length) := by
 have := splitB_frames l [] hl nextB_nil
 rwa [List.append_nil] at this
theorem crashF_append (a b : List DF) (ks : List Int) : crashF (a ++ b) ks = crashF a ks ++ crashF b (ks.drop a.length) := by
 unfold crashF
 rw [List.mapIdx_append]
 congr 1
 apply List.mapIdx_eq_mapIdx_iff.2
 intro i hi
 rw [List.getElem?_drop, Nat.add_comm]
end Go.Proofs.YtgdmdbdljmlkkaaGreatDoor
namespace Go.Proofs.YtgdmdbdljmlkkaaGreatDoor
open Go.RowKit Go.Shelf
def SeqAll {α : Type} (F : Fence) (n : Nat) (P : Program) (g : Nat) (lb : Array Value) (encs : α → Array Value) (Rd : List α → α → World → Prop) (Kp : World → World → Prop) (S : List α → Prop) (w : World) : Prop :=
 ∀ (l : Nat) (J : List α → World → Prop) (W : World), Below w.heap.size w W → AbidesFrom W.heap.size J →
   (∀ pre x W1, J pre W1 → Rd pre x W1 → YieldAt F (n - 1) P l (encs x) W1 fun e W' => e = .returned (.bool true) ∧ J (pre ++ [x]) W' ∧ Kp W1 W') →
   J [] W → CallsIn F n P g (#[.func (.yield l) #[] #[]] ++ lb) W fun e W' => (∃ v, e = .returned v) ∧ ∃ xs, S xs ∧ J xs W'
def allPost {α : Type} (B : Nat) (Kp : World → World → Prop) (I : List α → World → Prop) (xs : List α) (W : World) : Exit → Act → World → Prop
 | .normal, _, W' => KeepsFrom B W W' ∧ Kp W W' ∧ I xs W'
 | _, _, _ => False
theorem wpIn_rangeAll {F : Fence} {n : Nat} {P : Program} {α : Type} {g : Operand} {ps : Array Tmp} {assign body : Code} {Q : Exit → Act → World → Prop} {a : Act} {w : World}
   (hro : F.round = none) (h1 : 1 ≤ n) {gf : Nat} {lb : Array Value} (hg : a.eval g = .func (.func gf) #[] lb) (hFg : F.fn gf) (eg : ∀ args w, (callFunc gf args).run P w = .ok (.enter gf args) w)
   {encs : α → Array Value} {Rd : List α → α → World → Prop} {Kp : World → World → Prop} {S : List α → Prop} {w0 : World} (hseq : SeqAll F (n - 1) P gf lb encs Rd Kp S w0)
   (hRd : ∀ (pre : List α) (x : α) (W : World) (l : Nat) (o o' : Obj), Rd pre x W → W.heap[l]? = some o → o.isCells = false → Rd pre x (W.putObj l o'))
   (hKt : ∀ {A B C : World}, Kp A B → Kp B C → Kp A C) (hKb : ∀ (W : World) (l : Nat) (o o' : Obj), w.heap.size ≤ l → W.heap[l]? = some o → o.isCells = false → o.isWalk = false → Kp W (W.putObj l o')) (hb0 : Below w0.heap.size w0 w) (hps : ∀ x, (encs x).size = ps.size)
   (I : List α → World → Prop) (hI : OwnFrom w.heap.size I) (h0 : I [] w) (a₁ : α → Act)
   (hassign : ∀ (l : Nat) (x : α) (W : World) (K : Act → World → Prop), K (a₁ x) W →
     assign.wpIn (F.inRound l) (n - 1 - 1) P (Exit.then K (fun _ _ _ => False)) { tmps := (ps.zip (encs x)).foldl (fun t (p, v) => t.setIfInBounds p v) a.tmps, defers := [] } W)
   (hbody : ∀ (l : Nat) (pre : List α) (x : α) (W : World), I pre W → Rd pre x W → body.wpIn (F.inRound l) (n - 1 - 1) P (allPost w.heap.size Kp I (pre ++ [x]) W) (a₁ x) W)
   (hdone : ∀ (D : Nat) (xs : List α) (W : World), w.heap.size ≤ D → S xs → I xs W → W.heap[D]? = some (.deferred (some [])) → Q .normal { a with defers := { target := .collected D, args := #[] } :: a.defers } W) :
   (Code.rangeFunc g ps assign body).wpIn F n P Q a w := by
 refine wpIn_rangeFunc ?_
 intro fn hfn
 rw [hro]
 obtain ⟨rec, hrec⟩ : ∃ rec : LoopState → Option Code → Loop, rec = fun st pe => { state := st, pending := pe, fn, tmps := a.tmps, params := ps, assign, body, defers := w.heap.size } := ⟨_, rfl⟩
 obtain ⟨W1, hW1⟩ : ∃ W1, (w.alloc (.deferred (some []))).alloc (.loop (rec .ready none)) = W1 := ⟨_, rfl⟩
 have hL : W1.heap[w.heap.size + 1]? = some (.loop (rec .ready none)) := by
   have h := World.alloc_heap_new (w.alloc (.deferred (some []))) (.loop (rec .ready none))
   rw [World.size_alloc] at h
   rw [← hW1]; exact h
 have hD : W1.heap[w.heap.size]? = some (.deferred (some [])) := by
   rw [← hW1]; exact (Below.heap_alloc _ _ _ (by simp)).trans (World.alloc_heap_new w _)
 have hsz1 : W1.heap.size = w.heap.size + 2 := by rw [← hW1]; simp
 have hstart : I [] W1 := by rw [← hW1]; exact hI.alloc _ (hI.alloc _ h0)
 have hbel : Below w0.heap.size w0 W1 := by
   rw [← hW1]; exact (hb0.alloc hb0.size _).alloc (by rw [World.size_alloc]; have := hb0.size; omega) _
 obtain ⟨J, hJ⟩ : ∃ J : List α → World → Prop, J = fun pre W => I pre W ∧ W.heap[w.heap.size + 1]? = some (.loop (rec .ready none)) ∧ W.heap[w.heap.size]? = some (.deferred (some [])) := ⟨_, rfl⟩
 have hJa : AbidesFrom W1.heap.size J := by
   rw [hJ]
   intro s A B row hs hgr hr
   refine ⟨hI s A B row hs.1 hgr (fun r e => ?_), (grownBy_keeps hgr (fun r e => (hr r e).2) hs.2.1 rfl).trans hs.2.1, (grownBy_keeps hgr (fun r e => (hr r e).2) hs.2.2 rfl).trans hs.2.2⟩
   obtain ⟨hB, o, ho, hw⟩ := hr r e
   exact ⟨by omega, o, ho, Obj.not_cells_of_walk hw⟩
 refine ⟨w.heap.size + 1, [{ target := .collected w.heap.size, args := #[] }], W1, { target := .fn (.func gf) lb, args := #[.func (.yield (w.heap.size + 1)) #[] #[]] }, W1, gf,
   #[.func (.yield (w.heap.size + 1)) #[] #[]] ++ lb, W1, ?_, ?_, ?_, ?_, fun _ => h1, ?_⟩
 · rw [← hW1, hrec]; exact run_enterLoop_outer _ _ _ _ _
 · simp only [resolve, hg]
   simp [go_sem]
 · intro f' hf'; simp [Target.leads] at hf'; subst hf'; exact hFg
 · simp [invoke, go_sem, eg]
 · refine (hseq (w.heap.size + 1) J W1 hbel hJa ?_ (by rw [hJ]; exact ⟨hstart, hL, hD⟩)).mono ?_
   · intro pre x W hjp hrd
     rw [hJ] at hjp ⊢
     obtain ⟨hi, hl, hk⟩ := hjp
     have hlt := lt_of_heap hl
     have hy := run_yield (P := P) (args := encs x) hl (by rw [hrec]; exact hps x)
     rw [hrec] at hy
     refine ⟨fn, _, assign, body, hy, roundIn_of_wpIn hfn (hassign _ x W _ ⟨_, run_beginRound hl (by rw [hrec]), ?_⟩)⟩
     have hbusy : (W.putObj (w.heap.size + 1) (.loop { rec .ready none with state := .busy })).heap[w.heap.size + 1]? = some (.loop { rec .ready none with state := .busy }) := World.putObj_heap_same hlt
     have hdef : (W.putObj (w.heap.size + 1) (.loop { rec .ready none with state := .busy })).heap[w.heap.size]? = some (.deferred (some [])) := (World.putObj_heap_other (by omega)).trans hk
     have hkp : Kp W (W.putObj (w.heap.size + 1) (.loop { rec .ready none with state := .busy })) := hKb _ _ _ _ (by omega) hl rfl rfl
     refine wpIn_mono (hbody _ pre x _ (hI.putObj _ hi (by omega) hl rfl) (hRd pre x W _ _ _ hrd hl rfl)) ?_
     rintro e a3 W3 hp
     cases e with
     | normal =>
       obtain ⟨hk3, hkp3, hi3⟩ := hp
       have hl3 := hk3.same _ _ (by omega) hbusy rfl
       have hr := run_endRound (P := P) none hl3
       rw [hrec] at hr hl3
       have hl4 : (W3.putObj (w.heap.size + 1) (.loop (rec .ready none))).heap[w.heap.size + 1]? = some (.loop (rec .ready none)) := World.putObj_heap_same (lt_of_heap hl3)
       refine ⟨_, _, hr, rfl, ⟨?_, ?_, ?_⟩, ?_⟩
       · exact hI.putObj _ hi3 (by omega) hl3 rfl
       · rw [hrec] at hl4 ⊢; exact hl4
       · exact (World.putObj_heap_other (by omega)).trans (hk3.same _ _ (Nat.le_refl _) hdef rfl)
       · exact hKt (hKt hkp hkp3) (hKb _ _ _ _ (by omega) hl3 rfl rfl)
     | ret => exact hp.elim
     | exit id => exact hp.elim
     | goto t => exact hp.elim
     | panic ch => exact hp.elim
     | outgrown => exact hp.elim
   · rintro e W2 ⟨⟨v, rfl⟩, xs, hS, hj⟩
     rw [hJ] at hj
     obtain ⟨hi, hl, hk⟩ := hj
     refine ⟨none, _, by have := run_endLoop (P := P) hl (by rw [hrec]; simp); rw [hrec] at this; exact this, ?_⟩
     exact hdone _ xs _ (Nat.le_refl _) hS (hI.putObj _ hi (by omega) hl rfl) ((World.putObj_heap_other (by omega)).trans hk)
end Go.Proofs.YtgdmdbdljmlkkaaGreatDoor
