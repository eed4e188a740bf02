/- Words and laws shared by the proofs of this seat: rows of cells that a slice reads, append onto a row of the call's own, strings as lists of bytes; no program in sight. -/
import Derived.WalkKit
import Derived.WalkLawsBesides
import Derived.WalkSpells
import Derived.Lib.Hide
import Derived.Lib.Strings
import Derived.Deep.RegionLaw
import Derived.Deep.QuietTactic
import Derived.BigQuiet
import Derived.Deep.LoopGhost
namespace Go.Proofs.YtpijpeocdlnhiaaGreatDoor
set_option linter.unusedVariables false
set_option linter.unusedSimpArgs false
open Go.RowKit

abbrev bs (l : List UInt8) : Value := .string ⟨l.toArray⟩

theorem ba_app (l m : List UInt8) : ((⟨l.toArray⟩ : ByteArray) ++ ⟨m.toArray⟩) = ⟨(l ++ m).toArray⟩ := by
  apply ByteArray.ext; simp

/-- What a slice type's row of the table says: its element's zero value, cells and bytes. -/
structure ElemOf (P : Program) (t e : TypeId) (z : Value) (size bytes : Nat) : Prop where
  und : P.underlying t = some (.slice e)
  info : (P.info? e).map (fun i => (i.zero, i.size, i.bytes)) = some (some z, size, bytes)
  zsize : z.cells.size = size
  pos : 0 < size

/-- A slice value of n elements (size cells each) reads as the cells xs; nil reads as no cell. -/
def Reads (w : World) (v : Value) (n size : Nat) (xs : List Value) : Prop :=
  xs.length = n * size ∧ ∃ ao c, v = .slice ao n c ∧ n ≤ c ∧ (ao = none → n = 0 ∧ c = 0) ∧ ∀ ad, ao = some ad → ∀ j u, xs[j]? = some u → w.cell? (ad.add j) = some u

theorem Reads.nil (w : World) (size : Nat) : Reads w (.slice none 0 0) 0 size [] :=
  ⟨by simp, none, 0, rfl, Nat.le_refl _, fun _ => ⟨rfl, rfl⟩, fun _ h => by cases h⟩

theorem reads_of_owns {w : World} {base : Nat} {e : TypeId} {size : Nat} {v : Value} {n : Nat} {xs : List Value} (h : w.ownsRow base e size v n xs) : Reads w v n size xs := by
  refine ⟨h.1, ?_⟩
  rcases h.2 with ⟨rfl, rfl⟩ | ⟨g, cap, cur, rfl, hb, hh, hn, hm, hs, ht⟩
  · exact ⟨none, 0, rfl, Nat.le_refl _, fun _ => ⟨rfl, rfl⟩, fun _ h => by cases h⟩
  · exact ⟨_, cap, rfl, hn, (fun h => by cases h), (fun ad had => by cases had; exact h.cells rfl)⟩

/-- append of whatever readable slice onto a row of the call's own. -/
theorem run_append_any {P : Program} {t e : TypeId} {z : Value} {size bytes : Nat} (hE : ElemOf P t e z size bytes) (ty : TypeId) (w : World) (base : Nat)
    (v : Value) (n : Nat) (xs : List Value) (hown : w.ownsRow base e size v n xs)
    (x : Value) (m : Nat) (news : List Value) (hx : Reads w x m size news) (h1 : ∀ u ∈ news, u.oneCell' = true)
    (h63 : n + m ≤ maxLen) (hbytes : (n + m) * bytes ≤ 140737488355328) (hbase : base ≤ w.heap.size) :
    ∃ v' w', (Builtin.append_ #[t, t] ty #[v, x]).run P w = .ok v' w' ∧ w'.ownsRow base e size v' (n + m) (xs ++ news) ∧ w.grownBy w' v.ownBlock ∧
      (v' = .slice none 0 0 ↔ v = .slice none 0 0 ∧ m = 0) := by
  obtain ⟨i, hi, hz, hs, hb⟩ := info_parts hE.info
  obtain ⟨hl, ao, c, rfl, hmc, hnone, hcells⟩ := hx
  cases ao with
  | some ad => exact run_append_own w base t ty e i z size bytes hE.und hi hz hs hb hE.zsize hE.pos v n xs hown ad m c news hl (hcells ad rfl) h1 h63 hbytes hbase
  | none =>
    obtain ⟨rfl, rfl⟩ := hnone rfl
    have hnews : news = [] := List.eq_nil_of_length_eq_zero (by simpa using hl)
    subst hnews
    exact ⟨v, w, run_append_owned_none w base t ty e i size hE.und hi v n xs hown, by simpa using hown, World.grownBy.refl _ _, by simp⟩

/-- The same as one step of a list of operations. -/
theorem wpList_app {P : Program} {t e : TypeId} {z : Value} {size bytes : Nat} (hE : ElemOf P t e z size bytes) {w : World} {ops : Array Oper} {rest : List Oper} {o : Oper} {a : Act} {Q : Exit → Act → World → Prop} (hgd : o.guard = none) {s x : Operand}
    (ho : o.op = .call { callee := .builtin .append, args := #[s, x], argTypes := #[t, t] })
    {base : Nat} {v : Value} {n : Nat} {xs : List Value} (hs : a.eval s = v) (hown : w.ownsRow base e size v n xs)
    {y : Value} {m : Nat} {news : List Value} (hx : a.eval x = y) (hy : Reads w y m size news) (h1 : ∀ u ∈ news, u.oneCell' = true)
    (h63 : n + m ≤ maxLen) (hbytes : (n + m) * bytes ≤ 140737488355328) (hbase : base ≤ w.heap.size)
    (h : ∀ v' w', w'.ownsRow base e size v' (n + m) (xs ++ news) → w.grownBy w' v.ownBlock → (v' = .slice none 0 0 ↔ v = .slice none 0 0 ∧ m = 0) → wpList P ops Q rest (a.put o.dst v') w') : wpList P ops Q (o :: rest) a w := by
  refine wpList_plain hgd fun K hK => ?_
  subst hs; subst hx
  obtain ⟨v', w', hrun, r1, r2, r3⟩ := run_append_any hE o.type w base _ n xs hown _ m news hy h1 h63 hbytes hbase
  unfold Oper.wp
  simp [execOp, ho, resolve, invoke, builtin, hrun, Result.andThen]
  exact hK _ _ (h v' w' r1 r2 r3)

/-- The same as one step of a region that draws its order. -/
theorem step_app {P : Program} {t e : TypeId} {z : Value} {size bytes : Nat} (hE : ElemOf P t e z size bytes) {ops : Array Oper} {o : Oper} {a : Act} {w : World} {K : Act → World → Prop} {Q : Exit → Act → World → Prop} {E : Prop}
    (hg : o.guard = none) {s x : Operand} (ho : o.op = Op.call { callee := Callee.builtin Builtin.append, args := #[s, x], argTypes := #[t, t] })
    {base : Nat} {v : Value} {n : Nat} {xs : List Value} (hs : a.eval s = v) (hown : w.ownsRow base e size v n xs)
    {y : Value} {m : Nat} {news : List Value} (hx : a.eval x = y) (hy : Reads w y m size news) (h1 : ∀ u ∈ news, u.oneCell' = true)
    (h63 : n + m ≤ maxLen) (hbytes : (n + m) * bytes ≤ 140737488355328) (hbase : base ≤ w.heap.size)
    (h : ∀ v' w', w'.ownsRow base e size v' (n + m) (xs ++ news) → w.grownBy w' v.ownBlock → K (a.put o.dst v') w') :
    if Region.wanted o (yielded ops a.tmps) = true then Oper.wp P o a w K Q else E := by
  have hw : Region.wanted o (yielded ops a.tmps) = true := by simp [Region.wanted, hg]
  rw [if_pos hw]
  subst hs; subst hx
  obtain ⟨v', w', hrun, r1, r2, _⟩ := run_append_any hE o.type w base _ n xs hown _ m news hy h1 h63 hbytes hbase
  unfold Oper.wp
  simp [execOp, ho, resolve, invoke, builtin, hrun, Result.andThen]
  exact h v' w' r1 r2

/-- Cells of a readable slice stand while what changes is one row elsewhere and new blocks. -/
theorem Reads.grown {w w' : World} {v : Value} {n size : Nat} {xs : List Value} {row : Option Nat} (h : Reads w v n size xs) (hg : w.grownBy w' row) (hne : v.ownBlock = none ∨ v.ownBlock ≠ row) : Reads w' v n size xs := by
  obtain ⟨hl, ao, c, rfl, hnc, hnone, hcells⟩ := h
  refine ⟨hl, ao, c, rfl, hnc, hnone, fun ad had j u hu => ?_⟩
  subst had
  have hb : (ad.add j).block = ad.block := by unfold Addr.add; split <;> rfl
  exact hg.cell (hcells ad rfl j u hu) (by rw [hb]; simpa [Value.ownBlock] using hne)

theorem Reads.drewN {w : World} {v : Value} {n size : Nat} {xs : List Value} (h : Reads w v n size xs) (k : Nat) : Reads (w.drewN k) v n size xs := h

theorem Reads.below {B : Nat} {w w' : World} {v : Value} {n size : Nat} {xs : List Value} (h : Reads w v n size xs) (hb : Below B w w') (hlt : ∀ k, v.ownBlock = some k → k < B) : Reads w' v n size xs := by
  obtain ⟨hl, ao, c, rfl, hnc, hnone, hcells⟩ := h
  refine ⟨hl, ao, c, rfl, hnc, hnone, fun ad had j u hu => ?_⟩
  subst had
  have e : (ad.add j).block = ad.block := by unfold Addr.add; split <;> rfl
  rw [hb.cell (by rw [e]; exact hlt _ rfl)]
  exact hcells ad rfl j u hu

/-- What reads as cells goes on so whatever is done to blocks that were not there. -/
theorem Reads.later {w w' : World} {v : Value} {n size : Nat} {xs : List Value} (h : Reads w v n size xs) (hb : Below w.heap.size w w') : Reads w' v n size xs := by
  obtain ⟨hl, ao, c, rfl, hnc, hnone, hcells⟩ := h
  refine ⟨hl, ao, c, rfl, hnc, hnone, fun ad had j u hu => ?_⟩
  have hc := hcells ad had j u hu
  rw [hb.cell (World.block_lt_of_cell? w _ hc)]
  exact hc

/-- The last part of a readable slice, as a slice expression gives it. -/
theorem Reads.drop {w : World} {b o n c : Nat} {xs : List Value} (h : Reads w (.slice (some ⟨b, o, none⟩) n c) n 1 xs) (i : Nat) (hi : i ≤ n) (ao : Option Addr) (hao : ¬ c = i → ao = some ⟨b, o + i, none⟩) (hsome : ao ≠ none) :
    Reads w (.slice ao (n - i) (c - i)) (n - i) 1 (xs.drop i) := by
  obtain ⟨hl, ao', c', hv, hnc, _, hcells⟩ := h
  cases hv
  refine ⟨by rw [List.length_drop, hl]; omega, ao, c - i, rfl, by omega, fun h => absurd h hsome, fun ad had j u hu => ?_⟩
  have hj : j < n - i := by
    have := (List.getElem?_eq_some_iff.1 hu).1
    rw [List.length_drop, hl] at this; omega
  rw [hao (by omega)] at had
  cases had
  have := hcells ⟨b, o, none⟩ rfl (i + j) u (by rw [List.getElem?_drop] at hu; exact hu)
  rw [Addr.add_lit] at this ⊢
  rw [Nat.add_assoc]; exact this

/-- The first part. -/
theorem Reads.take {w : World} {ao : Option Addr} {n c : Nat} {xs : List Value} (h : Reads w (.slice ao n c) n 1 xs) (i : Nat) (hi : i ≤ n) : Reads w (.slice ao i c) i 1 (xs.take i) := by
  obtain ⟨hl, ao', c', hv, hnc, hnone, hcells⟩ := h
  cases hv
  refine ⟨by rw [List.length_take, hl]; omega, ao, c, rfl, by omega, fun h => ⟨by have := hnone h; omega, (hnone h).2⟩, fun ad had j u hu => ?_⟩
  rw [List.getElem?_take] at hu
  split at hu
  · exact hcells ad had j u hu
  · cases hu

/-- A row made by a literal of no element. -/
theorem owns_empty (w : World) (base : Nat) (e : TypeId) (size : Nat) {b : Nat} (hb : base ≤ w.heap.size) (he : b = w.heap.size) : (w.alloc (.cells #[] e)).ownsRow base e size (.slice (some ⟨b, 0, none⟩) 0 0) 0 [] := by
  subst he
  exact World.ownsRow_made w #[] 0 hb (Nat.zero_le _) (by simp)

/-- One known cell, as a slice. -/
theorem reads_cell {w : World} {b o : Nat} {u : Value} (h : w.cell? ⟨b, o, none⟩ = some u) : Reads w (.slice (some ⟨b, o, none⟩) 1 1) 1 1 [u] := by
  refine ⟨rfl, _, 1, rfl, Nat.le_refl _, (fun h => by cases h), fun ad had j x hx => ?_⟩
  cases had
  cases j with
  | zero =>
    simp only [List.getElem?_cons_zero, Option.some.injEq] at hx
    subst hx
    rw [Addr.add_lit]; exact h
  | succ j => simp at hx

/-- A row of one cell, new. -/
theorem reads_one (w : World) (e : TypeId) (u : Value) : Reads (w.alloc (.cells #[u] e)) (.slice (some ⟨w.heap.size, 0, none⟩) 1 1) 1 1 [u] := by
  refine ⟨rfl, _, 1, rfl, Nat.le_refl _, (fun h => by cases h), fun ad had j x hx => ?_⟩
  cases had
  cases j with
  | zero =>
    simp only [List.getElem?_cons_zero, Option.some.injEq] at hx
    subst hx
    rw [Addr.add_lit]; exact World.cell?_alloc_new _ _ _ _
  | succ j => simp at hx

/-- A readable slice with an element has an address. -/
theorem Reads.at {w : World} {v : Value} {n : Nat} {xs : List Value} (h : Reads w v n 1 xs) (hn : 0 < n) :
    ∃ b o c, v = .slice (some ⟨b, o, none⟩) n c ∧ n ≤ c ∧ b < w.heap.size ∧ ∀ j u, xs[j]? = some u → w.cell? ⟨b, o + j, none⟩ = some u := by
  obtain ⟨hl, ao, c, rfl, hnc, hnone, hcells⟩ := h
  cases ao with
  | none => have := (hnone rfl).1; omega
  | some ad =>
    obtain ⟨b, o, spot⟩ := ad
    have h0 := hcells _ rfl 0 (xs[0]'(by omega)) (List.getElem?_eq_getElem (by omega))
    have hspot : spot = none := by simpa [Addr.add] using World.cell?_spot h0
    subst hspot
    refine ⟨b, o, c, rfl, hnc, ?_, fun j u hu => ?_⟩
    · have := World.block_lt_of_cell? w _ h0
      simpa [Addr.add] using this
    · have := hcells _ rfl j u hu
      rwa [Addr.add_lit] at this

theorem Reads.len {w : World} {v : Value} {n : Nat} {xs : List Value} (h : Reads w v n 1 xs) : xs.length = n := by rw [h.1, Nat.mul_one]

theorem one_of {u : Value} (h : u.oneCell' = true) : ∀ x ∈ [u], x.oneCell' = true := by
  intro x hx
  rw [List.mem_singleton.1 hx]; exact h
end Go.Proofs.YtpijpeocdlnhiaaGreatDoor
