/- The reference of a disk: files as a sorted list; in memory. -/
import Derived.Test.YtjhhmljebflanaaDoorArms
import Derived.Test.YtjhhmljebflanaaDoorDRemove
import Derived.Test.YtjhhmljebflanaaDoorDSmall
import Derived.Deep.RegionLaw
import Derived.Deep.RegionHeld3
import Derived.StillTailTactics
namespace Go.Proofs.YtjhhmljebflanaaDoor
set_option linter.unusedVariables false
set_option linter.unusedSimpArgs false
open Go.RowKit

/-- A file of the reference, and where its bytes lie. -/
structure RF where
  f : DF
  a : Option Addr
  c : Nat
def RF.v (r : RF) : Value := .slice r.a r.f.b.length r.c
abbrev rcells (r : RF) : List Value := [.string r.f.name, .slice r.a r.f.b.length r.c, .int .i64 r.f.d]
theorem rcells_len (r : RF) : (rcells r).length = 3 := rfl
theorem rcells_one (R : List RF) : ∀ u ∈ R.flatMap rcells, u.oneCell' = true := by
  intro u hu
  obtain ⟨x, -, hx⟩ := List.mem_flatMap.1 hu
  simp only [rcells, List.mem_cons, List.not_mem_nil, or_false] at hx
  rcases hx with rfl | rfl | rfl <;> rfl
theorem elemR : ElemOf Tryd.prog 44 78 (.agg #[.string ⟨#[]⟩, .slice none 0 0, .int .i64 0]) 3 48 := ⟨Tryd.underlying44, by kernel_rfl, rfl, by decide⟩

def okR (w : World) (T : Nat → Prop) (r : RF) : Prop := Row w 5 1 r.v r.f.b.length (byts r.f.b) T ∧ r.f.d ≤ r.f.b.length ∧ r.f.b.length ≤ 1000000000
/-- The list of the reference's files in memory. -/
structure RLi (w : World) (v : Value) (R : List RF) (T : Nat → Prop) : Prop where
  row : Row w 78 3 v R.length (R.flatMap rcells) T
  byt : ∀ r ∈ R, okR w T r

theorem RLi.frame {w w' : World} {v : Value} {R : List RF} {T : Nat → Prop} (h : RLi w v R T) (hb : ∀ k, T k → k < w.heap.size → w'.heap[k]? = w.heap[k]?) : RLi w' v R T :=
  ⟨h.row.frame hb, fun r hr => ⟨(h.byt r hr).1.frame hb, (h.byt r hr).2⟩⟩
theorem RLi.mono {w : World} {v : Value} {R : List RF} {T T' : Nat → Prop} (h : RLi w v R T) (hT : ∀ k, T k → T' k) : RLi w v R T' :=
  ⟨h.row.mono hT, fun r hr => ⟨(h.byt r hr).1.mono hT, (h.byt r hr).2⟩⟩
theorem RLi.below {w w' : World} {v : Value} {R : List RF} {T : Nat → Prop} (h : RLi w v R T) (hb : Below w.heap.size w w') : RLi w' v R T := h.frame (fun k _ hk => hb.block k hk)
theorem RLi.nil (w : World) (T : Nat → Prop) : RLi w (.slice none 0 0) [] T := ⟨Row.nil _ _ _ _, fun r hr => (List.not_mem_nil hr).elim⟩

theorem slice_form {w : World} {e : TypeId} {size : Nat} {v : Value} {n : Nat} {xs : List Value} {R : Nat → Prop} (h : Row w e size v n xs R) : ∃ a c, v = .slice a n c := by
  obtain ⟨-, a, c, h, -⟩ := h.reads; exact ⟨a, c, h⟩
theorem RLi.cells {w : World} {v : Value} {R : List RF} {T : Nat → Prop} (h : RLi w v R T) (hn : 0 < R.length) :
    ∃ b o c, v = .slice (some ⟨b, o, none⟩) R.length c ∧ R.length ≤ c ∧ b < w.heap.size ∧ ∀ j (hj : j < R.length), w.cell? ⟨b, o + j * 3, none⟩ = some (.string R[j].f.name) ∧ w.cell? ⟨b, o + j * 3 + 1, none⟩ = some (.slice R[j].a R[j].f.b.length R[j].c) ∧
      w.cell? ⟨b, o + j * 3 + 2, none⟩ = some (.int .i64 R[j].f.d) := by
  have hr := h.row.reads
  obtain ⟨-, ao, c, rfl, -⟩ := id hr
  obtain ⟨b, o, rfl, h1, -, h2, h3⟩ := hr.atN hn (by decide)
  refine ⟨b, o, c, rfl, h1, h2, fun j hj => ⟨?_, ?_, ?_⟩⟩
  · exact h3 (j * 3) _ (by simpa using fm_get rcells_len (List.getElem?_eq_getElem hj) 0 _ rfl)
  · rw [Nat.add_assoc]; exact h3 (j * 3 + 1) _ (fm_get rcells_len (List.getElem?_eq_getElem hj) 1 _ rfl)
  · rw [Nat.add_assoc]; exact h3 (j * 3 + 2) _ (fm_get rcells_len (List.getElem?_eq_getElem hj) 2 _ rfl)

theorem str_ne {a b : ByteArray} (h : ¬ a = b) : (¬ a.toList = b.toList) ∧ (a.toList == b.toList) = false := by
  have h1 : ¬ a.toList = b.toList := fun e => h (by
    have h2 := ba_beq a b
    rw [beq_toListBytes, e] at h2
    simpa using h2)
  exact ⟨h1, by simpa using h1⟩
theorem cells4 {w : World} {b : Nat} {x0 x1 x2 x3 : Value} {t : TypeId} {fr : Nat × Nat} (h : w.heap[b]? = some (.cells #[x0, x1, x2, x3] t fr)) :
    w.cell? ⟨b, 0, none⟩ = some x0 ∧ w.cell? ⟨b, 1, none⟩ = some x1 ∧ w.cell? ⟨b, 2, none⟩ = some x2 ∧ w.cell? ⟨b, 3, none⟩ = some x3 :=
  ⟨cellAt h 0 rfl, cellAt h 1 rfl, cellAt h 2 rfl, cellAt h 3 rfl⟩
theorem cells3 {w : World} {b : Nat} {x0 x1 x2 : Value} {t : TypeId} {fr : Nat × Nat} (h : w.heap[b]? = some (.cells #[x0, x1, x2] t fr)) :
    w.cell? ⟨b, 0, none⟩ = some x0 ∧ w.cell? ⟨b, 1, none⟩ = some x1 ∧ w.cell? ⟨b, 2, none⟩ = some x2 :=
  ⟨cellAt h 0 rfl, cellAt h 1 rfl, cellAt h 2 rfl⟩

/-- The place of a file in the list. -/
def posR : List RF → ByteArray → Int
  | [], _ => -1
  | r :: l, n => if r.f.name = n then 0 else if posR l n < 0 then -1 else posR l n + 1
theorem posR_hit {R : List RF} {n : ByteArray} {m : Nat} (hm : m < R.length) (h : R[m].f.name = n) (hl : ∀ j (hj : j < m), (R[j]'(by omega)).f.name ≠ n) : posR R n = (m : Int) := by
  induction R generalizing m with
  | nil => simp at hm
  | cons r l ih =>
    rw [posR]
    cases m with
    | zero => simp only [List.getElem_cons_zero] at h; rw [if_pos h]; rfl
    | succ m =>
      have h0 := hl 0 (by omega)
      simp only [List.getElem_cons_zero] at h0
      have := ih (m := m) (by simpa using hm) (by simpa using h) (fun j hj => by simpa using hl (j + 1) (by omega))
      rw [if_neg h0, this, if_neg (by omega)]; omega
theorem posR_miss {R : List RF} {n : ByteArray} (hl : ∀ j (hj : j < R.length), R[j].f.name ≠ n) : posR R n = -1 := by
  induction R with
  | nil => rfl
  | cons r l ih =>
    have h0 := hl 0 (by simp)
    simp only [List.getElem_cons_zero] at h0
    rw [posR, if_neg h0, ih (fun j hj => by have := hl (j + 1) (by simpa using hj); rwa [List.getElem_cons_succ] at this), if_pos (by omega)]

/-- A disk of the reference as a value. -/
abbrev rdisk (room : Int) (v : Value) (plan : Int) (down : Bool) : Value := .agg #[.int .i64 room, v, .int .i64 plan, .bool down]

set_option maxRecDepth 100000 in
set_option maxHeartbeats 1000000 in
theorem rfind_any (room plan : Int) (down : Bool) (v : Value) (R : List RF) (T : Nat → Prop) (n : ByteArray) (w : World) (h : RLi w v R T) (hL : R.length ≤ 100000) :
    Calls Tryd.prog 46 #[rdisk room v plan down, .string n] w fun e w' => e = .returned (.int .i64 (posR R n)) ∧ Below w.heap.size w w' := by
  obtain ⟨la, lc, rfl⟩ := slice_form h.row
  have H := Lib.hid h
  clear h
  have HIT : Hid (∀ (m : Nat) (hm : m < R.length), R[m].f.name = n → (∀ j (hj : j < m), (R[j]'(by omega)).f.name ≠ n) → posR R n = (m : Int)) := fun m hm he hl => posR_hit hm he hl
  have MISS : Hid ((∀ j (hj : j < R.length), R[j].f.name ≠ n) → posR R n = -1) := fun hl => posR_miss hl
  generalize posR R n = pz at *
  have HBX : Hid ((w.alloc (.cells #[.int .i64 room, .slice la R.length lc, .int .i64 plan, .bool down] 46)).heap[w.heap.size]? = some (.cells #[.int .i64 room, .slice la R.length lc, .int .i64 plan, .bool down] 46 (0, 0))) := heap_alloc_new w _
  have HBel : Hid (Below w.heap.size w (w.alloc (.cells #[.int .i64 room, .slice la R.length lc, .int .i64 plan, .bool down] 46))) := (Below.refl _ _).alloc (Nat.le_refl _) _
  go_enter Tryd.func46, Tryd.ntmps46
  go_wp2
  generalize w.alloc (.cells #[.int .i64 room, .slice la R.length lc, .int .i64 plan, .bool down] 46) = wd at *
  go_loop [5] (fun i => ∃ m : Nat, m ≤ R.length ∧ i = .int .i64 m ∧ Hid (∀ j (hj : j < R.length), j < m → R[j].f.name ≠ n)) (fun i => R.length - (RowKit.intOf i).toNat)
  case atStart => exact ⟨0, by omega, rfl, fun j _ h => by omega⟩
  case round =>
    obtain ⟨m, hm, rfl, HLOW⟩ := hrel
    have hx1 := (cells4 HBX.out).2.1
    by_cases hlt : m < R.length
    · obtain ⟨b, o, c, he, hcap, hb, hcell⟩ := (H.out.below HBel.out).cells (by omega)
      obtain ⟨rfl, rfl⟩ : la = some ⟨b, o, none⟩ ∧ lc = c := by cases he; exact ⟨rfl, rfl⟩
      have hc := (hcell m hlt).1
      by_cases hk : R[m].f.name = n
      · have HE : Hid (pz = (m : Int)) := HIT.out m hlt hk (fun j hj => HLOW.out j (by omega) hj)
        rw [hk] at hc
        clear hcell he hk
        go_wp2
        go_ret
        exact ⟨congrArg (fun x => Ending.returned (.int .i64 x)) HE.out.symm, HBel.out⟩
      · obtain ⟨hne, hne2⟩ := str_ne hk
        have HN : Hid (∀ j (hj : j < R.length), j < m + 1 → R[j].f.name ≠ n) := fun j hj hjm => by
          rcases Nat.lt_or_ge j m with h | h
          · exact HLOW.out j hj h
          · have : j = m := by omega
            subst this; exact hk
        clear hcell he hk
        generalize R[m].f.name = key at *
        go_wp2
        go_round
        case rel => exact ⟨m + 1, by omega, by go_num, HN⟩
        case measure => simp [RowKit.intOf]; omega
    · have HE : Hid (pz = -1) := MISS.out (fun j hj => HLOW.out j hj (by omega))
      go_wp2
      go_ret
      exact ⟨congrArg (fun x => Ending.returned (.int .i64 x)) HE.out.symm, HBel.out⟩

def sumR (R : List RF) : Nat := (R.map fun r => r.f.b.length).sum
theorem sumR_succ {R : List RF} {m : Nat} (h : m < R.length) : sumR (R.take (m + 1)) = sumR (R.take m) + R[m].f.b.length := by
  unfold sumR
  rw [List.take_succ_eq_append_getElem h, List.map_append, List.sum_append]; simp
theorem sumR_take (R : List RF) (m : Nat) : sumR (R.take m) ≤ sumR R := by
  conv => rhs; rw [← List.take_append_drop m R]
  unfold sumR
  rw [List.map_append, List.sum_append]; omega

set_option maxRecDepth 100000 in
set_option maxHeartbeats 1000000 in
theorem rused_any (room plan : Int) (down : Bool) (v : Value) (R : List RF) (T : Nat → Prop) (w : World) (h : RLi w v R T) (hL : R.length ≤ 100000) (hs : sumR R ≤ 1000000000) :
    Calls Tryd.prog 21 #[rdisk room v plan down] w fun e w' => e = .returned (.int .i64 (sumR R)) ∧ Below w.heap.size w w' := by
  obtain ⟨la, lc, rfl⟩ := slice_form h.row
  have H := Lib.hid h
  clear h
  have HBX : Hid ((w.alloc (.cells #[.int .i64 room, .slice la R.length lc, .int .i64 plan, .bool down] 46)).heap[w.heap.size]? = some (.cells #[.int .i64 room, .slice la R.length lc, .int .i64 plan, .bool down] 46 (0, 0))) := heap_alloc_new w _
  have HBel : Hid (Below w.heap.size w (w.alloc (.cells #[.int .i64 room, .slice la R.length lc, .int .i64 plan, .bool down] 46))) := (Below.refl _ _).alloc (Nat.le_refl _) _
  go_enter Tryd.func21, Tryd.ntmps21
  go_wp2
  generalize w.alloc (.cells #[.int .i64 room, .slice la R.length lc, .int .i64 plan, .bool down] 46) = wd at *
  go_loop [3, 4] (fun s i => ∃ m : Nat, m ≤ R.length ∧ i = .int .i64 m ∧ s = .int .i64 (sumR (R.take m) : Nat)) (fun _ i => R.length - (RowKit.intOf i).toNat)
  case atStart => exact ⟨0, by omega, rfl, rfl⟩
  case round =>
    obtain ⟨m, hm, rfl, rfl⟩ := hrel
    have hx1 := (cells4 HBX.out).2.1
    by_cases hlt : m < R.length
    · obtain ⟨b, o, c, he, hcap, hb, hcell⟩ := (H.out.below HBel.out).cells (by omega)
      obtain ⟨rfl, rfl⟩ : la = some ⟨b, o, none⟩ ∧ lc = c := by cases he; exact ⟨rfl, rfl⟩
      have hc := (hcell m hlt).2.1
      have hsu := sumR_succ hlt
      have hls := sumR_take R (m + 1)
      clear hcell he
      generalize R[m].a = ra at *
      generalize R[m].c = rc at *
      generalize R[m].f.b.length = rl at *
      go_wp2
      go_round
      case rel => exact ⟨m + 1, by omega, by go_num, by rw [hsu]; go_num⟩
      case measure => simp [RowKit.intOf]; omega
    · obtain rfl : m = R.length := by omega
      go_wp2
      go_ret
      exact ⟨rfl, HBel.out⟩
end Go.Proofs.YtjhhmljebflanaaDoor
