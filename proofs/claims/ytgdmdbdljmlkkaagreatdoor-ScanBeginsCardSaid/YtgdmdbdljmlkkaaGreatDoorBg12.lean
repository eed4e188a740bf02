/- Texts for scanBegins_holds, joined: Rf2. -/
import Derived.Test.YtgdmdbdljmlkkaaGreatDoorBg03
import Derived.Test.YtgdmdbdljmlkkaaGreatDoorBg08
import Derived.Test.YtgdmdbdljmlkkaaGreatDoorBg11
import Derived.Deep.RegionLaw
import Derived.Deep.RegionHeld3
import Derived.StillTailTactics
import Derived.Test.YtgdmdbdljmlkkaaGreatDoorBg07
namespace Go.Proofs.YtgdmdbdljmlkkaaGreatDoor
set_option linter.unusedVariables false
set_option linter.unusedSimpArgs false
open Go.RowKit
/-- A file of the reference, and where its bytes lie. -/
structure RF where
  f : DF
  a : Option Addr
  c : Nat
def RF.v (r : RF) : Value := .slice r.a r.f.b.length r.c
abbrev rcells (r : RF) : List Value := [.string r.f.name, .slice r.a r.f.b.length r.c, .int .i64 r.f.d]
theorem rcells_len (r : RF) : (rcells r).length = 3 := rfl
theorem rcells_one (R : List RF) : ∀ u ∈ R.flatMap rcells, u.oneCell' = true := by
  intro u hu
  obtain ⟨x, -, hx⟩ := List.mem_flatMap.1 hu
  simp only [rcells, List.mem_cons, List.not_mem_nil, or_false] at hx
  rcases hx with rfl | rfl | rfl <;> rfl
theorem elemR : ElemOf Tryz.prog 30 120 (.agg #[.string ⟨#[]⟩, .slice none 0 0, .int .i64 0]) 3 48 := ⟨Tryz.underlying30, by kernel_rfl, rfl, by decide⟩
def okR (w : World) (T : Nat → Prop) (r : RF) : Prop := Row w 5 1 r.v r.f.b.length (byts r.f.b) T ∧ r.f.d ≤ r.f.b.length ∧ r.f.b.length ≤ 1000000000
/-- The list of the reference's files in memory. -/
structure RLi (w : World) (v : Value) (R : List RF) (T : Nat → Prop) : Prop where
  row : Row w 120 3 v R.length (R.flatMap rcells) T
  byt : ∀ r ∈ R, okR w T r
theorem RLi.frame {w w' : World} {v : Value} {R : List RF} {T : Nat → Prop} (h : RLi w v R T) (hb : ∀ k, T k → k < w.heap.size → w'.heap[k]? = w.heap[k]?) : RLi w' v R T :=
  ⟨h.row.frame hb, fun r hr => ⟨(h.byt r hr).1.frame hb, (h.byt r hr).2⟩⟩
theorem RLi.mono {w : World} {v : Value} {R : List RF} {T T' : Nat → Prop} (h : RLi w v R T) (hT : ∀ k, T k → T' k) : RLi w v R T' :=
  ⟨h.row.mono hT, fun r hr => ⟨(h.byt r hr).1.mono hT, (h.byt r hr).2⟩⟩
theorem RLi.below {w w' : World} {v : Value} {R : List RF} {T : Nat → Prop} (h : RLi w v R T) (hb : Below w.heap.size w w') : RLi w' v R T := h.frame (fun k _ hk => hb.block k hk)
theorem RLi.nil (w : World) (T : Nat → Prop) : RLi w (.slice none 0 0) [] T := ⟨Row.nil _ _ _ _, fun r hr => (List.not_mem_nil hr).elim⟩
theorem slice_form {w : World} {e : TypeId} {size : Nat} {v : Value} {n : Nat} {xs : List Value} {R : Nat → Prop} (h : Row w e size v n xs R) : ∃ a c, v = .slice a n c := by
  obtain ⟨-, a, c, h, -⟩ := h.reads; exact ⟨a, c, h⟩
theorem RLi.cells {w : World} {v : Value} {R : List RF} {T : Nat → Prop} (h : RLi w v R T) (hn : 0 < R.length) :
    ∃ b o c, v = .slice (some ⟨b, o, none⟩) R.length c ∧ R.length ≤ c ∧ b < w.heap.size ∧ ∀ j (hj : j < R.length), w.cell? ⟨b, o + j * 3, none⟩ = some (.string R[j].f.name) ∧ w.cell? ⟨b, o + j * 3 + 1, none⟩ = some (.slice R[j].a R[j].f.b.length R[j].c) ∧
      w.cell? ⟨b, o + j * 3 + 2, none⟩ = some (.int .i64 R[j].f.d) := by
  have hr := h.row.reads
  obtain ⟨-, ao, c, rfl, -⟩ := id hr
  obtain ⟨b, o, rfl, h1, -, h2, h3⟩ := hr.atN hn (by decide)
  refine ⟨b, o, c, rfl, h1, h2, fun j hj => ⟨?_, ?_, ?_⟩⟩
  · exact h3 (j * 3) _ (by simpa using fm_get rcells_len (List.getElem?_eq_getElem hj) 0 _ rfl)
  · rw [Nat.add_assoc]; exact h3 (j * 3 + 1) _ (fm_get rcells_len (List.getElem?_eq_getElem hj) 1 _ rfl)
  · rw [Nat.add_assoc]; exact h3 (j * 3 + 2) _ (fm_get rcells_len (List.getElem?_eq_getElem hj) 2 _ rfl)
theorem str_ne {a b : ByteArray} (h : ¬ a = b) : (¬ a.toList = b.toList) ∧ (a.toList == b.toList) = false := by
  have h1 : ¬ a.toList = b.toList := fun e => h (by
    have h2 := ba_beq a b
    rw [beq_toListBytes, e] at h2
    simpa using h2)
  exact ⟨h1, by simpa using h1⟩
theorem cells4 {w : World} {b : Nat} {x0 x1 x2 x3 : Value} {t : TypeId} {fr : Nat × Nat} (h : w.heap[b]? = some (.cells #[x0, x1, x2, x3] t fr)) :
    w.cell? ⟨b, 0, none⟩ = some x0 ∧ w.cell? ⟨b, 1, none⟩ = some x1 ∧ w.cell? ⟨b, 2, none⟩ = some x2 ∧ w.cell? ⟨b, 3, none⟩ = some x3 :=
  ⟨cellAt h 0 rfl, cellAt h 1 rfl, cellAt h 2 rfl, cellAt h 3 rfl⟩
theorem cells3 {w : World} {b : Nat} {x0 x1 x2 : Value} {t : TypeId} {fr : Nat × Nat} (h : w.heap[b]? = some (.cells #[x0, x1, x2] t fr)) :
    w.cell? ⟨b, 0, none⟩ = some x0 ∧ w.cell? ⟨b, 1, none⟩ = some x1 ∧ w.cell? ⟨b, 2, none⟩ = some x2 :=
  ⟨cellAt h 0 rfl, cellAt h 1 rfl, cellAt h 2 rfl⟩
/-- The place of a file in the list. -/
def posR : List RF → ByteArray → Int
  | [], _ => -1
  | r :: l, n => if r.f.name = n then 0 else if posR l n < 0 then -1 else posR l n + 1
theorem posR_hit {R : List RF} {n : ByteArray} {m : Nat} (hm : m < R.length) (h : R[m].f.name = n) (hl : ∀ j (hj : j < m), (R[j]'(by omega)).f.name ≠ n) : posR R n = (m : Int) := by
  induction R generalizing m with
  | nil => simp at hm
  | cons r l ih =>
    rw [posR]
    cases m with
    | zero => simp only [List.getElem_cons_zero] at h; rw [if_pos h]; rfl
    | succ m =>
      have h0 := hl 0 (by omega)
      simp only [List.getElem_cons_zero] at h0
      have := ih (m := m) (by simpa using hm) (by simpa using h) (fun j hj => by simpa using hl (j + 1) (by omega))
      rw [if_neg h0, this, if_neg (by omega)]; omega
theorem posR_miss {R : List RF} {n : ByteArray} (hl : ∀ j (hj : j < R.length), R[j].f.name ≠ n) : posR R n = -1 := by
  induction R with
  | nil => rfl
  | cons r l ih =>
    have h0 := hl 0 (by simp)
    simp only [List.getElem_cons_zero] at h0
    rw [posR, if_neg h0, ih (fun j hj => by have := hl (j + 1) (by simpa using hj); rwa [List.getElem_cons_succ] at this), if_pos (by omega)]
/-- A disk of the reference as a value. -/
abbrev rdisk (room : Int) (v : Value) (plan : Int) (down : Bool) : Value := .agg #[.int .i64 room, v, .int .i64 plan, .bool down]
set_option maxRecDepth 100000 in
set_option maxHeartbeats 1000000 in
theorem rfind_any (room plan : Int) (down : Bool) (v : Value) (R : List RF) (T : Nat → Prop) (n : ByteArray) (w : World) (h : RLi w v R T) (hL : R.length ≤ 100000) :
    Calls Tryz.prog 70 #[rdisk room v plan down, .string n] w fun e w' => e = .returned (.int .i64 (posR R n)) ∧ Below w.heap.size w w' := by
  obtain ⟨la, lc, rfl⟩ := slice_form h.row
  have H := Lib.hid h
  clear h
  have HIT : Hid (∀ (m : Nat) (hm : m < R.length), R[m].f.name = n → (∀ j (hj : j < m), (R[j]'(by omega)).f.name ≠ n) → posR R n = (m : Int)) := fun m hm he hl => posR_hit hm he hl
  have MISS : Hid ((∀ j (hj : j < R.length), R[j].f.name ≠ n) → posR R n = -1) := fun hl => posR_miss hl
  generalize posR R n = pz at *
  have HBX : Hid ((w.alloc (.cells #[.int .i64 room, .slice la R.length lc, .int .i64 plan, .bool down] 32)).heap[w.heap.size]? = some (.cells #[.int .i64 room, .slice la R.length lc, .int .i64 plan, .bool down] 32 (0, 0))) := heap_alloc_new w _
  have HBel : Hid (Below w.heap.size w (w.alloc (.cells #[.int .i64 room, .slice la R.length lc, .int .i64 plan, .bool down] 32))) := (Below.refl _ _).alloc (Nat.le_refl _) _
  go_enter Tryz.func70, Tryz.ntmps70
  go_wp2
  generalize w.alloc (.cells #[.int .i64 room, .slice la R.length lc, .int .i64 plan, .bool down] 32) = wd at *
  go_loop [5] (fun i => ∃ m : Nat, m ≤ R.length ∧ i = .int .i64 m ∧ Hid (∀ j (hj : j < R.length), j < m → R[j].f.name ≠ n)) (fun i => R.length - (RowKit.intOf i).toNat)
  case atStart => exact ⟨0, by omega, rfl, fun j _ h => by omega⟩
  case round =>
    obtain ⟨m, hm, rfl, HLOW⟩ := hrel
    have hx1 := (cells4 HBX.out).2.1
    by_cases hlt : m < R.length
    · obtain ⟨b, o, c, he, hcap, hb, hcell⟩ := (H.out.below HBel.out).cells (by omega)
      obtain ⟨rfl, rfl⟩ : la = some ⟨b, o, none⟩ ∧ lc = c := by cases he; exact ⟨rfl, rfl⟩
      have hc := (hcell m hlt).1
      by_cases hk : R[m].f.name = n
      · have HE : Hid (pz = (m : Int)) := HIT.out m hlt hk (fun j hj => HLOW.out j (by omega) hj)
        rw [hk] at hc
        clear hcell he hk
        go_wp2
        go_ret
        exact ⟨congrArg (fun x => Ending.returned (.int .i64 x)) HE.out.symm, HBel.out⟩
      · obtain ⟨hne, hne2⟩ := str_ne hk
        have HN : Hid (∀ j (hj : j < R.length), j < m + 1 → R[j].f.name ≠ n) := fun j hj hjm => by
          rcases Nat.lt_or_ge j m with h | h
          · exact HLOW.out j hj h
          · have : j = m := by omega
            subst this; exact hk
        clear hcell he hk
        generalize R[m].f.name = key at *
        go_wp2
        go_round
        case rel => exact ⟨m + 1, by omega, by go_num, HN⟩
        case measure => simp [RowKit.intOf]; omega
    · have HE : Hid (pz = -1) := MISS.out (fun j hj => HLOW.out j hj (by omega))
      go_wp2
      go_ret
      exact ⟨congrArg (fun x => Ending.returned (.int .i64 x)) HE.out.symm, HBel.out⟩
def sumR (R : List RF) : Nat := (R.map fun r => r.f.b.length).sum
theorem sumR_succ {R : List RF} {m : Nat} (h : m < R.length) : sumR (R.take (m + 1)) = sumR (R.take m) + R[m].f.b.length := by
  unfold sumR
  rw [List.take_succ_eq_append_getElem h, List.map_append, List.sum_append]; simp
theorem sumR_take (R : List RF) (m : Nat) : sumR (R.take m) ≤ sumR R := by
  conv => rhs; rw [← List.take_append_drop m R]
  unfold sumR
  rw [List.map_append, List.sum_append]; omega
set_option maxRecDepth 100000 in
set_option maxHeartbeats 1000000 in
theorem rused_any (room plan : Int) (down : Bool) (v : Value) (R : List RF) (T : Nat → Prop) (w : World) (h : RLi w v R T) (hL : R.length ≤ 100000) (hs : sumR R ≤ 1000000000) :
    Calls Tryz.prog 52 #[rdisk room v plan down] w fun e w' => e = .returned (.int .i64 (sumR R)) ∧ Below w.heap.size w w' := by
  obtain ⟨la, lc, rfl⟩ := slice_form h.row
  have H := Lib.hid h
  clear h
  have HBX : Hid ((w.alloc (.cells #[.int .i64 room, .slice la R.length lc, .int .i64 plan, .bool down] 32)).heap[w.heap.size]? = some (.cells #[.int .i64 room, .slice la R.length lc, .int .i64 plan, .bool down] 32 (0, 0))) := heap_alloc_new w _
  have HBel : Hid (Below w.heap.size w (w.alloc (.cells #[.int .i64 room, .slice la R.length lc, .int .i64 plan, .bool down] 32))) := (Below.refl _ _).alloc (Nat.le_refl _) _
  go_enter Tryz.func52, Tryz.ntmps52
  go_wp2
  generalize w.alloc (.cells #[.int .i64 room, .slice la R.length lc, .int .i64 plan, .bool down] 32) = wd at *
  go_loop [3, 4] (fun s i => ∃ m : Nat, m ≤ R.length ∧ i = .int .i64 m ∧ s = .int .i64 (sumR (R.take m) : Nat)) (fun _ i => R.length - (RowKit.intOf i).toNat)
  case atStart => exact ⟨0, by omega, rfl, rfl⟩
  case round =>
    obtain ⟨m, hm, rfl, rfl⟩ := hrel
    have hx1 := (cells4 HBX.out).2.1
    by_cases hlt : m < R.length
    · obtain ⟨b, o, c, he, hcap, hb, hcell⟩ := (H.out.below HBel.out).cells (by omega)
      obtain ⟨rfl, rfl⟩ : la = some ⟨b, o, none⟩ ∧ lc = c := by cases he; exact ⟨rfl, rfl⟩
      have hc := (hcell m hlt).2.1
      have hsu := sumR_succ hlt
      have hls := sumR_take R (m + 1)
      clear hcell he
      generalize R[m].a = ra at *
      generalize R[m].c = rc at *
      generalize R[m].f.b.length = rl at *
      go_wp2
      go_round
      case rel => exact ⟨m + 1, by omega, by go_num, by rw [hsu]; go_num⟩
      case measure => simp [RowKit.intOf]; omega
    · obtain rfl : m = R.length := by omega
      go_wp2
      go_ret
      exact ⟨rfl, HBel.out⟩
end Go.Proofs.YtgdmdbdljmlkkaaGreatDoor
namespace Go.Proofs.YtgdmdbdljmlkkaaGreatDoor
set_option linter.unusedVariables false
set_option linter.unusedSimpArgs false
open Go.RowKit
def outR (R : List RF) (n : ByteArray) : List RF := R.filter fun r => decide (r.f.name ≠ n)
theorem outR_succ {R : List RF} {n : ByteArray} {m : Nat} (h : m < R.length) : outR (R.take (m + 1)) n = outR (R.take m) n ++ if R[m].f.name = n then [] else [R[m]] := by
  unfold outR
  rw [List.take_succ_eq_append_getElem h, List.filter_append]
  congr 1
  by_cases h1 : R[m].f.name = n
  · simp [h1]
  · simp [h1]
theorem outR_len (R : List RF) (n : ByteArray) : (outR R n).length ≤ R.length := List.length_filter_le _ _
theorem outR_mem {R : List RF} {n : ByteArray} {r : RF} (h : r ∈ outR R n) : r ∈ R := (List.mem_filter.1 h).1
set_option maxRecDepth 100000 in
set_option maxHeartbeats 1000000 in
theorem rwithout_any (v : Value) (R : List RF) (T : Nat → Prop) (n : ByteArray) (w : World) (h : RLi w v R T) (hL : R.length ≤ 100000) :
    Calls Tryz.prog 122 #[v, .string n] w fun e w' => ∃ v', e = .returned v' ∧ RLi w' v' (outR R n) (fun k => T k ∨ w.heap.size ≤ k) ∧ Below w.heap.size w w' := by
  obtain ⟨la, lc, rfl⟩ := slice_form h.row
  have H := Lib.hid h
  clear h
  go_enter Tryz.func122, Tryz.ntmps122
  go_wp2
  go_loopw [5, 6] (fun out i w' => ∃ m : Nat, m ≤ R.length ∧ i = .int .i64 m ∧ Hid (Row w' 120 3 out (outR (R.take m) n).length ((outR (R.take m) n).flatMap rcells) (fun k => w.heap.size ≤ k)) ∧ Hid (Below w.heap.size w w')) (fun _ i _ => R.length - (RowKit.intOf i).toNat)
  case atStart => exact ⟨0, by omega, rfl, Row.nil _ _ _ _, Below.refl _ _⟩
  case round =>
    obtain ⟨m, hm, rfl, HO, HB⟩ := hrel
    by_cases hlt : m < R.length
    · obtain ⟨b, o, c, he, hcap, hb, hcell⟩ := (H.out.below HB.out).cells (by omega)
      obtain ⟨rfl, rfl⟩ : la = some ⟨b, o, none⟩ ∧ lc = c := by cases he; exact ⟨rfl, rfl⟩
      obtain ⟨hc0, hc1, hc2⟩ := hcell m hlt
      have HS := Lib.hid (outR_succ (n := n) hlt)
      have HLL : Hid ((outR (R.take m) n).length ≤ 100000) := by
        have := outR_len (R.take m) n
        rw [List.length_take] at this
        show _ ≤ _
        omega
      by_cases hk : R[m].f.name = n
      · rw [if_pos hk, List.append_nil] at HS
        rw [hk] at hc0
        clear hcell he hk
        go_wp2
        go_roundw
        case rel => exact ⟨m + 1, by omega, by go_num, by rw [Hid, HS.out]; exact HO.out, HB⟩
        case measure => simp [RowKit.intOf]; omega
      · rw [if_neg hk] at HS
        obtain ⟨hne, hne2⟩ := str_ne hk
        have HCE : Hid (rcells R[m] = [.string R[m].f.name, .slice R[m].a R[m].f.b.length R[m].c, .int .i64 R[m].f.d]) := rfl
        have HFM : Hid ((outR (R.take m) n ++ [R[m]]).flatMap rcells = (outR (R.take m) n).flatMap rcells ++ [.string R[m].f.name, .slice R[m].a R[m].f.b.length R[m].c, .int .i64 R[m].f.d]) := by simp [Hid]
        have HLN : Hid ((outR (R.take m) n ++ [R[m]]).length = (outR (R.take m) n).length + 1) := by simp [Hid]
        rw [← HS.out] at HFM HLN
        clear hcell he hk HS HCE
        generalize R[m].f.name = key at *
        generalize R[m].a = ra at *
        generalize R[m].c = rc at *
        generalize R[m].f.b.length = rl at *
        generalize R[m].f.d = rd at *
        have hll := HLL.out
        obtain ⟨L, hL2⟩ : ∃ L, L = outR (R.take m) n := ⟨_, rfl⟩
        rw [← hL2] at HO HFM HLN hll
        have hbl := HB.out.size
        go_wp2_with (refine wpList_row elemR rfl rfl (S := fun k => w.heap.size ≤ k) (n := L.length) (xs := L.flatMap rcells) rfl (HO.out.frame (fun k _ hk => Below.heap_alloc _ _ _ hk)) (y := .slice (some ⟨wr.heap.size, 0, none⟩) 1 1) (m := 1) (news := [.string key, .slice ra rl rc, .int .i64 rd]) rfl (Reads.single (heap_alloc_new wr _)) (by intro u hu; simp only [List.mem_cons, List.not_mem_nil, or_false] at hu; rcases hu with rfl | rfl | rfl <;> rfl) (by unfold maxLen; omega) (by omega) ?_; intro v5 w5 hr5 hch5)
        go_roundw
        case rel =>
          refine ⟨m + 1, by omega, by go_num, ?_, (HB.out.alloc hbl _).trans (hch5.toBelow (by simp <;> omega) (fun n hn h => by omega))⟩
          rw [Hid, HFM.out, HLN.out]
          exact hr5.mono (fun k hk => by rcases hk with hk | hk; exact hk; simp only [World.size_alloc] at hk; omega)
        case measure => simp [RowKit.intOf]; omega
    · obtain rfl : m = R.length := by omega
      rw [List.take_length] at HO
      go_wp2
      go_ret
      exact ⟨_, rfl, ⟨HO.out.mono (fun k hk => .inr hk), fun r hr => ⟨((H.out.below HB.out).byt r (outR_mem hr)).1.mono (fun k hk => .inl hk), ((H.out.below HB.out).byt r (outR_mem hr)).2⟩⟩, HB.out⟩
theorem elemStr : ElemOf Tryz.prog 89 9 (.string ⟨#[]⟩) 1 16 := ⟨Tryz.underlying89, by kernel_rfl, rfl, by decide⟩
def namesR (R : List RF) : List Value := R.map fun r => .string r.f.name
theorem namesR_succ {R : List RF} {m : Nat} (h : m < R.length) : namesR (R.take (m + 1)) = namesR (R.take m) ++ [.string R[m].f.name] := by
  unfold namesR
  rw [List.take_succ_eq_append_getElem h, List.map_append]; rfl
set_option maxRecDepth 100000 in
set_option maxHeartbeats 1000000 in
theorem rnames_any (room plan : Int) (down : Bool) (v : Value) (R : List RF) (T : Nat → Prop) (w : World) (h : RLi w v R T) (hL : R.length ≤ 100000) :
    Calls Tryz.prog 50 #[rdisk room v plan down] w fun e w' => ∃ v', e = .returned v' ∧ Row w' 9 1 v' R.length (namesR R) (fun k => w.heap.size ≤ k) ∧ Below w.heap.size w w' := by
  obtain ⟨la, lc, rfl⟩ := slice_form h.row
  have H := Lib.hid h
  clear h
  have HBX : Hid ((w.alloc (.cells #[.int .i64 room, .slice la R.length lc, .int .i64 plan, .bool down] 32)).heap[w.heap.size]? = some (.cells #[.int .i64 room, .slice la R.length lc, .int .i64 plan, .bool down] 32 (0, 0))) := heap_alloc_new w _
  have HBel : Hid (Below w.heap.size w (w.alloc (.cells #[.int .i64 room, .slice la R.length lc, .int .i64 plan, .bool down] 32))) := (Below.refl _ _).alloc (Nat.le_refl _) _
  have HSZ : Hid ((w.alloc (.cells #[.int .i64 room, .slice la R.length lc, .int .i64 plan, .bool down] 32)).heap.size = w.heap.size + 1) := World.size_alloc _ _
  go_enter Tryz.func50, Tryz.ntmps50
  go_wp2
  generalize w.alloc (.cells #[.int .i64 room, .slice la R.length lc, .int .i64 plan, .bool down] 32) = wd at *
  go_loopw [3, 4] (fun out i w' => ∃ m : Nat, m ≤ R.length ∧ i = .int .i64 m ∧ Hid (Row w' 9 1 out m (namesR (R.take m)) (fun k => wd.heap.size ≤ k)) ∧ Hid (Below wd.heap.size wd w')) (fun _ i _ => R.length - (RowKit.intOf i).toNat)
  case atStart => exact ⟨0, by omega, rfl, Row.nil _ _ _ _, Below.refl _ _⟩
  case round =>
    obtain ⟨m, hm, rfl, HO, HB⟩ := hrel
    have HBL := Lib.hid (HBel.out.trans (HB.out.mono (B' := w.heap.size) (by rw [HSZ.out]; omega)))
    have HBX2 := Lib.hid ((HB.out.block _ (lt_of_heap HBX.out)).trans HBX.out)
    have hx1 := (cells4 HBX2.out).2.1
    by_cases hlt : m < R.length
    · obtain ⟨b, o, c, he, hcap, hb, hcell⟩ := (H.out.below HBL.out).cells (by omega)
      obtain ⟨rfl, rfl⟩ : la = some ⟨b, o, none⟩ ∧ lc = c := by cases he; exact ⟨rfl, rfl⟩
      have hc0 := (hcell m hlt).1
      have HS := Lib.hid (namesR_succ hlt)
      clear hcell he
      generalize R[m].f.name = key at *
      have hbl := HB.out.size
      go_wp2_with (refine wpList_row elemStr rfl rfl (S := fun k => wd.heap.size ≤ k) (n := m) (xs := namesR (R.take m)) rfl (HO.out.frame (fun k _ hk => Below.heap_alloc _ _ _ hk)) (y := .slice (some ⟨wr.heap.size, 0, none⟩) 1 1) (m := 1) (news := [.string key]) rfl (reads_one wr _ _) (one_of rfl) (by unfold maxLen; omega) (by omega) ?_; intro v5 w5 hr5 hch5)
      go_roundw
      case rel =>
        refine ⟨m + 1, by omega, by go_num, ?_, (HB.out.alloc hbl _).trans (hch5.toBelow (by simp <;> omega) (fun n hn h => by omega))⟩
        rw [Hid, HS.out]
        exact hr5.mono (fun k hk => by rcases hk with hk | hk; exact hk; simp only [World.size_alloc] at hk; omega)
      case measure => simp [RowKit.intOf]; omega
    · obtain rfl : m = R.length := by omega
      rw [List.take_length] at HO
      have hsz := HSZ.out
      go_wp2
      go_ret
      exact ⟨_, rfl, HO.out.mono (fun k hk => by omega), HBL.out⟩
theorem findD_hit {R : List RF} {n : ByteArray} {m : Nat} (hm : m < R.length) (h : R[m].f.name = n) (hl : ∀ j (hj : j < m), (R[j]'(by omega)).f.name ≠ n) : findD (R.map RF.f) n = some R[m].f := by
  induction R generalizing m with
  | nil => simp at hm
  | cons r l ih =>
    rw [List.map_cons, findD]
    cases m with
    | zero => simp only [List.getElem_cons_zero] at h; rw [if_pos h]; rfl
    | succ m =>
      have h0 := hl 0 (by omega)
      simp only [List.getElem_cons_zero] at h0
      rw [if_neg h0]
      exact ih (m := m) (by simpa using hm) (by simpa using h) (fun j hj => by have := hl (j + 1) (by omega); rwa [List.getElem_cons_succ] at this)
theorem findD_miss {R : List RF} {n : ByteArray} (hl : ∀ j (hj : j < R.length), R[j].f.name ≠ n) : findD (R.map RF.f) n = none := by
  rw [findD_none]
  intro h
  rw [List.map_map] at h
  obtain ⟨r, hr, he⟩ := List.mem_map.1 h
  obtain ⟨j, hj, rfl⟩ := List.mem_iff_getElem.1 hr
  exact hl j hj he
/-- A name is there for the first time, or not at all. -/
theorem first_name (R : List RF) (n : ByteArray) : (∀ j (hj : j < R.length), R[j].f.name ≠ n) ∨ ∃ (i : Nat) (hi : i < R.length), R[i].f.name = n ∧ ∀ j (hj : j < i), (R[j]'(by omega)).f.name ≠ n := by
  rcases first_hit R (fun r => decide (r.f.name = n)) with h | ⟨i, hi, h1, h2⟩
  · exact .inl (fun j hj => by simpa using h R[j] (List.getElem_mem hj))
  · exact .inr ⟨i, hi, by simpa using h1, fun j hj => by simpa using h2 j hj⟩
end Go.Proofs.YtgdmdbdljmlkkaaGreatDoor
