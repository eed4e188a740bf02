/- The law's Few: operations that are few and small. -/
import Derived.Test.YtjhhmljebflanaaDoorDModel
namespace Go.Proofs.YtjhhmljebflanaaDoor
set_option linter.unusedVariables false
set_option linter.unusedSimpArgs false
open Go.RowKit

abbrev acells (a : AC) : List Value := [.int .i64 a.k, .string a.name, .string a.to, .slice a.ba a.b.length a.bc, .int .i64 a.n, .slice a.ka a.keep.length a.kc]
theorem acells_len (a : AC) : (acells a).length = 6 := rfl
/-- The lists of an operation lie among the blocks of w. -/
structure AC.inw (a : AC) (w : World) : Prop where
  rb : Reads w (.slice a.ba a.b.length a.bc) a.b.length 1 (byts a.b)
  nb : ∀ ad, a.ba = some ad → 0 < a.b.length → ad.block < w.heap.size
  rk : Reads w (.slice a.ka a.keep.length a.kc) a.keep.length 1 (a.keep.map (Value.int .i64))
  nk : ∀ ad, a.ka = some ad → 0 < a.keep.length → ad.block < w.heap.size
  lb : a.b.length ≤ maxLen
  lk : a.keep.length ≤ maxLen
  ln : a.name.size ≤ maxLen
  lt : a.to.size ≤ maxLen
  an : a.n ≤ 9223372036854775807
structure Acts (w : World) (v : Value) (l : List AC) : Prop where
  rd : Reads w v l.length 6 (l.flatMap acells)
  ea : ∀ a ∈ l, a.inw w
  ll : l.length ≤ maxLen

theorem Acts.cells {w : World} {v : Value} {l : List AC} (h : Acts w v l) (hn : 0 < l.length) :
    ∃ b o c, v = .slice (some ⟨b, o, none⟩) l.length c ∧ l.length ≤ c ∧ b < w.heap.size ∧ ∀ j (hj : j < l.length), w.cell? ⟨b, o + j * 6, none⟩ = some (.int .i64 l[j].k) ∧ w.cell? ⟨b, o + j * 6 + 1, none⟩ = some (.string l[j].name) ∧
      w.cell? ⟨b, o + j * 6 + 2, none⟩ = some (.string l[j].to) ∧ w.cell? ⟨b, o + j * 6 + 3, none⟩ = some (.slice l[j].ba l[j].b.length l[j].bc) ∧ w.cell? ⟨b, o + j * 6 + 4, none⟩ = some (.int .i64 l[j].n) ∧ w.cell? ⟨b, o + j * 6 + 5, none⟩ = some (.slice l[j].ka l[j].keep.length l[j].kc) := by
  have hr := h.rd
  obtain ⟨-, ao, c, rfl, -⟩ := id hr
  obtain ⟨b, o, rfl, h1, -, h2, h3⟩ := hr.atN hn (by decide)
  refine ⟨b, o, c, rfl, h1, h2, fun j hj => ⟨?_, ?_, ?_, ?_, ?_, ?_⟩⟩
  · exact h3 (j * 6) _ (by simpa using fm_get acells_len (List.getElem?_eq_getElem hj) 0 _ rfl)
  · rw [Nat.add_assoc]; exact h3 (j * 6 + 1) _ (fm_get acells_len (List.getElem?_eq_getElem hj) 1 _ rfl)
  · rw [Nat.add_assoc]; exact h3 (j * 6 + 2) _ (fm_get acells_len (List.getElem?_eq_getElem hj) 2 _ rfl)
  · rw [Nat.add_assoc]; exact h3 (j * 6 + 3) _ (fm_get acells_len (List.getElem?_eq_getElem hj) 3 _ rfl)
  · rw [Nat.add_assoc]; exact h3 (j * 6 + 4) _ (fm_get acells_len (List.getElem?_eq_getElem hj) 4 _ rfl)
  · rw [Nat.add_assoc]; exact h3 (j * 6 + 5) _ (fm_get acells_len (List.getElem?_eq_getElem hj) 5 _ rfl)

def sumA (l : List AC) : Nat := (l.map fun a => a.b.length).sum
theorem sumA_succ {l : List AC} {m : Nat} (h : m < l.length) : sumA (l.take (m + 1)) = sumA (l.take m) + l[m].b.length := by
  unfold sumA
  rw [List.take_succ_eq_append_getElem h, List.map_append, List.sum_append]; simp
def smallA (a : AC) : Prop := a.name.size ≤ 300 ∧ a.to.size ≤ 300 ∧ a.keep.length ≤ 50
structure FewP (l : List AC) : Prop where
  len : l.length ≤ 100
  sum : sumA l ≤ 1500
  small : ∀ a ∈ l, smallA a

def FPost (w : World) (l : List AC) : Ending → World → Prop := fun e w' => ∃ r : Bool, e = .returned (.int .i64 (if r then 1 else 0)) ∧ (r = true → FewP l) ∧ Below w.heap.size w w'
theorem FPost.no {w w' : World} {l : List AC} (h : Below w.heap.size w w') : FPost w l (.returned (.int .i64 0)) w' := ⟨false, rfl, fun h => (by cases h), h⟩
theorem FPost.yes {w w' : World} {l : List AC} (h : Below w.heap.size w w') (hf : FewP l) : FPost w l (.returned (.int .i64 1)) w' := ⟨true, rfl, fun _ => hf, h⟩

set_option maxRecDepth 100000 in
set_option maxHeartbeats 2000000 in
theorem few_any (la : Option Addr) (lc : Nat) (l : List AC) (w : World) (h : Acts w (.slice la l.length lc) l) :
    Calls Tryd.prog 18 #[.slice la l.length lc] w (FPost w l) := by
  have HCELL : Hid (∀ j (hj : j < l.length), ∃ b o, la = some ⟨b, o, none⟩ ∧ l.length ≤ lc ∧ b < w.heap.size ∧ w.cell? ⟨b, o + j * 6, none⟩ = some (.int .i64 l[j].k) ∧ w.cell? ⟨b, o + j * 6 + 1, none⟩ = some (.string l[j].name) ∧
      w.cell? ⟨b, o + j * 6 + 2, none⟩ = some (.string l[j].to) ∧ w.cell? ⟨b, o + j * 6 + 3, none⟩ = some (.slice l[j].ba l[j].b.length l[j].bc) ∧ w.cell? ⟨b, o + j * 6 + 4, none⟩ = some (.int .i64 l[j].n) ∧ w.cell? ⟨b, o + j * 6 + 5, none⟩ = some (.slice l[j].ka l[j].keep.length l[j].kc)) := fun j hj => by
    obtain ⟨b, o, c, he, h1, h2, h3⟩ := h.cells (by omega)
    cases he
    exact ⟨b, o, rfl, h1, h2, h3 j hj⟩
  have hll := h.ll
  unfold maxLen at hll
  have HBL : Hid (∀ j (hj : j < l.length), l[j].b.length ≤ 9223372036854775807 ∧ l[j].keep.length ≤ 9223372036854775807 ∧ l[j].name.size ≤ 9223372036854775807 ∧ l[j].to.size ≤ 9223372036854775807) := fun j hj => by
    have h1 := (h.ea l[j] (List.getElem_mem hj))
    have g1 := h1.lb; have g2 := h1.lk; have g3 := h1.ln; have g4 := h1.lt
    unfold maxLen at g1 g2 g3 g4
    exact ⟨g1, g2, g3, g4⟩
  clear h
  go_enter Tryd.func18, Tryd.ntmps18
  go_wp2
  go_loopw [3, 8] (fun s i w' => ∃ m : Nat, m ≤ l.length ∧ i = .int .i64 m ∧ s = .int .i64 (sumA (l.take m) : Nat) ∧ sumA (l.take m) ≤ 1500 ∧ Hid (∀ j (hj : j < l.length), j < m → smallA l[j]) ∧ Hid (Below w.heap.size w w')) (fun _ i _ => l.length - (RowKit.intOf i).toNat)
  case atStart => exact ⟨0, by omega, rfl, rfl, by simp [sumA], fun j _ h => by omega, Below.refl _ _⟩
  case round =>
    obtain ⟨m, hm, rfl, rfl, hsum, HSM, HB⟩ := hrel
    by_cases hlt : m < l.length
    · obtain ⟨b, o, rfl, hlc, hb, c0, c1, c2, c3, c4, c5⟩ := HCELL.out m hlt
      have d0 := (HB.out.cell (p := ⟨b, o + m * 6, none⟩) hb).trans c0
      have d1 := (HB.out.cell (p := ⟨b, o + m * 6 + 1, none⟩) hb).trans c1
      have d2 := (HB.out.cell (p := ⟨b, o + m * 6 + 2, none⟩) hb).trans c2
      have d3 := (HB.out.cell (p := ⟨b, o + m * 6 + 3, none⟩) hb).trans c3
      have d4 := (HB.out.cell (p := ⟨b, o + m * 6 + 4, none⟩) hb).trans c4
      have d5 := (HB.out.cell (p := ⟨b, o + m * 6 + 5, none⟩) hb).trans c5
      have hsu := sumA_succ hlt
      obtain ⟨hb1, hb2, hb3, hb4⟩ := HBL.out m hlt
      have HSMN : Hid (smallA l[m] → ∀ j (hj : j < l.length), j < m + 1 → smallA l[j]) := fun h j hj hjm => by
        rcases Nat.lt_or_ge j m with h1 | h1
        · exact HSM.out j hj h1
        · have : j = m := by omega
          subst this; exact h
      have HSA : Hid (l[m].name.size ≤ 300 → l[m].to.size ≤ 300 → l[m].keep.length ≤ 50 → smallA l[m]) := fun a b c => ⟨a, b, c⟩
      clear c0 c1 c2 c3 c4 c5 HSM
      obtain ⟨s2, hs2⟩ : ∃ s2, s2 = sumA (l.take (m + 1)) := ⟨_, rfl⟩
      rw [← hs2] at hsu
      have HS2 := Lib.hid hs2
      clear hs2
      generalize sumA (l.take m) = s1 at *
      generalize hsml : smallA l[m] = SM at *
      clear hsml
      generalize l[m].name = xn at *
      generalize l[m].to = xt at *
      generalize l[m].b.length = xl at *
      generalize l[m].keep.length = xk at *
      generalize l[m].ba = xba at *
      generalize l[m].bc = xbc at *
      generalize l[m].ka = xka at *
      generalize l[m].kc = xkc at *
      generalize l[m].k = xkk at *
      generalize l[m].n = xnn at *
      have hsz := HB.out.size
      have HB2 : Hid (Below w.heap.size w (wr.alloc (.cells #[.int .i64 xkk, .string xn, .string xt, .slice xba xl xbc, .int .i64 xnn, .slice xka xk xkc] 41))) := HB.out.alloc hsz _
      have HX2 : Hid ((wr.alloc (.cells #[.int .i64 xkk, .string xn, .string xt, .slice xba xl xbc, .int .i64 xnn, .slice xka xk xkc] 41)).heap[wr.heap.size]? = some (.cells #[.int .i64 xkk, .string xn, .string xt, .slice xba xl xbc, .int .i64 xnn, .slice xka xk xkc] 41 (0, 0))) := heap_alloc_new _ _
      go_upto_region 5 with fail
      generalize wr.alloc (.cells #[.int .i64 xkk, .string xn, .string xt, .slice xba xl xbc, .int .i64 xnn, .slice xka xk xkc] 41) = wa at *
      clear d0 d1 d2 d3 d4 d5
      have e1 := cellAt HX2.out 1 rfl
      have e2 := cellAt HX2.out 2 rfl
      have e3 := cellAt HX2.out 3 rfl
      have e5 := cellAt HX2.out 5 rfl
      have hmin : min (xl : Int) 2000 = ((min xl 2000 : Nat) : Int) := by omega
      have hwr : IntKind.i64.wrap ((s1 : Int) + ((min xl 2000 : Nat) : Int)) = ((s1 + min xl 2000 : Nat) : Int) := by rw [IntWalk.i64_in _ (by omega)]; omega
      obtain ⟨s3, hs3⟩ : ∃ s3, s3 = s1 + min xl 2000 := ⟨_, rfl⟩
      rw [← hs3] at hwr
      have HS3 := Lib.hid hs3
      by_cases g1 : 1500 < (s3 : Int)
      · clear hs3
        go_wp2
        go_ret
        exact FPost.no HB2.out
      · have hs23 : s3 = s2 := by omega
        subst hs23
        by_cases g2 : 300 < (xn.size : Int)
        · clear hs3
          go_wp2
          go_ret
          exact FPost.no HB2.out
        · by_cases g3 : 300 < (xt.size : Int)
          · clear hs3
            go_wp2
            go_ret
            exact FPost.no HB2.out
          · by_cases g4 : 50 < (xk : Int)
            · clear hs3
              go_wp2
              go_ret
              exact FPost.no HB2.out
            · have HG := Lib.hid (HSMN.out (HSA.out (by omega) (by omega) (by omega)))
              have hle : s3 ≤ 1500 := by omega
              clear hs3
              go_wp2
              go_roundw
              case rel => exact ⟨m + 1, by omega, by go_num, by rw [← HS2.out]; congr 1; omega, by rw [← HS2.out]; exact hle, HG, HB2⟩
              case measure => simp [RowKit.intOf]; omega
    · obtain rfl : m = l.length := by omega
      rw [List.take_length] at hsum
      by_cases g : 100 < (l.length : Int)
      · go_wp2
        go_ret
        exact FPost.no HB.out
      · have HP : Hid (FewP l) := ⟨by omega, hsum, fun a ha => by obtain ⟨j, hj, rfl⟩ := List.mem_iff_getElem.1 ha; exact HSM.out j hj hj⟩
        go_wp2
        go_ret
        exact FPost.yes HB.out HP.out
end Go.Proofs.YtjhhmljebflanaaDoor
