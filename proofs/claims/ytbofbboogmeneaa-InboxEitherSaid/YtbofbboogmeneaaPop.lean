/- Piles of values in memory: pop. -/
import Derived.Test.YtbofbboogmeneaaPile
namespace Go.Proofs.Ytbofbboogmeneaa
set_option linter.unusedVariables false
set_option linter.unusedSimpArgs false
open Go.RowKit

/-- All but the first k of a row. -/
theorem Row.behind {w : World} {e : TypeId} {size g off n cap k : Nat} {xs : List Value} {S : Nat → Prop} (h : Row w e size (.slice (some ⟨g, off, none⟩) n cap) n xs S) (hk : k ≤ n) :
    Row w e size (.slice (if cap = k then some ⟨g, off, none⟩ else some ⟨g, off + k * size, none⟩) (n - k) (cap - k)) (n - k) (xs.drop (k * size)) S := by
  obtain ⟨hl, h2⟩ := h
  rcases h2 with ⟨h, _⟩ | ⟨g', off', cap', cur, hv, hS, hg, hn, hm, hs, ht⟩
  · cases h
  · cases hv
    refine ⟨by rw [List.length_drop, hl, Nat.sub_mul], ?_⟩
    by_cases hc : cap = k
    · refine .inr ⟨g, off, cap - k, cur, by rw [if_pos hc], hS, hg, by omega, by omega, by subst hc; simp; omega, ?_⟩
      have h0 : n - k = 0 := by omega
      rw [h0, Nat.zero_mul, List.take_zero]
      have : (xs.drop (k * size)).length = 0 := by rw [List.length_drop, hl, ← Nat.sub_mul, h0, Nat.zero_mul]
      exact (List.eq_nil_of_length_eq_zero this).symm
    · have h1 := Nat.mul_le_mul_right size hk
      have h2 := Nat.mul_le_mul_right size hn
      have h3 := Nat.sub_mul cap k size
      have h4 := Nat.sub_mul n k size
      refine .inr ⟨g, off + k * size, cap - k, cur, by rw [if_neg hc], hS, hg, by omega, by omega, by omega, ?_⟩
      rw [← ht, List.drop_take, ← Nat.sub_mul, List.drop_drop]

theorem two_new (w : World) (a : Addr) (v : Value) (o1 o2 : Obj) : (((w.setCell a v).alloc o1).alloc o2).heap[w.heap.size]? = some o1 := by
  have hs : (w.setCell a v).heap.size = w.heap.size := by simp [World.setCell]
  have h := heap_alloc_new (w.setCell a v) o1
  rw [hs] at h
  rw [Below.heap_alloc _ _ _ (by simp)]
  exact h

theorem pop_end {w : World} {bp g : Nat} {l : List VV} {lv v' : Value} {S R : Nat → Prop} {o1 o2 : Obj}
    (h2 : w.heap[bp]? = some (.cells #[lv] 69 (0, 0))) (hgl : g < w.heap.size) (hS : S bp) (h6 : ∀ k, R k → S k ∧ k ≠ bp) (hl : l.length + 1 ≤ 1000)
    (hb : Row w 31 5 v' l.length (flat l) R) :
    PRep (((w.setCell ⟨bp, 0, none⟩ v').alloc o1).alloc o2) (.pointer (some ⟨bp, 0, none⟩)) l S ∧ Chg S w (((w.setCell ⟨bp, 0, none⟩ v').alloc o1).alloc o2) := by
  have hlt := lt_of_heap h2
  have hold : ∀ k, k < w.heap.size → (((w.setCell ⟨bp, 0, none⟩ v').alloc o1).alloc o2).heap[k]? = (w.setCell ⟨bp, 0, none⟩ v').heap[k]? := fun k hk => by
    rw [Below.heap_alloc _ _ _ (by simp; omega), Below.heap_alloc _ _ _ (by simp; omega)]
  refine ⟨⟨bp, v', R, rfl, (hold bp hlt).trans (heap_store h2 0 v'), ?_, by omega, hS, h6⟩, (((Chg.refl S w).setCell (.inl hS) _).alloc _).alloc _⟩
  refine hb.frame (fun k hk hkl => (hold k hkl).trans (Below.heap_setCell _ _ _ _ (h6 k hk).2))

set_option maxRecDepth 100000 in
set_option maxHeartbeats 4000000 in
theorem ppop_any (p : Value) (l : List VV) (v : VV) (S : Nat → Prop) (w : World) (h : PRep w p (v :: l) S) :
    Calls Try.prog 29 #[p] w fun e w' => e = .returned v.val ∧ PRep w' p l S ∧ Chg S w w' := by
  obtain ⟨bp, lv, R, rfl, h2, h3, h4, h5, h6⟩ := h
  have hc := cellAt h2 0 (v := lv) rfl
  have hf := freeAt h2 0
  have hlt := lt_of_heap h2
  have H2 := Lib.hid h2
  have H6 := Lib.hid h6
  obtain ⟨g, off, cap, cur, rfl, hSg, -, hnc, -, -, -, hgl⟩ := h3.open (by simp)
  have hb := h3.behind (k := 1) (by simp)
  have hb2 : flat (v :: l) = v.cells ++ flat l := by simp [flat]
  obtain ⟨-, ao, c, hv, -, -, hcs⟩ := h3.reads
  cases hv
  have hx := fun j u (hj : v.cells[j]? = some u) => hcs _ rfl j u (by rw [hb2, List.getElem?_append_left (by have := (List.getElem?_eq_some_iff.1 hj).1; exact this)]; exact hj)
  obtain ⟨vk, vn, vf, vs, va, vl, vc⟩ := v
  have hx0 : w.cell? ⟨g, off, none⟩ = _ := hx 0 _ rfl
  have hx1 : w.cell? ⟨g, off + 1, none⟩ = _ := hx 1 _ rfl
  have hx2 : w.cell? ⟨g, off + 2, none⟩ = _ := hx 2 _ rfl
  have hx3 : w.cell? ⟨g, off + 3, none⟩ = _ := hx 3 _ rfl
  have hx4 : w.cell? ⟨g, off + 4, none⟩ = _ := hx 4 _ rfl
  rw [hb2, Nat.one_mul, List.drop_left' (by rfl)] at hb
  simp only [List.length_cons, Nat.add_sub_cancel] at hb hc H2 hnc ⊢
  have HB := Lib.hid hb
  have h4' : l.length + 1 ≤ 1000 := by simpa using h4
  have hpos : (0 : Int) < (l.length : Int) + 1 := by omega
  have hone : (1 : Int) ≤ (l.length : Int) + 1 := by omega
  clear h2 h3 h6 hx hcs hb2 hb h4
  simp only [VV.val]
  go_enter Try.func29, Try.ntmps29
  go_wp2
  all_goals (try simp only [Exit.inBlock, Exit.then])
  all_goals refine bodyPost_ret (results_cell_row (P := Try.prog) rfl _ _ w.heap.size 31 #[.int .i64 vk, .int .i64 vn, .float .f64 vf, .string vs, .slice va vl vc] (0, 0) _ rfl ?_ Try.underlying31 rfl rfl) rfl ?_
  · exact two_new ..
  · refine ⟨rfl, pop_end H2.out hgl h5 H6.out h4' ?_⟩
    have h1 := HB.out
    rw [if_pos (by assumption), show cap - 1 = 0 by omega] at h1
    exact h1
  · exact two_new ..
  · refine ⟨rfl, pop_end H2.out hgl h5 H6.out h4' ?_⟩
    have h1 := HB.out
    rw [if_neg (by assumption)] at h1
    exact h1
end Go.Proofs.Ytbofbboogmeneaa
