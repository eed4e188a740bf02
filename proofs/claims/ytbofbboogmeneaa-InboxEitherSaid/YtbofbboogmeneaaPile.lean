/- Piles of values in memory: push and pop. -/
import Derived.Test.YtbofbboogmeneaaChecked
import Derived.Test.YtbofbboogmeneaaQueue
import Derived.Test.YtbofbboogmeneaaVV
import Derived.Deep.RegionLaw
namespace Go.Proofs.Ytbofbboogmeneaa
set_option linter.unusedVariables false
set_option linter.unusedSimpArgs false
open Go.RowKit

def PRep (w : World) (p : Value) (l : List VV) (S : Nat → Prop) : Prop :=
  ∃ bp lv R, p = .pointer (some ⟨bp, 0, none⟩) ∧ w.heap[bp]? = some (.cells #[lv] 69 (0, 0)) ∧ Row w 31 5 lv l.length (flat l) R ∧ l.length ≤ 1000 ∧ S bp ∧ ∀ k, R k → S k ∧ k ≠ bp

theorem PRep.frame {w w' : World} {p : Value} {l : List VV} {S : Nat → Prop} (h : PRep w p l S) (hb : ∀ k, S k → k < w.heap.size → w'.heap[k]? = w.heap[k]?) : PRep w' p l S := by
  obtain ⟨bp, lv, R, h1, h2, h3, h4, h5, h6⟩ := h
  exact ⟨bp, lv, R, h1, by rw [hb bp h5 (lt_of_heap h2)]; exact h2, h3.frame (fun k hk hlt => hb k (h6 k hk).1 hlt), h4, h5, h6⟩

theorem PRep.mono {w : World} {p : Value} {l : List VV} {S T : Nat → Prop} (h : PRep w p l S) (hT : ∀ k, S k → T k) : PRep w p l T := by
  obtain ⟨bp, lv, R, h1, h2, h3, h4, h5, h6⟩ := h
  exact ⟨bp, lv, R, h1, h2, h3, h4, hT _ h5, fun k hk => ⟨hT k (h6 k hk).1, (h6 k hk).2⟩⟩

theorem setCells_agree (b g : Nat) : ∀ (zs : List Value) (o : Nat) (w w' : World), (∀ k, k ≠ b → w.heap[k]? = w'.heap[k]?) → ∀ k, k ≠ b → (w.setCells g o zs).heap[k]? = (w'.setCells g o zs).heap[k]?
  | [], _, _, _, h, k, hk => h k hk
  | v :: r, o, w, w', h, k, hk => by
    rw [World.setCells, World.setCells]
    refine setCells_agree b g r (o + 1) _ _ (fun k hk => ?_) k hk
    simp only [World.setCell, Array.getElem?_modify]
    rw [h k hk]

/-- What a push comes to, in either order of its two stores. -/
theorem push_end {w W w1 w' : World} {bp g o : Nat} {l : List VV} {v : VV} {ao : Option Addr} {c : Nat} {S R : Nat → Prop} {B : Nat}
    (hl : l.length < 1000) (hS : S bp) (h6 : ∀ k, R k → S k ∧ k ≠ bp) (hCW : Chg S w W) (hC1 : Chg R W w1) (hBW : w.heap.size ≤ B) (hbp : bp < w.heap.size)
    (hb : w1.heap[bp]? = some (.cells #[.slice ao l.length c] 69 (0, 0))) (hgS : R g ∨ B ≤ g) (hgb : ¬ g = bp)
    {off cap : Nat} (hrow : Row (w1.setCells g o v.cells) 31 5 (.slice (some ⟨g, off, none⟩) (l.length + 1) cap) (l.length + 1) (flat l ++ v.cells) (fun k => R k ∨ B ≤ k))
    (hw : w' = (w1.setCells g o v.cells).setCell ⟨bp, 0, none⟩ (.slice (some ⟨g, off, none⟩) (l.length + 1) cap) ∨ w' = (w1.setCell ⟨bp, 0, none⟩ (.slice (some ⟨g, off, none⟩) (l.length + 1) cap)).setCells g o v.cells) :
    PRep w' (.pointer (some ⟨bp, 0, none⟩)) (l ++ [v]) (fun n => S n ∨ w.heap.size ≤ n) ∧ Chg S w w' := by
  have hgS' : S g ∨ w.heap.size ≤ g := by rcases hgS with h | h; exact .inl (h6 g h).1; exact .inr (by omega)
  have hC : Chg S w w1 := hCW.trans hC1 (fun n hn => .inl (h6 n hn).1)
  have key : w'.heap[bp]? = some (.cells #[.slice (some ⟨g, off, none⟩) (l.length + 1) cap] 69 (0, 0)) ∧ (∀ k, k ≠ bp → w'.heap[k]? = (w1.setCells g o v.cells).heap[k]?) ∧ Chg S w w' := by
    rcases hw with rfl | rfl
    · refine ⟨heap_store ((setCells_other g _ o w1 bp (fun e => hgb e.symm)).trans hb) 0 _, fun k hk => Below.heap_setCell _ _ _ _ hk, (hC.setCells hgS' o _).setCell (.inl hS) _⟩
    · refine ⟨(setCells_other g _ o _ bp (fun e => hgb e.symm)).trans (heap_store hb 0 _), fun k hk => setCells_agree bp g _ o _ _ (fun k hk => Below.heap_setCell _ _ _ _ hk) k hk, (hC.setCell (.inl hS) _).setCells hgS' o _⟩
  obtain ⟨k1, k2, k3⟩ := key
  refine ⟨⟨bp, .slice (some ⟨g, off, none⟩) (l.length + 1) cap, fun k => R k ∨ B ≤ k, rfl, k1, ?_, by simp; omega, .inl hS, fun k hk => ?_⟩, k3⟩
  · have e1 : (l ++ [v]).length = l.length + 1 := by simp
    have e2 : flat (l ++ [v]) = flat l ++ v.cells := by simp [flat]
    rw [e1, e2]
    refine hrow.frame (fun k hk hlt => k2 k ?_)
    rcases hk with h | h
    · exact (h6 k h).2
    · omega
  · rcases hk with h | h
    · exact ⟨.inl (h6 k h).1, (h6 k h).2⟩
    · exact ⟨.inr (by omega), by omega⟩

theorem setCells5 (w : World) (g o : Nat) (a b c d e : Value) : w.setCells g o [a, b, c, d, e] = ((((w.setCell ⟨g, o, none⟩ a).setCell ⟨g, o + 1, none⟩ b).setCell ⟨g, o + 2, none⟩ c).setCell ⟨g, o + 3, none⟩ d).setCell ⟨g, o + 4, none⟩ e := rfl

section
variable {w W w1 : World} {bp g o : Nat} {l : List VV} {vk vn : Int} {vf : Nat} {vs : ByteArray} {va : Option Addr} {vl vc : Nat} {ao : Option Addr} {c : Nat} {S R : Nat → Prop} {off cap : Nat}
theorem push_end_a (hl : l.length < 1000) (hS : S bp) (h6 : ∀ k, R k → S k ∧ k ≠ bp) (hCW : Chg S w W) (hC1 : Chg R W w1) (hBW : w.heap.size ≤ W.heap.size) (hbp : bp < w.heap.size)
    (hb : w1.heap[bp]? = some (.cells #[.slice ao l.length c] 69 (0, 0))) (hgS : R g ∨ W.heap.size ≤ g) (hgb : ¬ g = bp)
    (hrow : ∀ zs : List Value, zs.length = 5 → Row (w1.setCells g o zs) 31 5 (.slice (some ⟨g, off, none⟩) (l.length + 1) cap) (l.length + 1) (flat l ++ zs) (fun k => R k ∨ W.heap.size ≤ k)) :
    PRep ((((((w1.setCell ⟨g, o, none⟩ (.int .i64 vk)).setCell ⟨g, o + 1, none⟩ (.int .i64 vn)).setCell ⟨g, o + 2, none⟩ (.float .f64 vf)).setCell ⟨g, o + 3, none⟩ (.string vs)).setCell ⟨g, o + 4, none⟩ (.slice va vl vc)).setCell ⟨bp, 0, none⟩ (.slice (some ⟨g, off, none⟩) (l.length + 1) cap)) (.pointer (some ⟨bp, 0, none⟩)) (l ++ [⟨vk, vn, vf, vs, va, vl, vc⟩]) (fun n => S n ∨ w.heap.size ≤ n) ∧
    Chg S w ((((((w1.setCell ⟨g, o, none⟩ (.int .i64 vk)).setCell ⟨g, o + 1, none⟩ (.int .i64 vn)).setCell ⟨g, o + 2, none⟩ (.float .f64 vf)).setCell ⟨g, o + 3, none⟩ (.string vs)).setCell ⟨g, o + 4, none⟩ (.slice va vl vc)).setCell ⟨bp, 0, none⟩ (.slice (some ⟨g, off, none⟩) (l.length + 1) cap)) :=
  push_end (v := ⟨vk, vn, vf, vs, va, vl, vc⟩) hl hS h6 hCW hC1 hBW hbp hb hgS hgb (hrow _ rfl) (.inl rfl)

theorem push_end_b (hl : l.length < 1000) (hS : S bp) (h6 : ∀ k, R k → S k ∧ k ≠ bp) (hCW : Chg S w W) (hC1 : Chg R W w1) (hBW : w.heap.size ≤ W.heap.size) (hbp : bp < w.heap.size)
    (hb : w1.heap[bp]? = some (.cells #[.slice ao l.length c] 69 (0, 0))) (hgS : R g ∨ W.heap.size ≤ g) (hgb : ¬ g = bp)
    (hrow : ∀ zs : List Value, zs.length = 5 → Row (w1.setCells g o zs) 31 5 (.slice (some ⟨g, off, none⟩) (l.length + 1) cap) (l.length + 1) (flat l ++ zs) (fun k => R k ∨ W.heap.size ≤ k)) :
    PRep ((((((w1.setCell ⟨bp, 0, none⟩ (.slice (some ⟨g, off, none⟩) (l.length + 1) cap)).setCell ⟨g, o, none⟩ (.int .i64 vk)).setCell ⟨g, o + 1, none⟩ (.int .i64 vn)).setCell ⟨g, o + 2, none⟩ (.float .f64 vf)).setCell ⟨g, o + 3, none⟩ (.string vs)).setCell ⟨g, o + 4, none⟩ (.slice va vl vc)) (.pointer (some ⟨bp, 0, none⟩)) (l ++ [⟨vk, vn, vf, vs, va, vl, vc⟩]) (fun n => S n ∨ w.heap.size ≤ n) ∧
    Chg S w ((((((w1.setCell ⟨bp, 0, none⟩ (.slice (some ⟨g, off, none⟩) (l.length + 1) cap)).setCell ⟨g, o, none⟩ (.int .i64 vk)).setCell ⟨g, o + 1, none⟩ (.int .i64 vn)).setCell ⟨g, o + 2, none⟩ (.float .f64 vf)).setCell ⟨g, o + 3, none⟩ (.string vs)).setCell ⟨g, o + 4, none⟩ (.slice va vl vc)) :=
  push_end (v := ⟨vk, vn, vf, vs, va, vl, vc⟩) hl hS h6 hCW hC1 hBW hbp hb hgS hgb (hrow _ rfl) (.inr rfl)
end

set_option maxRecDepth 100000 in
set_option maxHeartbeats 4000000 in
theorem ppush_any (p : Value) (l : List VV) (v : VV) (S : Nat → Prop) (w : World) (h : PRep w p l S) (hl : l.length < 1000) :
    Calls Try.prog 35 #[p, v.val] w fun e w' => e = .returned (.tuple #[]) ∧ PRep w' p (l ++ [v]) (fun n => S n ∨ w.heap.size ≤ n) ∧ Chg S w w' := by
  obtain ⟨bp, lv, R, rfl, h2, h3, h4, h5, h6⟩ := h
  have hc := cellAt h2 0 (v := lv) rfl
  have hlt := lt_of_heap h2
  have H2 := Lib.hid h2
  have H3 := Lib.hid h3
  have H6 := Lib.hid h6
  obtain ⟨-, ao, c, rfl, -, -, -⟩ := h3.reads
  obtain ⟨vk, vn, vf, vs, va, vl, vc⟩ := v
  clear h2 h3 h6
  simp only [VV.val]
  go_enter Try.func35, Try.ntmps35
  go_wp2
  have hsz : (w.alloc (.cells #[.int .i64 vk, .int .i64 vn, .float .f64 vf, .string vs, .slice va vl vc] 31)).heap.size = w.heap.size + 1 := by simp
  have hbx := heap_alloc_new w (.cells #[.int .i64 vk, .int .i64 vn, .float .f64 vf, .string vs, .slice va vl vc] 31)
  have hal : ∀ k, k < w.heap.size → (w.alloc (.cells #[.int .i64 vk, .int .i64 vn, .float .f64 vf, .string vs, .slice va vl vc] 31)).heap[k]? = w.heap[k]? := fun k hk => Below.heap_alloc _ _ _ hk
  have hcw : Chg S w (w.alloc (.cells #[.int .i64 vk, .int .i64 vn, .float .f64 vf, .string vs, .slice va vl vc] 31)) := (Chg.refl S w).alloc _
  generalize w.alloc (.cells #[.int .i64 vk, .int .i64 vn, .float .f64 vf, .string vs, .slice va vl vc] 31) = W at *
  have H2W := Lib.hid (show W.heap[bp]? = _ from (hal bp hlt).trans H2.out)
  have H3W := Lib.hid (H3.out.frame (fun k _ hk => hal k hk))
  have hcl := cellAt H2W.out 0 (v := .slice ao l.length c) rfl
  have hx0 := cellAt hbx 0 (v := .int .i64 vk) rfl
  have hx1 := cellAt hbx 1 (v := .int .i64 vn) rfl
  have hx2 := cellAt hbx 2 (v := .float .f64 vf) rfl
  have hx3 := cellAt hbx 3 (v := .string vs) rfl
  have hx4 := cellAt hbx 4 (v := .slice va vl vc) rfl
  have HCW := Lib.hid hcw
  have HBX := Lib.hid hbx
  have HSZ := Lib.hid hsz
  have hwW : w.heap.size < W.heap.size := by omega
  have hbW : bp < W.heap.size := lt_of_heap H2W.out
  clear hal hcw hbx hsz hc
  go_region_law (refine step_row elemVal rfl rfl (S := R) (v := .slice ao l.length c) rfl ((H3W.out.frame (fun k _ hk => Below.heap_alloc _ _ _ hk)) : Row (W.alloc _) _ _ _ _ _ _) (y := .slice (some ⟨_, 0, none⟩) 1 1) (m := 1) (news := [.int .i64 0, .int .i64 0, .float .f64 0, .string ⟨#[]⟩, .slice none 0 0]) rfl (Reads.block (cs := #[.int .i64 0, .int .i64 0, .float .f64 0, .string ⟨#[]⟩, .slice none 0 0]) (heap_alloc_new W _) 1 5 rfl) (by intro u hu; simp at hu; rcases hu with rfl | rfl | rfl | rfl | rfl <;> rfl) (by unfold maxLen; omega) (by omega) ?_; intro v1 w1 hr1 hch1; obtain ⟨g, off, cap, rfl, hSg, hgl, hgf, hgc, hset⟩ := hr1.last (flat_length l) rfl; have hi1 : (l.length : Int) < (l.length : Int) + 1 := (by omega); have hz0 : w1.cell? ⟨g, off + l.length * 5, none⟩ = some (.int .i64 0) := hgc 0 _ rfl; have hz1 := hgc 1 _ rfl; have hz2 := hgc 2 _ rfl; have hz3 := hgc 3 _ rfl; have hz4 := hgc 4 _ rfl; have hf0 := hgf (off + l.length * 5); have hf1 := hgf (off + l.length * 5 + 1); have hf2 := hgf (off + l.length * 5 + 2); have hf3 := hgf (off + l.length * 5 + 3); have hf4 := hgf (off + l.length * 5 + 4); have hgb : ¬ g = bp := (fun e => by rcases hSg with h | h; exact (H6.out g h).2 e; simp at h; omega); have hgb' : ¬ bp = g := (fun e => hgb e.symm); have HBP1 := Lib.hid (hch1.heap ((Below.heap_alloc _ _ _ hbW).trans H2W.out) (fun h => (H6.out bp h).2 rfl)); have hcb := cellAt HBP1.out 0 (v := .slice ao l.length c) rfl; have hfb := freeAt HBP1.out 0; have HSET := Lib.hid hset; have HR1 := Lib.hid hr1; have HCH := Lib.hid hch1; clear hgf hgc hset hr1 hch1)
  all_goals
    have HG := Lib.hid (show R g ∨ W.heap.size ≤ g by rcases hSg with h | h; exact .inl h; exact .inr (Nat.le_trans (by simp) h))
    have HS5 := Lib.hid (show ∀ zs : List Value, zs.length = 5 → Row (w1.setCells g (off + l.length * 5) zs) 31 5 (.slice (some ⟨g, off, none⟩) (l.length + 1) cap) (l.length + 1) (flat l ++ zs) (fun k => R k ∨ W.heap.size ≤ k) from fun zs hz => (HSET.out zs hz).mono (fun k hk => by rcases hk with h | h; exact .inl h; exact .inr (Nat.le_trans (by simp) h)))
    have HC1 := Lib.hid (((Chg.refl R W).alloc _).drew.trans HCH.out (fun n hn => .inl hn))
    have HGB := Lib.hid hgb
    clear hSg hz0 hz1 hz2 hz3 hz4 hf0 hf1 hf2 hf3 hf4 hgb hgb' hi1 hcb hfb hx0 hx1 hx2 hx3 hx4 hcl HCH HSET HR1
  all_goals
    go_wp2
    go_end0
    refine ⟨rfl, ?_⟩
    first
      | with_reducible exact push_end_a hl h5 H6.out HCW.out HC1.out (Nat.le_of_lt hwW) hlt HBP1.out HG.out HGB.out HS5.out
      | with_reducible exact push_end_b hl h5 H6.out HCW.out HC1.out (Nat.le_of_lt hwW) hlt HBP1.out HG.out HGB.out HS5.out
end Go.Proofs.Ytbofbboogmeneaa
