/- An inbox: a signal is taken. -/
import Derived.Test.YtbofbboogmeneaaInPut2
import Derived.Laws.ResultCell
namespace Go.Proofs.Ytbofbboogmeneaa
set_option linter.unusedVariables false
set_option linter.unusedSimpArgs false
open Go.RowKit

theorem results_row_tmp {P : Program} {fn : Func} {p u : Tmp} {ty : TypeId} (h : fn.results = #[.cell p ty, .tmp u]) (tmps : Array Value) (w : World) (g : Nat) (t : TypeId) (cs : Array Value) (fr : Nat × Nat) (d : TypeDesc)
    (hp : tmps.getD p undef = .pointer (some ⟨g, 0, none⟩)) (hg : w.heap[g]? = some (.cells cs t fr))
    (hu : P.underlying ty = some d) (hd : (match d with | .struct _ | .array _ _ => true | _ => false) = true) (hi : (P.info? ty).map (·.size) = some cs.size) :
    (results fn tmps).run P w = .ok (.tuple #[.agg cs, tmps.getD u undef]) w := by
  rw [results_cell_tmp h, hp]
  simp [asAddr, run_loadVar_row w g t ty cs fr d hg hu hd hi, Result.andThen]

set_option maxRecDepth 100000 in
set_option maxHeartbeats 1000000 in
theorem itake_some (x : Value) (name : ByteArray) (id : Nat) (v : VV) (l : List VV) (V : ByteArray → List VV) (Q : ByteArray → List Nat) (W : Nat → Option ByteArray) (S : Nat → Prop) (w : World) (h : IRep w x V Q W S) (hV : V name = v :: l) :
    Calls Try.prog 11 #[x, .string name, .int .u64 id] w fun e w' => e = .returned (.tuple #[v.val, .bool true]) ∧ IRep w' x (upd V name l) Q W (fun k => S k ∨ w.heap.size ≤ k) ∧ Chg S w w' := by
  obtain ⟨bx, bv, bq, bw, col, pv, pq, rfl, h2⟩ := h
  have hA : Chg (fun _ => False) w (w.alloc (.cells #[.int .i64 0, .int .i64 0, .float .f64 0, .string ⟨#[]⟩, .slice none 0 0] 31)) := (Chg.refl _ w).alloc _
  have hb0 := heap_alloc_new w (.cells #[.int .i64 0, .int .i64 0, .float .f64 0, .string ⟨#[]⟩, .slice none 0 0] 31)
  have hc0 := cellAt h2.blk 0 (v := .map (some bv)) rfl
  have hbx := lt_of_heap h2.blk
  have hlk := look_v (h2.mv.frame (w' := w.alloc (.cells #[.int .i64 0, .int .i64 0, .float .f64 0, .string ⟨#[]⟩, .slice none 0 0] 31)) (Below.heap_alloc _ _ _ h2.mv.lt)) name true
  have hne : V name ≠ [] := by rw [hV]; simp
  rw [vmap_some hne] at hlk
  simp only [Option.getD_some, Option.isSome_some, if_true] at hlk
  have hp := (h2.piles name hne).tight.frame (w' := w.alloc (.cells #[.int .i64 0, .int .i64 0, .float .f64 0, .string ⟨#[]⟩, .slice none 0 0] 31)) (fun k _ hk => Below.heap_alloc _ _ _ hk)
  rw [hV] at hp
  have H2 := Lib.hid h2
  have HPOP := Lib.hid (ppop_any _ l v _ _ hp)
  have HNE := Lib.hid hne
  have HA := Lib.hid hA
  have HB0 := Lib.hid hb0
  have HSZ : Hid ((w.alloc (.cells #[.int .i64 0, .int .i64 0, .float .f64 0, .string ⟨#[]⟩, .slice none 0 0] 31)).heap.size = w.heap.size + 1) := by simp [Hid]
  clear h2 hne hp hV hA hb0
  obtain ⟨vk, vn, vf, vs, va, vl, vc⟩ := v
  simp only [VV.val] at *
  go_enter Try.func11, Try.ntmps11
  go_wp2_with fail
  refine HPOP.out.mono ?_
  rintro e w1 ⟨rfl, hp1, hch1⟩
  generalize w.alloc (.cells #[.int .i64 0, .int .i64 0, .float .f64 0, .string ⟨#[]⟩, .slice none 0 0] 31) = wd at *
  have HP1 := Lib.hid hp1
  have HC1 := Lib.hid (HA.out.mono (T := fun k => (S k ∧ col k = .pile name) ∧ k < w.heap.size) (fun _ h => h.elim) |>.trans hch1 (fun k hk => .inl hk))
  have HB1 := Lib.hid (hch1.heap HB0.out (by rintro ⟨_, h⟩; omega))
  obtain ⟨bp, lv, R, hpv, hbp, hr, -⟩ := hp1
  obtain ⟨-, ao, c, rfl, -, -, -⟩ := hr.reads
  have hs1 : w.heap.size + 1 ≤ w1.heap.size := by have := hch1.size; have := HSZ.out; omega
  have hbx1 : bx < w1.heap.size := by omega
  have HX1 := Lib.hid (HC1.out.heap H2.out.blk (by rintro ⟨⟨_, h⟩, _⟩; rw [H2.out.cx.1] at h; cases h))
  have HM1 := Lib.hid (H2.out.mv.frame (HC1.out.block bv H2.out.mv.lt (by rintro ⟨⟨_, h⟩, _⟩; rw [H2.out.cx.2.1] at h; cases h)))
  have hlt := lt_of_heap hbp
  have hcp := cellAt hbp 0 (v := .slice ao l.length c) rfl
  have HPV := Lib.hid hpv
  rw [hpv]
  clear hch1 hbp hr hpv hc0 hlk
  have hc0 := cellAt HX1.out 0 (v := .map (some bv)) rfl
  have hrz : w.heap.size < w1.heap.size := by omega
  by_cases hl : l = []
  · have hz : l.length = 0 := by rw [hl]; rfl
    rw [hz] at hcp
    clear hz
    have HMA := Lib.hid (HM1.out.frame (w' := w1.alloc (.cells #[.int .i64 vk, .int .i64 vn, .float .f64 vf, .string vs, .slice va vl vc] 31)) (Below.heap_alloc _ _ _ HM1.out.lt))
    have HL := Lib.hid hl
    have HCA := Lib.hid (HC1.out.alloc (.cells #[.int .i64 vk, .int .i64 vn, .float .f64 vf, .string vs, .slice va vl vc] 31))
    have HBA := Lib.hid ((Below.heap_alloc w1 (.cells #[.int .i64 vk, .int .i64 vn, .float .f64 vf, .string vs, .slice va vl vc] 31) _ hrz).trans HB1.out)
    have HNA := Lib.hid (heap_alloc_new w1 (.cells #[.int .i64 vk, .int .i64 vn, .float .f64 vf, .string vs, .slice va vl vc] 31))
    clear hl
    go_wp2_with (at_delete; refine wpList_del keyS Try.underlying60 rfl rfl (b := bv) rfl HMA.out (k := name) rfl ?_)
    generalize w1.alloc (.cells #[.int .i64 vk, .int .i64 vn, .float .f64 vf, .string vs, .slice va vl vc] 31) = wa at *
    intro w3 hm3 hch3 hsz3
    have hbl := HM1.out.lt
    have hbv : bv < w.heap.size := H2.out.mv.lt
    have HB3 := Lib.hid (hch3.heap HBA.out (by omega))
    have HN3 := Lib.hid (hch3.heap HNA.out (by omega))
    have HC3 := Lib.hid (HCA.out.mono (T := fun k => k = bv ∨ (S k ∧ col k = .pile name)) (fun k hk => .inr hk.1) |>.trans hch3 (fun k hk => .inl (.inl hk)))
    have HM3 := Lib.hid hm3
    clear hm3 hch3 hsz3 hc0
    have hz0 := cellAt HB3.out 0 (v := .int .i64 0) rfl
    have hz1 := cellAt HB3.out 1 (v := .int .i64 0) rfl
    have hz2 := cellAt HB3.out 2 (v := .float .f64 0) rfl
    have hz3 := cellAt HB3.out 3 (v := .string ⟨#[]⟩) rfl
    have hz4 := cellAt HB3.out 4 (v := .slice none 0 0) rfl
    have hf0 := freeAt HB3.out 0
    have hf1 := freeAt HB3.out 1
    have hf2 := freeAt HB3.out 2
    have hf3 := freeAt HB3.out 3
    have hf4 := freeAt HB3.out 4
    have hx0 := cellAt HN3.out 0 (v := .int .i64 vk) rfl
    have hx1 := cellAt HN3.out 1 (v := .int .i64 vn) rfl
    have hx2 := cellAt HN3.out 2 (v := .float .f64 vf) rfl
    have hx3 := cellAt HN3.out 3 (v := .string vs) rfl
    have hx4 := cellAt HN3.out 4 (v := .slice va vl vc) rfl
    go_wp2
    try simp only [Exit.inBlock, Exit.then]
    rw [leaf_end]
    have hC := HC3.out.setCells (g := w.heap.size) (.inr (Nat.le_refl _)) 0 [.int .i64 vk, .int .i64 vn, .float .f64 vf, .string vs, .slice va vl vc]
    refine bodyPost_ret (results_row_tmp (P := Try.prog) rfl _ _ w.heap.size 31 #[.int .i64 vk, .int .i64 vn, .float .f64 vf, .string vs, .slice va vl vc] (0, 0) _ rfl (setCells_same _ _ _ 0 _ _ HB3.out (by simp)) Try.underlying31 rfl rfl) rfl ⟨rfl, ?_, hC.mono (fun k hk => by rcases hk with rfl | h; exact H2.out.sx.2.1; exact h.1)⟩
    refine H2.out.setV name l (pv name) hC ?_ (fun h => (h HL.out).elim)
    rw [HL.out, ← vmap_del]
    exact HM3.out.frame (setCells_other _ _ _ _ _ (by omega))
  · have hz : ((l.length : Int) == 0) = false := by rw [beq_eq_false_iff_ne]; have := List.length_pos_iff.2 hl; omega
    have hz0 := cellAt HB1.out 0 (v := .int .i64 0) rfl
    have hz1 := cellAt HB1.out 1 (v := .int .i64 0) rfl
    have hz2 := cellAt HB1.out 2 (v := .float .f64 0) rfl
    have hz3 := cellAt HB1.out 3 (v := .string ⟨#[]⟩) rfl
    have hz4 := cellAt HB1.out 4 (v := .slice none 0 0) rfl
    have hf0 := freeAt HB1.out 0
    have hf1 := freeAt HB1.out 1
    have hf2 := freeAt HB1.out 2
    have hf3 := freeAt HB1.out 3
    have hf4 := freeAt HB1.out 4
    have HL := Lib.hid hl
    generalize l.length = n at hz hcp
    clear hl
    go_wp2
    try simp only [Exit.inBlock, Exit.then]
    rw [leaf_end]
    have hC := (HC1.out.setCells (g := w.heap.size) (.inr (Nat.le_refl _)) 0 [.int .i64 vk, .int .i64 vn, .float .f64 vf, .string vs, .slice va vl vc]).alloc (.cells #[.int .i64 vk, .int .i64 vn, .float .f64 vf, .string vs, .slice va vl vc] 31)
    refine bodyPost_ret (results_row_tmp (P := Try.prog) rfl _ _ w.heap.size 31 #[.int .i64 vk, .int .i64 vn, .float .f64 vf, .string vs, .slice va vl vc] (0, 0) _ rfl ((Below.heap_alloc _ _ _ (by rw [setCells_size]; exact hrz)).trans (setCells_same _ _ _ 0 _ _ HB1.out (by simp))) Try.underlying31 rfl rfl) rfl ⟨rfl, ?_, hC.mono (fun k hk => hk.1.1)⟩
    refine H2.out.setV name l (pv name) (hC.mono (fun k hk => .inr hk.1)) ?_ (fun _ => (HP1.out.frame (fun k hk hl => ?_)).mono (fun k hk => .inl hk.1))
    · rw [← vmap_keep _ _ _ _ HL.out HNE.out]
      exact HM1.out.frame ((Below.heap_alloc _ _ _ (by rw [setCells_size]; exact HM1.out.lt)).trans (setCells_other _ _ _ _ _ (by have := H2.out.mv.lt; omega)))
    · exact (Below.heap_alloc _ _ _ (by rw [setCells_size]; exact hl)).trans (setCells_other _ _ _ _ _ (by have := hk.2; omega))
end Go.Proofs.Ytbofbboogmeneaa
