/- An inbox: nothing is there to be taken. -/
import Derived.Test.YtbofbboogmeneaaInTake
namespace Go.Proofs.Ytbofbboogmeneaa
set_option linter.unusedVariables false
set_option linter.unusedSimpArgs false
open Go.RowKit

abbrev zeroV : Value := .agg #[.int .i64 0, .int .i64 0, .float .f64 0, .string ⟨#[]⟩, .slice none 0 0]

set_option maxRecDepth 100000 in
set_option maxHeartbeats 1000000 in
theorem itake_idle (x : Value) (name : ByteArray) (id : Nat) (V : ByteArray → List VV) (Q : ByteArray → List Nat) (W : Nat → Option ByteArray) (S : Nat → Prop) (w : World) (h : IRep w x V Q W S) (hV : V name = []) (hid : W id ≠ none ∨ id = 0) :
    Calls Try.prog 11 #[x, .string name, .int .u64 id] w fun e w' => e = .returned (.tuple #[zeroV, .bool false]) ∧ Below w.heap.size w w' := by
  obtain ⟨bx, bv, bq, bw, col, pv, pq, rfl, h2⟩ := h
  have hb0 := heap_alloc_new w (.cells #[.int .i64 0, .int .i64 0, .float .f64 0, .string ⟨#[]⟩, .slice none 0 0] 31)
  have hc0 := cellAt h2.blk 0 (v := .map (some bv)) rfl
  have hc2 := cellAt h2.blk 2 (v := .map (some bw)) rfl
  have hbx := lt_of_heap h2.blk
  have hlk := look_v (h2.mv.frame (w' := w.alloc (.cells #[.int .i64 0, .int .i64 0, .float .f64 0, .string ⟨#[]⟩, .slice none 0 0] 31)) (Below.heap_alloc _ _ _ h2.mv.lt)) name true
  have hlw := look_w (h2.mw.frame (w' := w.alloc (.cells #[.int .i64 0, .int .i64 0, .float .f64 0, .string ⟨#[]⟩, .slice none 0 0] 31)) (Below.heap_alloc _ _ _ h2.mw.lt)) id true
  rw [vmap_none hV] at hlk
  simp only [Option.getD_none, Option.isSome_none, if_true] at hlk
  have hB : Below w.heap.size w (w.alloc (.cells #[.int .i64 0, .int .i64 0, .float .f64 0, .string ⟨#[]⟩, .slice none 0 0] 31)) := (Below.refl _ _).alloc (Nat.le_refl _) _
  have HB := Lib.hid hB
  have HB0 := Lib.hid hb0
  clear h2 hV hb0 hB
  by_cases hw : W id = none
  · have h0 : id = 0 := hid.resolve_left (fun h => h hw)
    subst h0
    rw [hw] at hlw
    simp only [Option.map_none, Option.getD_none, Option.isSome_none, if_true] at hlw
    have e0 : ((0 : Nat) : Int) = 0 := rfl
    rw [e0] at hlw ⊢
    clear hid hw e0
    go_enter Try.func11, Try.ntmps11
    go_wp2
    try simp only [Exit.inBlock, Exit.then]
    exact bodyPost_ret (results_row_tmp (P := Try.prog) rfl _ _ w.heap.size 31 #[.int .i64 0, .int .i64 0, .float .f64 0, .string ⟨#[]⟩, .slice none 0 0] (0, 0) _ rfl HB0.out Try.underlying31 rfl rfl) rfl ⟨rfl, HB.out⟩
  · obtain ⟨m, hm⟩ := Option.ne_none_iff_exists'.1 hw
    rw [hm] at hlw
    simp only [Option.map_some, Option.getD_some, Option.isSome_some, if_true] at hlw
    clear hid hw hm
    go_enter Try.func11, Try.ntmps11
    go_wp2
    try simp only [Exit.inBlock, Exit.then]
    exact bodyPost_ret (results_row_tmp (P := Try.prog) rfl _ _ w.heap.size 31 #[.int .i64 0, .int .i64 0, .float .f64 0, .string ⟨#[]⟩, .slice none 0 0] (0, 0) _ rfl HB0.out Try.underlying31 rfl rfl) rfl ⟨rfl, HB.out⟩

theorem who_add {Q : ByteArray → List Nat} {W : Nat → Option ByteArray} {id : Nat} {n : ByteArray} (hwho : ∀ k m, W k = some m ↔ k ∈ Q m) (hW : W id = none) :
    ∀ k m, (if k = id then some n else W k) = some m ↔ k ∈ upd Q n (Q n ++ [id]) m := by
  intro k m
  by_cases hm : m = n
  · subst hm
    rw [upd_same]
    by_cases hk : k = id
    · subst hk; rw [if_pos rfl]; simp
    · rw [if_neg hk, hwho]; simp [hk]
  · rw [upd_other _ _ hm]
    by_cases hk : k = id
    · subst hk
      rw [if_pos rfl]
      exact ⟨fun h => (hm (Option.some.inj h).symm).elim, fun h => by have := (hwho k m).2 h; rw [hW] at this; cases this⟩
    · rw [if_neg hk]; exact hwho k m

theorem wmap_put {W : Nat → Option ByteArray} {id : Nat} {n : ByteArray} : (fun y => if y = id then some (Value.string n) else Option.map Value.string (W y)) = (fun k => (if k = id then some n else W k).map Value.string) := by
  funext y; split <;> rfl

set_option maxRecDepth 100000 in
set_option maxHeartbeats 1000000 in
theorem itake_join (x : Value) (name : ByteArray) (id : Nat) (V : ByteArray → List VV) (Q : ByteArray → List Nat) (W : Nat → Option ByteArray) (S : Nat → Prop) (w : World) (h : IRep w x V Q W S) (hV : V name = []) (hid : id ≠ 0) (hW : W id = none) (hQ : Q name ≠ []) (hlen : (Q name).length < 1000) :
    Calls Try.prog 11 #[x, .string name, .int .u64 id] w fun e w' => e = .returned (.tuple #[zeroV, .bool false]) ∧ IRep w' x V (upd Q name (Q name ++ [id])) (fun k => if k = id then some name else W k) (fun k => S k ∨ w.heap.size ≤ k) ∧ Chg S w w' := by
  obtain ⟨bx, bv, bq, bw, col, pv, pq, rfl, h2⟩ := h
  have hb0 := heap_alloc_new w (.cells #[.int .i64 0, .int .i64 0, .float .f64 0, .string ⟨#[]⟩, .slice none 0 0] 31)
  have hc0 := cellAt h2.blk 0 (v := .map (some bv)) rfl
  have hc1 := cellAt h2.blk 1 (v := .map (some bq)) rfl
  have hc2 := cellAt h2.blk 2 (v := .map (some bw)) rfl
  have hbx := lt_of_heap h2.blk
  have hlk := look_v (h2.mv.frame (w' := w.alloc (.cells #[.int .i64 0, .int .i64 0, .float .f64 0, .string ⟨#[]⟩, .slice none 0 0] 31)) (Below.heap_alloc _ _ _ h2.mv.lt)) name true
  have hlw := look_w (h2.mw.frame (w' := w.alloc (.cells #[.int .i64 0, .int .i64 0, .float .f64 0, .string ⟨#[]⟩, .slice none 0 0] 31)) (Below.heap_alloc _ _ _ h2.mw.lt)) id true
  have hlq := look_q (h2.mq.frame (w' := w.alloc (.cells #[.int .i64 0, .int .i64 0, .float .f64 0, .string ⟨#[]⟩, .slice none 0 0] 31)) (Below.heap_alloc _ _ _ h2.mq.lt)) name false
  rw [vmap_none hV] at hlk
  rw [hW] at hlw
  rw [vmap_some hQ] at hlq
  simp only [Option.getD_none, Option.isSome_none, if_true] at hlk
  simp only [Option.map_none, Option.getD_none, Option.isSome_none, if_true] at hlw
  simp only [Option.getD_some, Bool.false_eq_true, if_false] at hlq
  have hq := (h2.lines name hQ).tight.frame (w' := w.alloc (.cells #[.int .i64 0, .int .i64 0, .float .f64 0, .string ⟨#[]⟩, .slice none 0 0] 31)) (fun k _ hk => Below.heap_alloc _ _ _ hk)
  have hnot : id ∉ Q name := fun hm => by have := (h2.who id name).2 hm; rw [hW] at this; cases this
  have HPUSH := Lib.hid (qpush_any _ _ id _ _ hq hnot hlen)
  obtain ⟨bqn, hpq⟩ : ∃ b, pq name = .pointer (some ⟨b, 0, none⟩) := by obtain ⟨b, _, _, _, h, _⟩ := hq; exact ⟨b, h⟩
  have HPQ := Lib.hid hpq
  rw [hpq] at hlq HPUSH
  have hi0 : ((id : Int) == 0) = false := by rw [beq_eq_false_iff_ne]; omega
  have HB0 := Lib.hid hb0
  have H2 := Lib.hid h2
  have HWHO := Lib.hid (who_add (n := name) h2.who hW)
  have HQ := Lib.hid hQ
  clear h2 hV hb0 hq hnot hpq hW hQ hlen
  go_enter Try.func11, Try.ntmps11
  go_wp2_with fail
  refine HPUSH.out.mono ?_
  rintro e w1 ⟨rfl, hq1, hch1⟩
  have HA : Hid (Chg (fun _ => False) w (w.alloc (.cells #[.int .i64 0, .int .i64 0, .float .f64 0, .string ⟨#[]⟩, .slice none 0 0] 31))) := (Chg.refl _ w).alloc _
  have HSZ : Hid ((w.alloc (.cells #[.int .i64 0, .int .i64 0, .float .f64 0, .string ⟨#[]⟩, .slice none 0 0] 31)).heap.size = w.heap.size + 1) := by simp [Hid]
  generalize w.alloc (.cells #[.int .i64 0, .int .i64 0, .float .f64 0, .string ⟨#[]⟩, .slice none 0 0] 31) = wd at *
  have HC1 := Lib.hid (HA.out.mono (T := fun k => (S k ∧ col k = .line name) ∧ k < w.heap.size) (fun _ h => h.elim) |>.trans hch1 (fun k hk => .inl hk))
  have HQ1 := Lib.hid hq1
  have HB1 := Lib.hid (hch1.heap HB0.out (by rintro ⟨_, h⟩; omega))
  have HX1 := Lib.hid (HC1.out.heap H2.out.blk (by rintro ⟨⟨_, h⟩, _⟩; rw [H2.out.cx.1] at h; cases h))
  have HM1 := Lib.hid (H2.out.mw.frame (HC1.out.block bw H2.out.mw.lt (by rintro ⟨⟨_, h⟩, _⟩; rw [H2.out.cx.2.2.2] at h; cases h)))
  have HMQ1 := Lib.hid (H2.out.mq.frame (HC1.out.block bq H2.out.mq.lt (by rintro ⟨⟨_, h⟩, _⟩; rw [H2.out.cx.2.2.1] at h; cases h)))
  have hs1 : w.heap.size + 1 ≤ w1.heap.size := by have := hch1.size; have := HSZ.out; omega
  clear hq1 hch1 hc0 hc1 hc2 hlk hlw hlq
  have hc2 := cellAt HX1.out 2 (v := .map (some bw)) rfl
  go_wp2_with (at_mapUpdate; refine wpList_upd keyU Try.underlying62 rfl rfl (b := bw) rfl HM1.out (k := id) rfl (val := .string name) rfl ?_)
  intro w3 hm3 hch3 hsz3
  have hwl : bw < w.heap.size := H2.out.mw.lt
  have HB3 := Lib.hid (hch3.heap HB1.out (by omega))
  have HC3 := Lib.hid (HC1.out.mono (T := fun k => k = bw ∨ ((S k ∧ col k = .line name) ∧ k < w.heap.size)) (fun k hk => .inr hk) |>.trans hch3 (fun k hk => .inl (.inl hk)))
  have HM3 := Lib.hid hm3
  have HMQ3 := Lib.hid (HMQ1.out.frame (hch3.block bq HMQ1.out.lt H2.out.ne.2.2.2.2.2))
  have HQ3 := Lib.hid (HQ1.out.frame (fun k hk hl => hch3.block k hl (by
    intro e
    rcases hk with h | h
    · have := h.1.2; rw [e, H2.out.cx.2.2.2] at this; cases this
    · have := HSZ.out; omega)))
  clear hm3 hch3 hc2
  have hz0 := cellAt HB3.out 0 (v := .int .i64 0) rfl
  have hz1 := cellAt HB3.out 1 (v := .int .i64 0) rfl
  have hz2 := cellAt HB3.out 2 (v := .float .f64 0) rfl
  have hz3 := cellAt HB3.out 3 (v := .string ⟨#[]⟩) rfl
  have hz4 := cellAt HB3.out 4 (v := .slice none 0 0) rfl
  have hf0 := freeAt HB3.out 0
  have hf1 := freeAt HB3.out 1
  have hf2 := freeAt HB3.out 2
  have hf3 := freeAt HB3.out 3
  have hf4 := freeAt HB3.out 4
  go_wp2
  try simp only [Exit.inBlock, Exit.then]
  rw [leaf_end]
  have hC := HC3.out.setCells (g := w.heap.size) (.inr (Nat.le_refl _)) 0 [.int .i64 0, .int .i64 0, .float .f64 0, .string ⟨#[]⟩, .slice none 0 0]
  refine bodyPost_ret (results_row_tmp (P := Try.prog) rfl _ _ w.heap.size 31 #[.int .i64 0, .int .i64 0, .float .f64 0, .string ⟨#[]⟩, .slice none 0 0] (0, 0) _ rfl (setCells_same _ _ _ 0 _ _ HB3.out (by simp)) Try.underlying31 rfl rfl) rfl ⟨rfl, ?_, hC.mono (fun k hk => by rcases hk with rfl | h; exact H2.out.sx.2.2.2; exact h.1.1)⟩
  have hbq : bq < w.heap.size := H2.out.mq.lt
  have hwd := HSZ.out
  refine H2.out.setQ name _ (pq name) _ (hC.mono (fun k hk => by rcases hk with h | h; exact .inr (.inl h); exact .inr (.inr h.1))) ?_ ?_ HWHO.out (fun _ => ?_)
  · rw [← vmap_keep _ _ _ _ (by simp) HQ.out]
    exact HMQ3.out.frame (setCells_other _ _ _ _ _ (by omega))
  · rw [← wmap_put]
    exact HM3.out.frame (setCells_other _ _ _ _ _ (by omega))
  · rw [HPQ.out]
    refine (HQ3.out.frame (fun k hk hl => setCells_other _ _ _ _ _ ?_)).mono (fun k hk => ?_)
    · rcases hk with h | h
      · have := h.2; omega
      · omega
    · rcases hk with h | h
      · exact .inl h.1
      · exact .inr (by omega)
end Go.Proofs.Ytbofbboogmeneaa
