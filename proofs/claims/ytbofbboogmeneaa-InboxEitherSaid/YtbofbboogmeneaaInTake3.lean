/- An inbox: the first to wait for a name. -/
import Derived.Test.YtbofbboogmeneaaInTake2
import Derived.Deep.RegionLaw
namespace Go.Proofs.Ytbofbboogmeneaa
set_option linter.unusedVariables false
set_option linter.unusedSimpArgs false
open Go.RowKit

theorem undrew {B : Nat} {a b : World} (h : Below B a.drew b) : Below B a b := ⟨h.os, h.tape, h.output, h.size, h.block⟩

set_option maxRecDepth 100000 in
set_option maxHeartbeats 1000000 in
theorem itake_open (x : Value) (name : ByteArray) (id : Nat) (V : ByteArray → List VV) (Q : ByteArray → List Nat) (W : Nat → Option ByteArray) (S : Nat → Prop) (w : World) (h : IRep w x V Q W S) (hV : V name = []) (hid : id ≠ 0) (hW : W id = none) (hQ : Q name = []) :
    Calls Try.prog 11 #[x, .string name, .int .u64 id] w fun e w' => e = .returned (.tuple #[zeroV, .bool false]) ∧ IRep w' x V (upd Q name [id]) (fun k => if k = id then some name else W k) (fun k => S k ∨ w.heap.size ≤ k) ∧ Chg S w w' := by
  obtain ⟨bx, bv, bq, bw, col, pv, pq, rfl, h2⟩ := h
  have hb0 := heap_alloc_new w (.cells #[.int .i64 0, .int .i64 0, .float .f64 0, .string ⟨#[]⟩, .slice none 0 0] 31)
  have hc0 := cellAt h2.blk 0 (v := .map (some bv)) rfl
  have hc1 := cellAt h2.blk 1 (v := .map (some bq)) rfl
  have hc2 := cellAt h2.blk 2 (v := .map (some bw)) rfl
  have hbx := lt_of_heap h2.blk
  have hlk := look_v (h2.mv.frame (w' := w.alloc (.cells #[.int .i64 0, .int .i64 0, .float .f64 0, .string ⟨#[]⟩, .slice none 0 0] 31)) (Below.heap_alloc _ _ _ h2.mv.lt)) name true
  have hlw := look_w (h2.mw.frame (w' := w.alloc (.cells #[.int .i64 0, .int .i64 0, .float .f64 0, .string ⟨#[]⟩, .slice none 0 0] 31)) (Below.heap_alloc _ _ _ h2.mw.lt)) id true
  have hlq := look_q (h2.mq.frame (w' := w.alloc (.cells #[.int .i64 0, .int .i64 0, .float .f64 0, .string ⟨#[]⟩, .slice none 0 0] 31)) (Below.heap_alloc _ _ _ h2.mq.lt)) name false
  rw [vmap_none hV] at hlk
  rw [hW] at hlw
  rw [vmap_none hQ] at hlq
  simp only [Option.getD_none, Option.isSome_none, if_true] at hlk
  simp only [Option.map_none, Option.getD_none, Option.isSome_none, if_true] at hlw
  simp only [Option.getD_none, Bool.false_eq_true, if_false] at hlq
  have hi0 : ((id : Int) == 0) = false := by rw [beq_eq_false_iff_ne]; omega
  have HB0 := Lib.hid hb0
  have H2 := Lib.hid h2
  have hwho := who_add (n := name) h2.who hW
  rw [hQ] at hwho
  have HWHO := Lib.hid hwho
  clear h2 hV hb0 hW hQ hwho
  go_enter Try.func11, Try.ntmps11
  go_wp2_with fail
  have HA : Hid (Chg (fun _ => False) w (w.alloc (.cells #[.int .i64 0, .int .i64 0, .float .f64 0, .string ⟨#[]⟩, .slice none 0 0] 31))) := (Chg.refl _ w).alloc _
  have HSZ : Hid ((w.alloc (.cells #[.int .i64 0, .int .i64 0, .float .f64 0, .string ⟨#[]⟩, .slice none 0 0] 31)).heap.size = w.heap.size + 1) := by simp [Hid]
  generalize w.alloc (.cells #[.int .i64 0, .int .i64 0, .float .f64 0, .string ⟨#[]⟩, .slice none 0 0] 31) = wd at *
  have HX0 := Lib.hid (HA.out.heap H2.out.blk (fun h => h))
  clear hc0 hc1 hc2 hlk hlw hlq
  have hc1 := cellAt HX0.out 1 (v := .map (some bq)) rfl
  have hwlq : bq < w.heap.size := H2.out.mq.lt
  have hwl : bw < w.heap.size := H2.out.mw.lt
  have hbxd : bx < wd.heap.size := lt_of_heap HX0.out
  go_region_law (first
    | (go_simp; go_at_call 30; refine (qnew_any _).mono ?_; rintro e w1 ⟨p, rfl, hq1', hbl1'⟩
       have hbl1 : Below wd.heap.size wd w1 := undrew hbl1'
       have hq1 : QRep w1 p [] (fun n => wd.heap.size ≤ n) := hq1'
       clear hbl1' hq1'
       have HC1 := Lib.hid (HA.out.trans (Chg.ofBelow (S := fun _ => False) hbl1) (fun k hk => hk.elim))
       obtain ⟨bqn, hpq⟩ : ∃ b, p = .pointer (some ⟨b, 0, none⟩) := by obtain ⟨b, _, _, _, h, _⟩ := hq1; exact ⟨b, h⟩
       subst hpq
       have HQ1 := Lib.hid hq1.tight
       have HB1 := Lib.hid ((hbl1.block _ (by have := HSZ.out; omega)).trans HB0.out)
       have HX1 := Lib.hid (HC1.out.heap H2.out.blk (fun h => h))
       have HM1 := Lib.hid (H2.out.mw.frame (HC1.out.block bw H2.out.mw.lt (fun h => h)))
       have HMQ1 := Lib.hid (H2.out.mq.frame (HC1.out.block bq H2.out.mq.lt (fun h => h)))
       have hc1' := cellAt HX1.out 1 (v := .map (some bq)) rfl
       obtain ⟨w2, hup, hm2, hch2, hsz2⟩ := run_update_fn keyS Try.underlying61 HMQ1.out name (.pointer (some ⟨bqn, 0, none⟩))
       have HM2' := Lib.hid hm2
       have HCH2 := Lib.hid hch2
       have HSZ2 := Lib.hid hsz2
       have HBL1 := Lib.hid hbl1
       clear hq1 hbl1 hm2 hch2 hsz2))
  all_goals
    have e1 := vmap_put Q pq name [id] (.pointer (some ⟨bqn, 0, none⟩)) (by simp)
    have hm2 := HM2'.out
    have hch2 := HCH2.out
    have hsz2 := HSZ2.out
    have hs1 : w.heap.size + 1 ≤ w1.heap.size := by have := HBL1.out.size; have := HSZ.out; omega
    rw [e1] at hm2
    have hlq2 := look_q hm2 name false
    rw [vmap_some (by rw [upd_same]; simp), upd_same] at hlq2
    simp only [Option.getD_some, Bool.false_eq_true, if_false] at hlq2
    have HX2 := Lib.hid (hch2.heap HX1.out H2.out.ne.2.1)
    have HB2 := Lib.hid (hch2.heap HB1.out (by omega))
    have HMW2 := Lib.hid (HM1.out.frame (hch2.block bw HM1.out.lt (Ne.symm H2.out.ne.2.2.2.2.2)))
    have HQ2 := HQ1.out.frame (fun k hk hl => hch2.block k hl (by have := hk.1; have := HSZ.out; omega))
    have HPUSH := Lib.hid (qpush_any _ _ id _ _ HQ2 (by simp) (by simp))
    have HMQ2 := Lib.hid hm2
    have HC2 := Lib.hid (HC1.out.mono (T := fun k => k = bq) (fun _ h => h.elim) |>.trans hch2 (fun k hk => .inl hk))
    have hs2 : w.heap.size + 1 ≤ w2.heap.size := by have := hch2.size; omega
    clear hm2 hch2 hsz2 e1 hc1 hc1' hup HQ2
    have hc1 := cellAt HX2.out 1 (v := .map (some bq)) rfl
    go_wp2_with fail
    refine HPUSH.out.mono ?_
    rintro e w3 ⟨rfl, hq3, hch3⟩
    have hwd : wd.heap.size = w.heap.size + 1 := HSZ.out
    have HX3 := Lib.hid (hch3.heap HX2.out (fun h => by have := h.1; omega))
    have HB3 := Lib.hid (hch3.heap HB2.out (fun h => by have := h.1; omega))
    have HM3 := Lib.hid (HMW2.out.frame (hch3.block bw HMW2.out.lt (fun h => by have := h.1; omega)))
    have HMQ3 := Lib.hid (HMQ2.out.frame (hch3.block bq HMQ2.out.lt (fun h => by have := h.1; omega)))
    have HC3 := Lib.hid (HC2.out.trans hch3 (fun k hk => .inr (by have := hk.1; omega)))
    have HQ3 := Lib.hid hq3
    clear hq3 hch3 hc1 hlq2
    have hc2 := cellAt HX3.out 2 (v := .map (some bw)) rfl
    go_wp2_with (at_mapUpdate; refine wpList_upd keyU Try.underlying62 rfl rfl (b := bw) rfl HM3.out (k := id) rfl (val := .string name) rfl ?_)
    intro w4 hm4 hch4 hsz4
    have HB4 := Lib.hid (hch4.heap HB3.out (by omega))
    have HC4 := Lib.hid (HC3.out.mono (T := fun k => k = bq ∨ k = bw) (fun k hk => .inl hk) |>.trans hch4 (fun k hk => .inl (.inr hk)))
    have HM4 := Lib.hid hm4
    have HMQ4 := Lib.hid (HMQ3.out.frame (hch4.block bq HMQ3.out.lt H2.out.ne.2.2.2.2.2))
    have HQ4 := Lib.hid (HQ3.out.frame (fun k hk hl => hch4.block k hl (by
      intro e
      rcases hk with h | h
      · have := h.1; omega
      · omega)))
    clear hm4 hch4 hc2
    have hz0 := cellAt HB4.out 0 (v := .int .i64 0) rfl
    have hz1 := cellAt HB4.out 1 (v := .int .i64 0) rfl
    have hz2 := cellAt HB4.out 2 (v := .float .f64 0) rfl
    have hz3 := cellAt HB4.out 3 (v := .string ⟨#[]⟩) rfl
    have hz4 := cellAt HB4.out 4 (v := .slice none 0 0) rfl
    have hf0 := freeAt HB4.out 0
    have hf1 := freeAt HB4.out 1
    have hf2 := freeAt HB4.out 2
    have hf3 := freeAt HB4.out 3
    have hf4 := freeAt HB4.out 4
    go_wp2
    try simp only [Exit.inBlock, Exit.then]
    rw [leaf_end]
    have hC := HC4.out.setCells (g := w.heap.size) (.inr (Nat.le_refl _)) 0 [.int .i64 0, .int .i64 0, .float .f64 0, .string ⟨#[]⟩, .slice none 0 0]
    refine bodyPost_ret (results_row_tmp (P := Try.prog) rfl _ _ w.heap.size 31 #[.int .i64 0, .int .i64 0, .float .f64 0, .string ⟨#[]⟩, .slice none 0 0] (0, 0) _ rfl (setCells_same _ _ _ 0 _ _ HB4.out (by simp)) Try.underlying31 rfl rfl) rfl ⟨rfl, ?_, hC.mono (fun k hk => by rcases hk with rfl | rfl; exact H2.out.sx.2.2.1; exact H2.out.sx.2.2.2)⟩
    refine H2.out.setQ name _ (.pointer (some ⟨bqn, 0, none⟩)) _ (hC.mono (fun k hk => by rcases hk with h | h; exact .inl h; exact .inr (.inl h))) ?_ ?_ HWHO.out (fun _ => ?_)
    · exact HMQ4.out.frame (setCells_other _ _ _ _ _ (by omega))
    · rw [← wmap_put]
      exact HM4.out.frame (setCells_other _ _ _ _ _ (by omega))
    · refine (HQ4.out.frame (fun k hk hl => setCells_other _ _ _ _ _ ?_)).mono (fun k hk => ?_)
      · rcases hk with h | h
        · have := h.1; omega
        · omega
      · rcases hk with h | h
        · exact .inr (by have := h.1; omega)
        · exact .inr (by omega)

/-- Someone begins to wait. -/
theorem itake_wait (x : Value) (name : ByteArray) (id : Nat) (V : ByteArray → List VV) (Q : ByteArray → List Nat) (W : Nat → Option ByteArray) (S : Nat → Prop) (w : World) (h : IRep w x V Q W S) (hV : V name = []) (hid : id ≠ 0) (hW : W id = none) (hlen : (Q name).length < 1000) :
    Calls Try.prog 11 #[x, .string name, .int .u64 id] w fun e w' => e = .returned (.tuple #[zeroV, .bool false]) ∧ IRep w' x V (upd Q name (Q name ++ [id])) (fun k => if k = id then some name else W k) (fun k => S k ∨ w.heap.size ≤ k) ∧ Chg S w w' := by
  by_cases hQ : Q name = []
  · rw [hQ]; exact itake_open x name id V Q W S w h hV hid hW hQ
  · exact itake_join x name id V Q W S w h hV hid hW hQ hlen
end Go.Proofs.Ytbofbboogmeneaa
