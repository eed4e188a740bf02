/- An inbox: a wait is ended. -/
import Derived.Test.YtbofbboogmeneaaInGet
namespace Go.Proofs.Ytbofbboogmeneaa
set_option linter.unusedVariables false
set_option linter.unusedSimpArgs false
open Go.RowKit

theorem isome_map {W : Nat → Option ByteArray} {k : Nat} {n : ByteArray} (h : W k = some n) : (W k).map Value.string = some (.string n) := by rw [h]; rfl

set_option maxRecDepth 100000 in
set_option maxHeartbeats 1000000 in
theorem iforget_none (x : Value) (id : Nat) (V : ByteArray → List VV) (Q : ByteArray → List Nat) (W : Nat → Option ByteArray) (S : Nat → Prop) (w : World) (h : IRep w x V Q W S) (hW : W id = none) :
    Calls Try.prog 28 #[x, .int .u64 id] w fun e w' => e = .returned (.bool false) ∧ w = w' := by
  obtain ⟨bx, bv, bq, bw, col, pv, pq, rfl, h⟩ := h
  have hc2 := cellAt h.blk 2 (v := .map (some bw)) rfl
  have hlk := look_w h.mw id true
  rw [hW] at hlk
  simp only [Option.map_none, Option.getD_none, Option.isSome_none, if_true] at hlk
  clear h hW
  go_enter Try.func28, Try.ntmps28
  go_wp2
  go_ret
  exact ⟨rfl, rfl⟩

theorem who_del {Q : ByteArray → List Nat} {W : Nat → Option ByteArray} {id : Nat} {n : ByteArray} {a b : List Nat} (hwho : ∀ k m, W k = some m ↔ k ∈ Q m) (hQ : Q n = a ++ id :: b) (hnd : (Q n).Nodup) :
    ∀ k m, (if k = id then none else W k) = some m ↔ k ∈ upd Q n (a ++ b) m := by
  have hW : W id = some n := (hwho id n).2 (by rw [hQ]; simp)
  rw [hQ] at hnd
  have hnot : id ∉ a ++ b := by
    rw [List.nodup_append] at hnd
    obtain ⟨_, h2, h3⟩ := hnd
    have h4 := (List.nodup_cons.1 h2).1
    intro h
    rcases List.mem_append.1 h with h | h
    · exact h3 id h id (List.mem_cons_self ..) rfl
    · exact h4 h
  intro k m
  by_cases hm : m = n
  · subst hm
    rw [upd_same]
    by_cases hk : k = id
    · subst hk; rw [if_pos rfl]; exact ⟨(fun h => by cases h), fun h => (hnot h).elim⟩
    · rw [if_neg hk, hwho, hQ]
      simp only [List.mem_append, List.mem_cons]
      constructor
      · rintro (h | h | h); exact .inl h; exact (hk h).elim; exact .inr h
      · rintro (h | h); exact .inl h; exact .inr (.inr h)
  · rw [upd_other _ _ hm]
    by_cases hk : k = id
    · subst hk
      rw [if_pos rfl]
      exact ⟨(fun h => by cases h), fun h => by have := (hwho k m).2 h; rw [hW] at this; exact (hm (Option.some.inj this).symm).elim⟩
    · rw [if_neg hk]; exact hwho k m

set_option maxRecDepth 100000 in
set_option maxHeartbeats 1000000 in
theorem iforget_any (x : Value) (id : Nat) (n : ByteArray) (a b : List Nat) (V : ByteArray → List VV) (Q : ByteArray → List Nat) (W : Nat → Option ByteArray) (S : Nat → Prop) (w : World) (h : IRep w x V Q W S) (hQ : Q n = a ++ id :: b) :
    Calls Try.prog 28 #[x, .int .u64 id] w fun e w' => e = .returned (.bool true) ∧ IRep w' x V (upd Q n (a ++ b)) (fun k => if k = id then none else W k) (fun k => S k ∨ w.heap.size ≤ k) ∧ Chg S w w' := by
  obtain ⟨bx, bv, bq, bw, col, pv, pq, rfl, h⟩ := h
  have hW : W id = some n := (h.who id n).2 (by rw [hQ]; simp)
  have hne : Q n ≠ [] := by rw [hQ]; simp
  have hq := h.lines n hne
  have hnd : (Q n).Nodup := by obtain ⟨_, _, _, _, _, _, _, _, hnd, _⟩ := hq; exact hnd
  have HWHO := Lib.hid (who_del h.who hQ hnd)
  rw [hQ] at hq
  have hc1 := cellAt h.blk 1 (v := .map (some bq)) rfl
  have hc2 := cellAt h.blk 2 (v := .map (some bw)) rfl
  have hlk := look_w h.mw id true
  rw [hW] at hlk
  simp only [Option.map_some, Option.getD_some, Option.isSome_some, if_true] at hlk
  have H := Lib.hid h
  have HQ := Lib.hid hq
  have HNE := Lib.hid hne
  clear h hW hQ hq hnd hne
  go_enter Try.func28, Try.ntmps28
  go_wp2_with (at_delete; refine wpList_del keyU Try.underlying62 rfl rfl (b := bw) rfl H.out.mw (k := id) rfl ?_)
  intro w2 hm2 hch2 hsz2
  obtain ⟨s1, s2, s3, s4⟩ := H.out.sx
  obtain ⟨c1, c2, c3, c4⟩ := H.out.cx
  obtain ⟨n1, n2, n3, n4, n5, n6⟩ := H.out.ne
  have HB2 := Lib.hid (hch2.heap H.out.blk n3)
  have HMQ2 := Lib.hid (H.out.mq.frame (hch2.block bq H.out.mq.lt n6))
  have HQ2 := Lib.hid (HQ.out.frame (fun k hk hl => hch2.block k hl (fun e => by rw [e, c4] at hk; cases hk.2)))
  have HM2 := Lib.hid hm2
  have HC2 := Lib.hid hch2
  have HS2 := Lib.hid hsz2
  clear hm2 hch2 hsz2 hc1 hc2 hlk
  have hc1 := cellAt HB2.out 1 (v := .map (some bq)) rfl
  have hlk2 := look_q HMQ2.out n false
  rw [vmap_some HNE.out] at hlk2
  simp only [Option.getD_some, Bool.false_eq_true, if_false] at hlk2
  have HREM := Lib.hid (qremove_any _ a b id _ w2 HQ2.out)
  go_wp2_with fail
  refine HREM.out.mono ?_
  rintro e w3 ⟨rfl, hq3, hch3⟩
  have HQ3 := Lib.hid hq3
  have HC3 := Lib.hid hch3
  have HLEN := Lib.hid (qlen_any _ _ _ w3 hq3)
  have HB3 := Lib.hid (hch3.heap HB2.out (fun e => by rw [c1] at e; cases e.2))
  have HMQ3 := Lib.hid (HMQ2.out.frame (hch3.block bq HMQ2.out.lt (fun e => by rw [c3] at e; cases e.2)))
  have HMW3 := Lib.hid (HM2.out.frame (hch3.block bw HM2.out.lt (fun e => by rw [c4] at e; cases e.2)))
  clear hq3 hch3 hc1 hlk2
  have hc1 := cellAt HB3.out 1 (v := .map (some bq)) rfl
  go_wp2_with fail
  refine HLEN.out.mono ?_
  rintro e w4 ⟨rfl, rfl⟩
  have HCH := Lib.hid (show Chg (fun k => k = bq ∨ k = bw ∨ (S k ∧ col k = .line n)) w w3 from (HC2.out.mono (fun k hk => .inr (.inl hk))).trans HC3.out (fun k hk => .inl (.inr (.inr hk))))
  have HS : w.heap.size ≤ w2.heap.size := Nat.le_of_eq HS2.out.symm
  have HMW : Hid (∀ wz : World, MapFn wz encU bw (fun y => if y = id then none else Option.map Value.string (W y)) → MapFn wz encU bw (fun k => (if k = id then none else W k).map Value.string)) := by
    intro wz h
    have e : (fun y => if y = id then none else Option.map Value.string (W y)) = (fun k => (if k = id then none else W k).map Value.string) := by
      funext y; split <;> rfl
    rw [← e]; exact h
  have HCS : Hid (∀ wz : World, Chg (fun k => k = bq ∨ k = bw ∨ (S k ∧ col k = .line n)) w wz → Chg S w wz) := fun wz h => h.mono (fun k hk => by rcases hk with rfl | rfl | h; exact s3; exact s4; exact h.1)
  clear HREM HLEN HC3 HC2 HQ2 HMQ2 HM2 HB2
  by_cases hl : a ++ b = []
  · have hz : (a ++ b).length = 0 := by rw [hl]; rfl
    rw [hz]
    have HL := Lib.hid hl
    clear hl hz
    go_wp2_with (at_delete; refine wpList_del keyS Try.underlying61 rfl rfl (b := bq) rfl HMQ3.out (k := n) rfl ?_)
    intro w5 hm5 hch5 hsz5
    have HM5 := Lib.hid hm5
    have HC5 := Lib.hid hch5
    clear hm5 hch5 hsz5 hc1
    go_wp2
    go_ret
    have hC : Chg (fun k => k = bq ∨ k = bw ∨ (S k ∧ col k = .line n)) w w5 := HCH.out.trans HC5.out (fun k hk => .inl (.inl hk))
    refine ⟨rfl, ?_, HCS.out _ hC⟩
    refine H.out.setQ n (a ++ b) (pq n) _ hC ?_ (HMW.out _ (HMW3.out.frame (HC5.out.block bw HMW3.out.lt (fun e => n6 e.symm)))) HWHO.out (fun h => (h HL.out).elim)
    rw [HL.out, ← vmap_del]; exact HM5.out
  · have hpos : 0 < (a ++ b).length := List.length_pos_iff.2 hl
    have hz : (((a ++ b).length : Int) == 0) = false := by rw [beq_eq_false_iff_ne]; omega
    have HL := Lib.hid hl
    clear hl
    generalize (a ++ b).length = m at hpos hz ⊢
    go_wp2
    go_ret
    refine ⟨rfl, ?_, HCS.out _ HCH.out⟩
    refine H.out.setQ n (a ++ b) (pq n) _ HCH.out ?_ (HMW.out _ HMW3.out) HWHO.out (fun h => HQ3.out.mono (fun k hk => by rcases hk with h | h; exact .inl h; exact .inr (by omega)))
    rw [← vmap_keep _ _ _ _ HL.out HNE.out]; exact HMQ3.out
end Go.Proofs.Ytbofbboogmeneaa
