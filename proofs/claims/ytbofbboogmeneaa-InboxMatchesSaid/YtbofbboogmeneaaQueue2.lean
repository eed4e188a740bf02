/- Removing a number out of a queue. -/
import Derived.Test.YtbofbboogmeneaaQueue
namespace Go.Proofs.Ytbofbboogmeneaa
set_option linter.unusedVariables false
set_option linter.unusedSimpArgs false
open Go.RowKit

/-- The map while the numbers behind a gap are being moved up: those before place m are told by their new places, the others by their old ones. -/
def seatGap (l : List Nat) (m : Nat) (y : Nat) : Option Value := (l.idxOf? y).map fun t => Value.int .i64 (if t < m then (t : Int) else (t : Int) + 1)

theorem seatGap_end (l : List Nat) : seatGap l l.length = seat l := by
  funext y
  unfold seatGap seat
  cases h : l.idxOf? y with
  | none => rfl
  | some t => simp [idx_lt h]

theorem idx_split {a b : List Nat} {k : Nat} (hn : (a ++ k :: b).Nodup) (y : Nat) : (a ++ k :: b).idxOf? y = if y = k then some a.length else ((a ++ b).idxOf? y).map fun t => if t < a.length then t else t + 1 := by
  have hka : k ∉ a := by
    rw [List.nodup_append] at hn
    exact fun h => hn.2.2 k h k (List.mem_cons_self ..) rfl
  unfold List.idxOf?
  rw [List.findIdx?_append, List.findIdx?_append, List.findIdx?_cons]
  by_cases hy : y = k
  · subst hy
    have h1 : List.findIdx? (fun x => x == y) a = none := by
      rw [List.findIdx?_eq_none_iff]
      intro x hx
      rw [beq_eq_false_iff_ne]
      exact fun e => hka (e ▸ hx)
    rw [if_pos rfl, h1]
    simp
  · have hk : (k == y) = false := by rw [beq_eq_false_iff_ne]; exact fun e => hy e.symm
    rw [if_neg hy, hk]
    cases h1 : List.findIdx? (fun x => x == y) a with
    | some t =>
      have : t < a.length := by
        rw [List.findIdx?_eq_some_iff_getElem] at h1
        exact h1.1
      simp [this]
    | none =>
      cases h2 : List.findIdx? (fun x => x == y) b with
      | none => simp
      | some t =>
        simp only [Option.none_or, Option.map_some, Option.some.injEq]
        rw [if_neg (by simp), if_neg (by omega)]
        simp
        omega

theorem gap_start {a b : List Nat} {k : Nat} (hn : (a ++ k :: b).Nodup) : (fun y => if y = k then none else seat (a ++ k :: b) y) = seatGap (a ++ b) a.length := by
  have hk : k ∉ a ++ b := by
    have h := hn
    rw [List.nodup_append] at h
    have h2 := (List.nodup_cons.1 h.2.1).1
    intro hm
    rcases List.mem_append.1 hm with h' | h'
    · exact h.2.2 k h' k (List.mem_cons_self ..) rfl
    · exact h2 h'
  funext y
  unfold seat seatGap
  rw [idx_split hn]
  by_cases hy : y = k
  · subst hy
    rw [if_pos rfl, List.idxOf?_eq_none_iff.2 hk]; rfl
  · rw [if_neg hy, if_neg hy]
    cases (a ++ b).idxOf? y with
    | none => rfl
    | some t =>
      simp only [Option.map_some, Option.some.injEq]
      split <;> simp

theorem idx_at {l : List Nat} (hn : l.Nodup) (m : Nat) (h : m < l.length) : l.idxOf? l[m] = some m := by
  rw [List.idxOf?, List.findIdx?_eq_some_iff_getElem]
  refine ⟨h, by simp, fun j hj => ?_⟩
  rw [Bool.not_eq_true, beq_eq_false_iff_ne]
  intro e
  exact List.pairwise_iff_getElem.1 hn j m (by omega) h hj e

theorem gap_step {l : List Nat} (hn : l.Nodup) (m : Nat) (h : m < l.length) : (fun y => if y = l[m] then some (Value.int .i64 (m : Int)) else seatGap l m y) = seatGap l (m + 1) := by
  funext y
  unfold seatGap
  by_cases hy : y = l[m]
  · subst hy
    rw [if_pos rfl, idx_at hn m h]
    simp
  · rw [if_neg hy]
    cases hi : l.idxOf? y with
    | none => rfl
    | some t =>
      have ht : t ≠ m := by
        rintro rfl
        rw [List.idxOf?, List.findIdx?_eq_some_iff_getElem] at hi
        exact hy (by have := hi.2.1; rw [beq_iff_eq] at this; exact this.symm)
      simp only [Option.map_some, Option.some.injEq, Value.int.injEq, true_and]
      split <;> split <;> omega

theorem gap_at {l : List Nat} (hn : l.Nodup) (m : Nat) (h : m < l.length) : seatGap l m l[m] = some (.int .i64 ((m : Int) + 1)) := by
  unfold seatGap
  rw [idx_at hn m h]
  simp

theorem idx_mid {a b : List Nat} {k : Nat} (hn : (a ++ k :: b).Nodup) : placeZ (a ++ k :: b) k = (a.length : Int) := by
  unfold placeZ; rw [idx_split hn, if_pos rfl]

theorem u64V_take (l : List Nat) (i : Nat) : u64V (l.take i) = (u64V l).take i := List.map_take
theorem u64V_drop (l : List Nat) (i : Nat) : u64V (l.drop i) = (u64V l).drop i := List.map_drop

/-- The first i of a row, cut so that no room is left behind them. -/
theorem Row.cut {w : World} {e : TypeId} {b o n c : Nat} {xs : List Value} {S : Nat → Prop} (h : Row w e 1 (.slice (some ⟨b, o, none⟩) n c) n xs S) (i : Nat) (hi : i ≤ n) : Row w e 1 (.slice (some ⟨b, o, none⟩) i i) i (xs.take i) S := by
  obtain ⟨hl, h2⟩ := h
  refine ⟨by rw [List.length_take, hl]; omega, ?_⟩
  rcases h2 with ⟨h, _⟩ | ⟨g, off, cap, cur, hv, hS, hg, hn, hm, hs, ht⟩
  · cases h
  · cases hv
    refine .inr ⟨b, o, i, cur, rfl, hS, hg, Nat.le_refl _, by omega, by omega, ?_⟩
    rw [← ht, List.take_take]
    congr 1
    omega

set_option maxRecDepth 100000 in
set_option maxHeartbeats 2000000 in
theorem qremove_any (p : Value) (a b : List Nat) (k : Nat) (S : Nat → Prop) (w : World) (h : QRep w p (a ++ k :: b) S) :
    Calls Try.prog 54 #[p, .int .u64 k] w fun e w' => e = .returned (.bool true) ∧ QRep w' p (a ++ b) (fun n => S n ∨ w.heap.size ≤ n) ∧ Chg S w w' := by
  have hpl := qplace_any p (a ++ k :: b) k S w h
  obtain ⟨bq, bm, lv, R, rfl, h2, h3, h4, h5, h6, h7, h8, h9, h10⟩ := h
  rw [idx_mid h5] at hpl
  have HPL := Lib.hid hpl
  have hgap := Lib.hid (gap_start h5)
  have hlen : (a ++ k :: b).length = a.length + b.length + 1 := by simp; omega
  have hnd : (a ++ b).Nodup := by
    refine h5.sublist ?_
    exact List.Sublist.append (List.Sublist.refl _) (List.sublist_cons_self _ _)
  have hcut : u64V ((a ++ k :: b).take a.length) = u64V a := by rw [List.take_left' rfl]
  have hrest : u64V ((a ++ k :: b).drop (a.length + 1)) = u64V b := by
    rw [show a ++ k :: b = (a ++ [k]) ++ b by simp, List.drop_left' (by simp)]
  rw [u64V_take] at hcut
  rw [u64V_drop] at hrest
  rw [hlen] at h3 h6
  obtain ⟨bx, ox, cx, hv, hncx, hbx, -⟩ := h3.reads.at (by omega)
  subst hv
  have hc0 := cellAt h2 0 (v := .slice (some ⟨bx, ox, none⟩) (a.length + b.length + 1) cx) rfl
  have hc2 := cellAt h2 2 (v := .map (some bm)) rfl
  have H2 := Lib.hid h2
  have H3 := Lib.hid h3
  have H4 := Lib.hid h4
  have HC := Lib.hid hcut
  have HR := Lib.hid hrest
  have HND := Lib.hid hnd
  have HN5 := Lib.hid h5
  have hnR : ¬ R bq := fun h => (h10 bq h).2.1 rfl
  have hnM : ¬ R bm := fun h => (h10 bm h).2.2 rfl
  have h10S : ∀ n, R n → S n := fun n hn => (h10 n hn).1
  have h10' := Lib.hid h10
  have h10S' := Lib.hid h10S
  clear h2 h3 h4 h5 hpl hcut hrest hnd hlen hbx h10 h10S
  go_enter Try.func54, Try.ntmps54
  go_wp2_with fail
  refine HPL.out.mono ?_
  rintro e w1 ⟨rfl, rfl⟩
  go_wp2_with (at_delete; refine wpList_del keyU Try.underlying106 rfl rfl (b := bm) rfl H4.out (k := k) rfl ?_)
  intro w2 hm2 hch2 hsz2
  have HM2 := Lib.hid (show MapFn w2 encU bm (seatGap (a ++ b) a.length) by rw [← hgap.out]; exact hm2)
  have HB2 := Lib.hid (hch2.heap H2.out h9)
  have HR2 := Lib.hid (H3.out.frame (fun n hn hlt => hch2.block n hlt (fun e => hnM (e ▸ hn))))
  have HC2 := Lib.hid ((Chg.refl S w).trans hch2 (fun n hn => by subst hn; exact .inl h8))
  have HS2 := Lib.hid hsz2
  clear hm2 hch2 hsz2 hc0 hc2
  have hc0 := cellAt HB2.out 0 (v := .slice (some ⟨bx, ox, none⟩) (a.length + b.length + 1) cx) rfl
  have hla : (a ++ b).length = a.length + b.length := by simp
  obtain ⟨i, hi⟩ : ∃ i, i = a.length := ⟨_, rfl⟩
  obtain ⟨n, hn⟩ : ∃ n, n = i + b.length + 1 := ⟨_, rfl⟩
  rw [← hi] at HM2 HC HR HR2 HB2 hc0 hncx h6 hla ⊢
  rw [← hn] at HR2 HB2 hc0 hncx h6
  have hin : (i : Int) + 1 ≤ (n : Int) := by omega
  have hi0 : 0 ≤ (i : Int) + 1 := by omega
  have hicx : i ≤ cx := by omega
  have hw1 : IntKind.i64.wrap ((i : Int) + 1) = (i : Int) + 1 := IntWalk.i64_in _ (by omega)
  have hto : ((i : Int) + 1).toNat = i + 1 := by omega
  have HLA := Lib.hid hla
  have HN := Lib.hid hn
  have hnb : b.length = n - (i + 1) := by omega
  have HNB := Lib.hid hnb
  clear hi hn hla hnb
  go_wp2
  have HLd := Lib.hid (show Chg S w w2.drew from HC2.out.drew)
  have HSd := Lib.hid (show w2.drew.heap.size = w.heap.size from HS2.out)
  have HBd := Lib.hid (show w2.drew.heap[bq]? = _ from HB2.out)
  have HRd := Lib.hid (show Row w2.drew 27 1 _ n (u64V (a ++ k :: b)) R from HR2.out)
  have HMd := Lib.hid (show MapFn w2.drew encU bm (seatGap (a ++ b) i) from HM2.out)
  go_still_tail 14, (by kernel_rfl)
  change wpList _ _ _ _ _ w2.drew
  generalize w2.drew = wd at *
  clear hc0 hw1
  have hdr : Reads wd (.slice (if cx = i + 1 then some ({ block := bx, off := ox } : Addr) else some { block := bx, off := ox + (i + 1) }) (n - (i + 1)) (cx - (i + 1))) (n - (i + 1)) 1 (u64V b) := by
    rw [← HR.out]
    exact Reads.drop HRd.out.reads (i + 1) (by omega) _ (by intro h; simp [h]) (by split <;> simp)
  generalize (if cx = i + 1 then some ({ block := bx, off := ox } : Addr) else some { block := bx, off := ox + (i + 1) }) = adr at hdr ⊢
  have HDR := Lib.hid hdr
  clear hdr
  go_wp2_with (at_builtin; refine wpList_row elemU64 rfl rfl (S := R) (v := .slice (some ⟨bx, ox, none⟩) i i) (n := i) (xs := u64V a) rfl (by rw [← HC.out]; exact HRd.out.cut i (by omega)) (y := .slice adr (n - (i + 1)) (cx - (i + 1))) (m := n - (i + 1)) (news := u64V b) rfl HDR.out (u64_one _) (by unfold maxLen; omega) (by omega) ?_)
  intro v3 w3 hr3 hch3
  have hsum : i + (n - (i + 1)) = (a ++ b).length := by have := HLA.out; have := HN.out; omega
  rw [hsum, show u64V a ++ u64V b = u64V (a ++ b) by simp] at hr3
  have HR3 := Lib.hid (hr3.mono (T := fun m => R m ∨ w.heap.size ≤ m) (fun m hm => by rcases hm with h | h; exact .inl h; exact .inr (Nat.le_trans (Nat.le_of_eq HSd.out.symm) h)))
  have HB3 := Lib.hid (hch3.heap HBd.out hnR)
  have HM3 := Lib.hid (HMd.out.frame (hch3.block bm HMd.out.lt hnM))
  have HC3 := Lib.hid (HLd.out.trans hch3 (fun m hm => .inl (h10S'.out m hm)))
  clear hr3 hch3 hsum
  obtain ⟨ao3, c3, hv3⟩ : ∃ ao3 c3, v3 = .slice ao3 (a ++ b).length c3 := by obtain ⟨-, ao3, c3, h, -⟩ := HR3.out.reads; exact ⟨ao3, c3, h⟩
  rw [hv3] at HR3 ⊢
  clear hv3
  have hll : (a ++ b).length ≤ 1000 := by have := HLA.out; have := HN.out; omega
  have hil : i ≤ (a ++ b).length := by have := HLA.out; omega
  generalize hab : a ++ b = l at *
  have HAB := Lib.hid hab
  clear hab
  go_wp2
  go_loopw [7] (fun j w' => ∃ m : Nat, i ≤ m ∧ m ≤ l.length ∧ j = .int .i64 m ∧ Hid (Chg S w w' ∧ w'.heap[bq]? = w3.heap[bq]? ∧ (∀ x, (R x ∨ w.heap.size ≤ x) → x < w3.heap.size → w'.heap[x]? = w3.heap[x]?) ∧ w3.heap.size ≤ w'.heap.size ∧ MapFn w' encU bm (seatGap l m))) (fun j _ => l.length - (RowKit.intOf j).toNat)
  case atStart => exact ⟨i, Nat.le_refl _, hil, rfl, HC3.out, rfl, fun _ _ _ => rfl, Nat.le_refl _, HM3.out⟩
  case round =>
    obtain ⟨m, him, hml, rfl, HW⟩ := hrel
    by_cases hlt : m < l.length
    · have hB := HW.out.2.1.trans HB3.out
      have HRr := Lib.hid (HR3.out.frame HW.out.2.2.1)
      obtain ⟨b3, o3, c3', hv, hn3, -, hcs⟩ := HRr.out.reads.at (by omega)
      cases hv
      have hcm : wr.cell? ⟨b3, o3 + m, none⟩ = some (.int .u64 l[m]) := hcs m _ (by simp [hlt])
      have hc2 := cellAt hB 2 (v := .map (some bm)) rfl
      have hlk : (Instr.lookup 106 (.map (some bm)) (.int .u64 (l[m] : Int)) false).run Try.prog wr.drew = .ok (.int .i64 ((m : Int) + 1)) wr.drew := by
        have h := run_lookup_fn keyU Try.underlying106 (zeroInt wr.drew) (show MapFn wr.drew encU bm (seatGap l m) from HW.out.2.2.2.2) l[m] false
        rw [gap_at HND.out m hlt] at h
        exact h
      have HGS := Lib.hid (gap_step HND.out m hlt)
      generalize l[m] = x at *
      have HWm := Lib.hid (show MapFn wr.drew encU bm (seatGap l m) from HW.out.2.2.2.2)
      have HWC := Lib.hid (show Chg S w wr.drew from HW.out.1.drew)
      have HWB := Lib.hid (show wr.drew.heap[bq]? = w3.heap[bq]? from HW.out.2.1)
      have HWR := Lib.hid (show ∀ x, (R x ∨ w.heap.size ≤ x) → x < w3.heap.size → wr.drew.heap[x]? = w3.heap[x]? from HW.out.2.2.1)
      have HWS := Lib.hid (show w3.heap.size ≤ wr.drew.heap.size from HW.out.2.2.2.1)
      have hwm : IntKind.i64.wrap (m : Int) = (m : Int) := IntWalk.i64_in _ (by omega)
      clear hB hcs
      go_wp2
      go_still_tail 10, (by kernel_rfl)
      change wpList _ _ _ _ _ wr.drew
      generalize wr.drew = wd' at *
      clear hlk hcm hc2 hwm
      go_wp2_with (at_mapUpdate; refine wpList_upd keyU Try.underlying106 rfl rfl (b := bm) rfl HWm.out (k := x) rfl (val := .int .i64 (m : Int)) rfl ?_)
      intro w4 hm4 hch4 hs4
      rw [HGS.out] at hm4
      have hlt3 : bm < w3.heap.size := HM3.out.lt
      have HFIN := Lib.hid (show Chg S w w4 ∧ w4.heap[bq]? = w3.heap[bq]? ∧ (∀ x, (R x ∨ w.heap.size ≤ x) → x < w3.heap.size → w4.heap[x]? = w3.heap[x]?) ∧ w3.heap.size ≤ w4.heap.size ∧ MapFn w4 encU bm (seatGap l (m + 1)) from
        ⟨HWC.out.trans hch4 (fun n hn => by subst hn; exact .inl h8), by
          rw [hch4.block bq (by have := lt_of_heap HB3.out; have := HWS.out; omega) h9]; exact HWB.out, fun x hx hxl => by
          rw [hch4.block x (by have := HWS.out; omega) (fun e => by subst e; rcases hx with h | h; exact hnM h; have := H4.out.lt; omega)]; exact HWR.out x hx hxl, by rw [hs4]; exact HWS.out, hm4⟩)
      clear hm4 hch4 hs4
      go_wp2
      go_roundw
      case rel => exact ⟨m + 1, by omega, by omega, by go_num, HFIN.out⟩
      case measure => simp [RowKit.intOf]; omega
    · obtain rfl : m = l.length := by omega
      have hB := HW.out.2.1.trans HB3.out
      have hc0 := cellAt hB 0 (v := .slice (some ⟨bx, ox, none⟩) n cx) rfl
      have hf0 := freeAt hB 0
      have HBr := Lib.hid hB
      clear hB
      go_wp2
      go_ret
      have hHM : MapFn wr encU bm (seat l) := by rw [← seatGap_end]; exact HW.out.2.2.2.2
      rw [HAB.out]
      refine ⟨rfl, ?_, HW.out.1.setCell (.inl h7) _⟩
      have hlb : bq < w.heap.size := lt_of_heap H2.out
      refine ⟨bq, bm, .slice ao3 l.length c3, fun m => R m ∨ w.heap.size ≤ m, rfl, heap_store HBr.out 0 _, ?_, ?_, HND.out, hll, .inl h7, .inl h8, h9, fun x hx => ?_⟩
      · refine (HR3.out.frame HW.out.2.2.1).frame (fun x hx hlt => Below.heap_setCell _ _ _ _ ?_)
        intro e
        have e' : x = bq := e
        rcases hx with h | h
        · exact hnR (e' ▸ h)
        · omega
      · refine hHM.frame (Below.heap_setCell _ _ _ _ ?_)
        intro e
        exact h9 (Eq.symm (show bm = bq from e))
      · have hlm := H4.out.lt
        rcases hx with h | h
        · exact ⟨.inl (h10S'.out x h), (h10'.out x h).2⟩
        · exact ⟨.inr h, by omega, by omega⟩
end Go.Proofs.Ytbofbboogmeneaa
