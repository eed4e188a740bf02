/- Queues of numbers in memory, from which nothing is taken at the front: what each operation does. -/
import Derived.Test.YtbofbboogmeneaaChecked
import Derived.Test.YtbofbboogmeneaaHeap
import Derived.StillTailTactics
import Derived.Maps.OwnSet
import Derived.Maps.OwnOps
namespace Go.Proofs.Ytbofbboogmeneaa
set_option linter.unusedVariables false
set_option linter.unusedSimpArgs false
open Go.RowKit

abbrev u64V (l : List Nat) : List Value := l.map fun n : Nat => Value.int .u64 (n : Int)
theorem u64_one (l : List Nat) : ∀ u ∈ u64V l, u.oneCell' = true := by
  intro u hu
  obtain ⟨_, _, rfl⟩ := List.mem_map.1 hu
  rfl
theorem elemU64 : ElemOf Try.prog 26 27 (.int .u64 0) 1 8 := ⟨Try.underlying26, by kernel_rfl, rfl, by decide⟩
abbrev encU : Nat → Value := fun n => Value.int .u64 (n : Int)
theorem keyU : KeyOk Try.prog 27 Nat encU := keyU64 Try.underlying27

/-- Where a number stands in a list, as the queue's map holds it. -/
def seat (l : List Nat) (k : Nat) : Option Value := (l.idxOf? k).map fun i => Value.int .i64 (i : Int)

/-- A queue in memory: its block, its row, its map, in blocks of S. -/
def QRep (w : World) (p : Value) (l : List Nat) (S : Nat → Prop) : Prop :=
  ∃ bq bm lv R, p = .pointer (some ⟨bq, 0, none⟩) ∧ w.heap[bq]? = some (.cells #[lv, .int .i64 0, .map (some bm)] 108 (0, 0)) ∧
    Row w 27 1 lv l.length (u64V l) R ∧ MapFn w encU bm (seat l) ∧ l.Nodup ∧ l.length ≤ 1000 ∧
    S bq ∧ S bm ∧ bq ≠ bm ∧ (∀ k, R k → S k ∧ k ≠ bq ∧ k ≠ bm)

theorem QRep.frame {w w' : World} {p : Value} {l : List Nat} {S : Nat → Prop} (h : QRep w p l S) (hb : ∀ k, S k → k < w.heap.size → w'.heap[k]? = w.heap[k]?) : QRep w' p l S := by
  obtain ⟨bq, bm, lv, R, h1, h2, h3, h4, h5, h6, h7, h8, h9, h10⟩ := h
  exact ⟨bq, bm, lv, R, h1, by rw [hb bq h7 (lt_of_heap h2)]; exact h2, h3.frame (fun k hk hlt => hb k (h10 k hk).1 hlt), h4.frame (hb bm h8 h4.lt), h5, h6, h7, h8, h9, h10⟩

theorem QRep.mono {w : World} {p : Value} {l : List Nat} {S T : Nat → Prop} (h : QRep w p l S) (hT : ∀ k, S k → T k) : QRep w p l T := by
  obtain ⟨bq, bm, lv, R, h1, h2, h3, h4, h5, h6, h7, h8, h9, h10⟩ := h
  exact ⟨bq, bm, lv, R, h1, h2, h3, h4, h5, h6, hT _ h7, hT _ h8, h9, fun k hk => ⟨hT k (h10 k hk).1, (h10 k hk).2⟩⟩

set_option maxRecDepth 100000 in
set_option maxHeartbeats 1000000 in
theorem qlen_any (p : Value) (l : List Nat) (S : Nat → Prop) (w : World) (h : QRep w p l S) :
    Calls Try.prog 55 #[p] w fun e w' => e = .returned (.int .i64 l.length) ∧ w = w' := by
  obtain ⟨bq, bm, lv, R, rfl, h2, h3, -⟩ := h
  have hc := cellAt h2 0 (v := lv) rfl
  obtain ⟨-, ao, c, rfl, -, -, -⟩ := h3.reads
  clear h2 h3
  go_enter Try.func55, Try.ntmps55
  go_wp2
  go_ret
  exact ⟨rfl, rfl⟩

set_option maxRecDepth 100000 in
set_option maxHeartbeats 1000000 in
theorem qlen_nil (w : World) :
    Calls Try.prog 55 #[.pointer none] w fun e w' => e = .returned (.int .i64 0) ∧ w = w' := by
  go_enter Try.func55, Try.ntmps55
  go_wp2
  go_ret
  exact ⟨rfl, rfl⟩

set_option maxRecDepth 100000 in
set_option maxHeartbeats 1000000 in
theorem qpeek_nil (w : World) :
    Calls Try.prog 34 #[.pointer none] w fun e w' => e = .returned (.tuple #[.int .u64 0, .bool false]) ∧ w = w' := by
  go_enter Try.func34, Try.ntmps34
  go_wp2_with fail
  refine (qlen_nil w).mono ?_
  rintro e w1 ⟨rfl, rfl⟩
  go_wp2
  go_ret2
  exact ⟨rfl, rfl⟩

set_option maxRecDepth 100000 in
set_option maxHeartbeats 1000000 in
theorem qpeek_any (p : Value) (a : Nat) (l : List Nat) (S : Nat → Prop) (w : World) (h : QRep w p (a :: l) S) :
    Calls Try.prog 34 #[p] w fun e w' => e = .returned (.tuple #[.int .u64 a, .bool true]) ∧ w = w' := by
  have H := Lib.hid (qlen_any p (a :: l) S w h)
  obtain ⟨bq, bm, lv, R, rfl, h2, h3, -⟩ := h
  have hc := cellAt h2 0 (v := lv) rfl
  obtain ⟨b, o, c, rfl, hnc, -, hcs⟩ := h3.reads.at (by simp)
  have hc0 : w.cell? ⟨b, o, none⟩ = some (.int .u64 a) := hcs 0 _ rfl
  clear h2 h3 hcs
  go_enter Try.func34, Try.ntmps34
  go_wp2_with fail
  refine H.out.mono ?_
  rintro e w1 ⟨rfl, rfl⟩
  have hne : (((a :: l).length : Int) == 0) = false := by rw [beq_eq_false_iff_ne]; simp; omega
  have hpos : (0 : Int) < ((a :: l).length : Int) := by simp
  have hpos2 : 0 < (a :: l).length := by simp
  generalize (a :: l).length = n at *
  go_wp2
  go_ret2
  exact ⟨rfl, rfl⟩

set_option maxRecDepth 100000 in
set_option maxHeartbeats 1000000 in
theorem qlist_nil (w : World) :
    Calls Try.prog 33 #[.pointer none] w fun e w' => e = .returned (.slice none 0 0) ∧ w = w' := by
  go_enter Try.func33, Try.ntmps33
  go_wp2
  go_ret
  exact ⟨rfl, rfl⟩

set_option maxRecDepth 100000 in
set_option maxHeartbeats 1000000 in
theorem qlist_any (p : Value) (l : List Nat) (S : Nat → Prop) (w : World) (h : QRep w p l S) :
    Calls Try.prog 33 #[p] w fun e w' => ∃ v, e = .returned v ∧ w'.ownsRow w.heap.size 27 1 v l.length (u64V l) ∧ Below w.heap.size w w' := by
  obtain ⟨bq, bm, lv, R, rfl, h2, h3, -, -, hl, -⟩ := h
  have hc := cellAt h2 0 (v := lv) rfl
  have hlt := lt_of_heap h2
  have HR := Lib.hid h3.reads
  clear h2 h3
  go_enter Try.func33, Try.ntmps33
  go_wp2_with (at_builtin; refine wpList_app elemU64 rfl rfl (base := w.heap.size) (v := .slice (some ⟨_, 0, none⟩) 0 0) (n := 0) (xs := []) rfl (owns_empty _ _ _ _ (Nat.le_refl _) rfl) (y := lv) (m := l.length) (news := u64V l) rfl (HR.out.later ((Below.refl _ _).alloc (Nat.le_refl _) _)) (u64_one _) (by unfold maxLen; omega) (by omega) (by simp) ?_; intro v1 w1 hown hgr _)
  have HB : Below w.heap.size w w1 := ((Below.refl _ _).alloc (Nat.le_refl _) _).grown hgr (by simp) (by intro k hk; simp [Value.ownBlock] at hk; omega)
  rw [Nat.zero_add, List.nil_append] at hown
  have HO := Lib.hid hown
  have HB' := Lib.hid HB
  clear hown hgr HB
  go_wp2
  go_ret
  exact ⟨_, rfl, HO.out, HB'.out⟩

def placeZ (l : List Nat) (k : Nat) : Int := match l.idxOf? k with | some i => (i : Int) | none => -1

theorem seat_some {l : List Nat} {k i : Nat} (h : l.idxOf? k = some i) : seat l k = some (.int .i64 (i : Int)) := by simp [seat, h]
theorem seat_none {l : List Nat} {k : Nat} (h : l.idxOf? k = none) : seat l k = none := by simp [seat, h]
theorem zeroInt (w : World) : (zeroValue 3).run Try.prog w = .ok (.int .i64 0) w := by kernel_rfl
theorem idx_lt {l : List Nat} {k i : Nat} (h : l.idxOf? k = some i) : i < l.length := by
  rw [List.idxOf?, List.findIdx?_eq_some_iff_getElem] at h
  exact h.1

set_option maxRecDepth 100000 in
set_option maxHeartbeats 1000000 in
theorem qplace_any (p : Value) (l : List Nat) (k : Nat) (S : Nat → Prop) (w : World) (h : QRep w p l S) :
    Calls Try.prog 65 #[p, .int .u64 k] w fun e w' => e = .returned (.int .i64 (placeZ l k)) ∧ w = w' := by
  obtain ⟨bq, bm, lv, R, rfl, h2, -, h4, -, hl, -⟩ := h
  have hc1 := cellAt h2 1 (v := .int .i64 0) rfl
  have hc2 := cellAt h2 2 (v := .map (some bm)) rfl
  have hlk := run_lookup_fn keyU Try.underlying106 (zeroInt w) h4 k true
  have HP : Hid (placeZ l k = match l.idxOf? k with | some i => (i : Int) | none => -1) := rfl
  generalize placeZ l k = z at *
  cases hi : l.idxOf? k with
  | none =>
    rw [seat_none hi] at hlk
    have HZ : Hid (z = -1) := by rw [Hid, HP.out, hi]
    clear h2 h4 hi HP
    simp only [Option.getD_none, Option.isSome_none, if_true] at hlk
    go_enter Try.func65, Try.ntmps65
    go_wp2
    go_ret
    exact ⟨congrArg (fun x => Ending.returned (.int .i64 x)) HZ.out.symm, rfl⟩
  | some i =>
    rw [seat_some hi] at hlk
    have hil := idx_lt hi
    have HZ : Hid (z = (i : Int)) := by rw [Hid, HP.out, hi]
    clear h2 h4 hi HP
    simp only [Option.getD_some, Option.isSome_some, if_true] at hlk
    go_enter Try.func65, Try.ntmps65
    go_wp2
    go_ret
    exact ⟨congrArg (fun x => Ending.returned (.int .i64 x)) HZ.out.symm, rfl⟩

set_option maxRecDepth 100000 in
set_option maxHeartbeats 1000000 in
theorem qhas_any (p : Value) (l : List Nat) (k : Nat) (S : Nat → Prop) (w : World) (h : QRep w p l S) :
    Calls Try.prog 56 #[p, .int .u64 k] w fun e w' => e = .returned (.bool (decide (0 ≤ placeZ l k))) ∧ w = w' := by
  have H := Lib.hid (qplace_any p l k S w h)
  clear h
  generalize placeZ l k = z at *
  go_enter Try.func56, Try.ntmps56
  go_wp2_with fail
  refine H.out.mono ?_
  rintro e w1 ⟨rfl, rfl⟩
  go_wp2
  go_ret
  exact ⟨rfl, rfl⟩

theorem place_new {l : List Nat} {k : Nat} (h : k ∉ l) : placeZ l k = -1 := by
  have : l.idxOf? k = none := by rw [List.idxOf?_eq_none_iff]; exact h
  simp [placeZ, this]

theorem u64V_snoc (l : List Nat) (k : Nat) : u64V (l ++ [k]) = u64V l ++ [.int .u64 k] := by simp

theorem seat_snoc {l : List Nat} {k : Nat} (h : k ∉ l) : (fun y => if y = k then some (.int .i64 (l.length : Int)) else seat l y) = seat (l ++ [k]) := by
  funext y
  unfold seat List.idxOf?
  rw [List.findIdx?_append]
  by_cases hy : y = k
  · subst hy
    have : List.findIdx? (fun x => x == y) l = none := by
      rw [List.findIdx?_eq_none_iff]
      intro x hx
      rw [beq_eq_false_iff_ne]
      exact fun e => h (e ▸ hx)
    rw [if_pos rfl, this]
    simp
  · rw [if_neg hy]
    have hk : (k == y) = false := by rw [beq_eq_false_iff_ne]; exact fun e => hy e.symm
    simp [List.findIdx?_cons, hk]

set_option maxRecDepth 100000 in
set_option maxHeartbeats 1000000 in
theorem qpush_any (p : Value) (l : List Nat) (k : Nat) (S : Nat → Prop) (w : World) (h : QRep w p l S) (hk : k ∉ l) (hlen : l.length < 1000) :
    Calls Try.prog 31 #[p, .int .u64 k] w fun e w' => e = .returned (.bool true) ∧ QRep w' p (l ++ [k]) (fun n => S n ∨ w.heap.size ≤ n) ∧ Chg S w w' := by
  have hh := qhas_any p l k S w h
  rw [place_new hk] at hh
  have HH := Lib.hid hh
  clear hh
  have HK := Lib.hid hk
  clear hk
  obtain ⟨bq, bm, lv, R, rfl, h2, h3, h4, h5, h6, h7, h8, h9, h10⟩ := h
  have hc0 := cellAt h2 0 (v := lv) rfl
  have hc1 := cellAt h2 1 (v := .int .i64 0) rfl
  have hc2 := cellAt h2 2 (v := .map (some bm)) rfl
  have H2 := Lib.hid h2
  have H3 := Lib.hid h3
  have H4 := Lib.hid h4
  have hrd := h3.reads
  obtain ⟨-, ao, c, rfl, -, -, -⟩ := hrd
  clear h2 h3 h4
  go_enter Try.func31, Try.ntmps31
  go_wp2_with fail
  refine HH.out.mono ?_
  rintro e w1 ⟨rfl, rfl⟩
  go_wp2
  have HLd := Lib.hid (show Chg S w w.drew from (Chg.refl S w).drew)
  have HSd := Lib.hid (show w.drew.heap.size = w.heap.size from rfl)
  have H2d := Lib.hid (show w.drew.heap[bq]? = _ from H2.out)
  have H3d := Lib.hid (show Row w.drew 27 1 _ l.length (u64V l) R from H3.out)
  have H4d := Lib.hid (show MapFn w.drew encU bm (seat l) from H4.out)
  have hwl : IntKind.i64.wrap (l.length : Int) = (l.length : Int) := IntWalk.i64_in _ (by omega)
  go_still_tail 15, (by kernel_rfl)
  clear hwl
  change wpList _ _ _ _ _ w.drew
  generalize w.drew = wd at *
  clear hc0 hc1 hc2
  go_wp2_with (at_mapUpdate; refine wpList_upd keyU Try.underlying106 rfl rfl (b := bm) rfl H4d.out (k := k) rfl (val := .int .i64 (l.length : Int)) rfl ?_)
  intro w2 hm2 hch2 hsz2
  have HB2 := Lib.hid (hch2.heap H2d.out h9)
  have HR2 := Lib.hid (H3d.out.frame (fun n hn hlt => hch2.block n hlt (h10 n hn).2.2))
  have HC2 := Lib.hid (HLd.out.trans hch2 (fun n hn => by subst hn; exact .inl h8))
  have HM2 := Lib.hid hm2
  have HS2 := Lib.hid (hsz2.trans HSd.out)
  have hlt2 := lt_of_heap HB2.out
  clear hch2 hm2 hsz2
  have hc0 := cellAt HB2.out 0 (v := .slice ao l.length c) rfl
  go_wp2_with (at_builtin; refine wpList_row elemU64 rfl rfl (S := R) (v := .slice ao l.length c) rfl (HR2.out.frame (fun n _ hlt => Below.heap_alloc _ _ _ hlt)) (y := .slice (some ⟨_, 0, none⟩) 1 1) (m := 1) (news := [.int .u64 k]) rfl (reads_cell (by simp)) (one_of rfl) (by unfold maxLen; omega) (by omega) ?_)
  intro v3 w3 hr3 hch3
  have HCA := Lib.hid (show Chg R w2 w3 from ((Chg.refl R w2).alloc _).trans hch3 (fun n hn => .inl hn))
  have HR3 := Lib.hid (hr3.mono (T := fun n => R n ∨ w2.heap.size ≤ n) (fun n hn => by rcases hn with h | h; exact .inl h; exact .inr (Nat.le_trans (by simp) h)))
  clear hr3 hch3
  have hnR : ¬ R bq := fun h => (h10 bq h).2.1 rfl
  have hnM : ¬ R bm := fun h => (h10 bm h).2.2 rfl
  have HB3 := Lib.hid (HCA.out.heap HB2.out hnR)
  have hc3 := cellAt HB3.out 0 (v := .slice ao l.length c) rfl
  have hf3 := freeAt HB3.out 0
  clear hc0
  obtain ⟨ao3, c3, hv3⟩ : ∃ ao3 c3, v3 = .slice ao3 (l.length + 1) c3 := by obtain ⟨-, ao3, c3, h, -⟩ := HR3.out.reads; exact ⟨ao3, c3, h⟩
  rw [hv3] at HR3 ⊢
  clear hv3
  go_wp2
  go_ret
  have hlt3 := lt_of_heap HB3.out
  have h10S : ∀ n, R n → S n := fun n hn => (h10 n hn).1
  have hle2 : w.heap.size ≤ w2.heap.size := HC2.out.size
  refine ⟨rfl, ?_, ?_⟩
  · refine ⟨bq, bm, .slice ao3 (l.length + 1) c3, fun n => R n ∨ w2.heap.size ≤ n, rfl, heap_store HB3.out 0 _, ?_, ?_, ?_, ?_, .inl h7, .inl h8, h9, fun n hn => ?_⟩
    · rw [u64V_snoc, show (l ++ [k]).length = l.length + 1 by simp]
      refine HR3.out.frame (fun n hn hlt => Below.heap_setCell _ _ _ _ ?_)
      intro e
      have e' : n = bq := e
      rcases hn with h | h
      · exact hnR (e' ▸ h)
      · omega
    · rw [← seat_snoc HK.out]
      refine HM2.out.frame ?_
      rw [Below.heap_setCell _ _ _ _ (by simpa using Ne.symm h9), HCA.out.block bm HM2.out.lt hnM]
    · rw [List.nodup_append]
      exact ⟨h5, by simp, fun a ha b hb e => HK.out (by rw [List.mem_singleton.1 hb] at e; exact e ▸ ha)⟩
    · simp; omega
    · rcases hn with h | h
      · exact ⟨.inl (h10S n h), (h10 n h).2⟩
      · have := HM2.out.lt
        exact ⟨.inr (by omega), by omega, by omega⟩
  · exact (HC2.out.trans HCA.out (fun n hn => .inl (h10S n hn))).setCell (.inl h7) _

set_option maxRecDepth 100000 in
set_option maxHeartbeats 1000000 in
theorem qnew_any (w : World) :
    Calls Try.prog 30 #[.slice none 0 0] w fun e w' => ∃ p, e = .returned p ∧ QRep w' p [] (fun n => w.heap.size ≤ n) ∧ Below w.heap.size w w' := by
  have hmm := @run_makeMap Try.prog
  go_enter Try.func30, Try.ntmps30
  go_wp2
  go_loop [11] (fun i => i = .int .i64 0) (fun _ => 0)
  case atStart => rfl
  case round =>
    subst hrel
    go_wp2
    go_ret
    refine ⟨_, rfl, ?_, ((Below.refl _ _).alloc (Nat.le_refl _) _).alloc (by simp) _⟩
    refine ⟨w.heap.size + 1, w.heap.size, .slice none 0 0, fun n => False, rfl, ?_, Row.nil _ _ _ _, ?_, List.Pairwise.nil, by simp, by omega, by omega, by omega, fun n hn => hn.elim⟩
    · have h := heap_alloc_new (w.alloc (.map #[] 0)) (.cells #[.slice none 0 0, .int .i64 0, .map (some w.heap.size)] 108 (0, 0))
      simpa using h
    · exact (MapFn.made w encU).frame (Below.heap_alloc _ _ _ (by simp))
end Go.Proofs.Ytbofbboogmeneaa
