/- The example of the chapter. -/
import Derived.Test.YtbofbboogmeneaaInTake3
namespace Go.Proofs.Ytbofbboogmeneaa
set_option linter.unusedVariables false
set_option linter.unusedSimpArgs false
open Go.RowKit

/-- A number as a payload. -/
def numV (n : Int) : VV := leaf 1 n 0 ⟨#[]⟩

set_option maxRecDepth 100000 in
set_option maxHeartbeats 1000000 in
theorem number_exact (n : Int) (w : World) :
    Calls Try.prog 16 #[.int .i64 n] w fun e w' => e = .returned (numV n).val ∧ w' = w.alloc (.cells #[.int .i64 1, .int .i64 n, .float .f64 0, .string ⟨#[]⟩, .slice none 0 0] 31) := by
  simp only [numV, leaf, VV.val]
  go_enter Try.func16, Try.ntmps16
  go_wp2
  try simp only [Exit.inBlock, Exit.then]
  exact bodyPost_ret (results_cell_row (P := Try.prog) rfl _ _ w.heap.size 31 #[.int .i64 1, .int .i64 n, .float .f64 0, .string ⟨#[]⟩, .slice none 0 0] (0, 0) _ rfl (heap_alloc_new w _) Try.underlying31 rfl rfl) rfl ⟨rfl, rfl⟩

theorem number_any (n : Int) (w : World) :
    Calls Try.prog 16 #[.int .i64 n] w fun e w' => e = .returned (numV n).val ∧ Below w.heap.size w w' := by
  refine (number_exact n w).mono ?_
  rintro e w' ⟨rfl, rfl⟩
  exact ⟨rfl, (Below.refl _ _).alloc (Nat.le_refl _) _⟩

section
variable {w0 w : World} {x : Value} {V : ByteArray → List VV} {Q : ByteArray → List Nat} {W : Nat → Option ByteArray} {S : Nat → Prop}

theorem IRep.tight (h : IRep w x V Q W S) : IRep w x V Q W (fun k => S k ∧ k < w.heap.size) := by
  obtain ⟨bx, bv, bq, bw, col, pv, pq, rfl, h⟩ := h
  refine ⟨bx, bv, bq, bw, col, pv, pq, rfl, ?_⟩
  obtain ⟨s1, s2, s3, s4⟩ := h.sx
  exact { h with
          piles := fun n hn => (h.piles n hn).tight.mono (fun k hk => ⟨⟨hk.1.1, hk.2⟩, hk.1.2⟩)
          lines := fun n hn => (h.lines n hn).tight.mono (fun k hk => ⟨⟨hk.1.1, hk.2⟩, hk.1.2⟩)
          sx := ⟨⟨s1, lt_of_heap h.blk⟩, ⟨s2, h.mv.lt⟩, ⟨s3, h.mq.lt⟩, ⟨s4, h.mw.lt⟩⟩ }

/-- An inbox that a function has made for itself since the world w0, in the blocks S. -/
structure Box (w0 w : World) (x : Value) (V : ByteArray → List VV) (Q : ByteArray → List Nat) (W : Nat → Option ByteArray) (S : Nat → Prop) : Prop where
  rep : IRep w x V Q W S
  bel : Below w0.heap.size w0 w
  low : ∀ k, S k → w0.heap.size ≤ k ∧ k < w.heap.size

/-- What an operation leaves: the inbox in old blocks of its own and in new ones; no other block has changed. -/
def After (w0 w w' : World) (x : Value) (V : ByteArray → List VV) (Q : ByteArray → List Nat) (W : Nat → Option ByteArray) (S : Nat → Prop) : Prop :=
  ∃ S', Box w0 w' x V Q W S' ∧ (∀ k, S' k → S k ∨ w.heap.size ≤ k) ∧ Chg S w w'

theorem Box.later {w' : World} (h : Box w0 w x V Q W S) (hb : Below w.heap.size w w') : Box w0 w' x V Q W S :=
  ⟨h.rep.frame (fun k _ hk => hb.block k hk), h.bel.trans (hb.mono h.bel.size), fun k hk => ⟨(h.low k hk).1, Nat.lt_of_lt_of_le (h.low k hk).2 hb.size⟩⟩

theorem Box.step {w' : World} {V' : ByteArray → List VV} {Q' : ByteArray → List Nat} {W' : Nat → Option ByteArray} (h : Box w0 w x V Q W S) (hr : IRep w' x V' Q' W' (fun k => S k ∨ w.heap.size ≤ k)) (hc : Chg S w w') : After w0 w w' x V' Q' W' S :=
  ⟨_, ⟨hr.tight, h.bel.trans (hc.toBelow h.bel.size (fun n hn hS => by have := (h.low n hS).1; omega)), fun k hk => ⟨by rcases hk.1 with h1 | h1; exact (h.low k h1).1; have := h.bel.size; omega, hk.2⟩⟩, fun k hk => hk.1, hc⟩

theorem Box.new (w0 : World) : Calls Try.prog 9 #[] w0 fun e w' => ∃ x S, e = .returned x ∧ Box w0 w' x (fun _ => []) (fun _ => []) (fun _ => none) S :=
  (inew_any w0).mono fun e w' ⟨x, he, hi, hb⟩ => ⟨x, _, he, hi.tight, hb, fun k hk => hk⟩

theorem Box.wake (h : Box w0 w x V Q W S) (name : ByteArray) (v : VV) {a : Nat} {r : List Nat} (hQ : Q name = a :: r) :
    Calls Try.prog 15 #[x, .string name, v.val] w fun e w' => e = .returned (.tuple #[.int .u64 a, .bool true]) ∧ After w0 w w' x V (upd Q name r) (fun k => if k = a then none else W k) S :=
  (iput_wake x name v a r V Q W _ w h.rep hQ).mono fun e w' ⟨he, hi, hc⟩ => ⟨he, h.step hi hc⟩

theorem Box.keep (h : Box w0 w x V Q W S) (name : ByteArray) (n : Int) (hQ : Q name = []) (hlen : (V name).length < 1000) :
    Calls Try.prog 15 #[x, .string name, (numV n).val] w fun e w' => e = .returned (.tuple #[.int .u64 0, .bool false]) ∧ After w0 w w' x (upd V name (V name ++ [numV n])) Q W S :=
  (iput_keep x name (numV n) (fun _ _ u => u = numV n) V Q W _ w h.rep hQ hlen (fun w1 _ => copies_leaf _ _ _ _ w1)).mono fun e w' ⟨he, u, w1, w2, h1, hu, h2, _, hi, hc⟩ =>
    ⟨he, h.step (by rw [← hu]; exact hi.mono (fun k hk => by have := h1.size; have := h2.size; rcases hk with h | h | h; exact .inl h; exact .inr h.1; exact .inr (by omega))) hc⟩

theorem Box.take (h : Box w0 w x V Q W S) (name : ByteArray) (id : Nat) {v : VV} {l : List VV} (hV : V name = v :: l) :
    Calls Try.prog 11 #[x, .string name, .int .u64 id] w fun e w' => e = .returned (.tuple #[v.val, .bool true]) ∧ After w0 w w' x (upd V name l) Q W S :=
  (itake_some x name id v l V Q W _ w h.rep hV).mono fun e w' ⟨he, hi, hc⟩ => ⟨he, h.step hi hc⟩

theorem Box.idle (h : Box w0 w x V Q W S) (name : ByteArray) (id : Nat) (hV : V name = []) (hid : W id ≠ none ∨ id = 0) :
    Calls Try.prog 11 #[x, .string name, .int .u64 id] w fun e w' => e = .returned (.tuple #[zeroV, .bool false]) ∧ After w0 w w' x V Q W S :=
  (itake_idle x name id V Q W _ w h.rep hV hid).mono fun e w' ⟨he, hb⟩ => ⟨he, _, h.later hb, fun k hk => .inl hk, Chg.ofBelow hb⟩

theorem Box.wait (h : Box w0 w x V Q W S) (name : ByteArray) (id : Nat) (hV : V name = []) (hid : id ≠ 0) (hW : W id = none) (hlen : (Q name).length < 1000) :
    Calls Try.prog 11 #[x, .string name, .int .u64 id] w fun e w' => e = .returned (.tuple #[zeroV, .bool false]) ∧ After w0 w w' x V (upd Q name (Q name ++ [id])) (fun k => if k = id then some name else W k) S :=
  (itake_wait x name id V Q W _ w h.rep hV hid hW hlen).mono fun e w' ⟨he, hi, hc⟩ => ⟨he, h.step hi hc⟩
end

def nameA : ByteArray := ⟨#[97]⟩
def nameB : ByteArray := ⟨#[98]⟩
theorem nameBA : nameB ≠ nameA := by decide

set_option maxRecDepth 100000 in
set_option maxHeartbeats 1000000 in
theorem alive_any (w : World) :
    Calls Try.prog 10 #[] w fun e w' => e = .returned (.bool true) ∧ Below w.heap.size w w' := by
  go_enter Try.func10, Try.ntmps10
  go_wp2_with fail
  refine (Box.new _).mono ?_
  rintro e w1 ⟨x, S1, rfl, hi1⟩
  have H1 := Lib.hid hi1
  clear hi1
  go_wp2_with fail
  refine (number_any 1 _).mono ?_
  rintro e w2 ⟨rfl, hb⟩
  have H2 := Lib.hid (H1.out.later hb)
  clear hb
  generalize hn1 : (numV 1).val = v1
  have HN1 := Lib.hid hn1
  clear hn1
  go_wp2_with fail
  obtain rfl := HN1.out
  refine (H2.out.keep nameA 1 rfl (by simp)).mono ?_
  rintro e w3 ⟨rfl, S3, hb, -, -⟩
  have H3 := Lib.hid (show Box w w3 x (upd (fun _ => []) nameA [numV 1]) (fun _ => []) (fun _ => none) S3 from hb)
  clear hb HN1 H1 H2
  generalize hn1 : (numV 1).val = v1
  have HN1 := Lib.hid hn1
  clear hn1
  go_wp2_with fail
  refine (number_any 2 _).mono ?_
  rintro e w4 ⟨rfl, hb⟩
  have H4 := Lib.hid (H3.out.later hb)
  clear hb H3
  generalize hn2 : (numV 2).val = v2
  have HN2 := Lib.hid hn2
  clear hn2
  go_wp2_with fail
  have hk := H4.out.keep nameA 2 rfl (by rw [upd_same]; simp)
  rw [HN2.out] at hk
  refine hk.mono ?_
  clear hk
  rintro e w5 ⟨rfl, S5, hb, -, -⟩
  have H5 := Lib.hid (show Box w w5 x (upd (upd (fun _ => []) nameA [numV 1]) nameA [numV 1, numV 2]) (fun _ => []) (fun _ => none) S5 from hb)
  clear hb H4
  go_wp2_with fail
  refine (H5.out.take nameA 7 (upd_same _ _ _)).mono ?_
  rintro e w6 ⟨rfl, S6, hb, -, -⟩
  have H6 := Lib.hid hb
  clear hb H5
  simp only [numV, leaf, VV.val]
  go_wp2_with fail
  have hv7 := heap_alloc_new w6 (.cells #[.int .i64 1, .int .i64 1, .float .f64 0, .string ⟨#[]⟩, .slice none 0 0] 31)
  have hb7 := H6.out.later ((Below.refl _ _).alloc (Nat.le_refl _) (.cells #[.int .i64 1, .int .i64 1, .float .f64 0, .string ⟨#[]⟩, .slice none 0 0] 31))
  have hsz7 : (w6.alloc (.cells #[.int .i64 1, .int .i64 1, .float .f64 0, .string ⟨#[]⟩, .slice none 0 0] 31)).heap.size = w6.heap.size + 1 := by simp
  have hnS : ¬ S6 w6.heap.size := fun h => by have := (H6.out.low _ h).2; omega
  generalize w6.alloc (.cells #[.int .i64 1, .int .i64 1, .float .f64 0, .string ⟨#[]⟩, .slice none 0 0] 31) = w7 at *
  have HV7 := Lib.hid hv7
  have H7 := Lib.hid hb7
  clear hv7 hb7
  refine (H7.out.wait nameB 7 (by rw [upd_other _ _ nameBA, upd_other _ _ nameBA, upd_other _ _ nameBA]) (by decide) rfl (by simp)).mono ?_
  rintro e w8 ⟨rfl, S8, hb, hs, hc⟩
  have H8 := Lib.hid hb
  have HV8 := Lib.hid (hc.heap HV7.out hnS)
  have hnS8 : ¬ S8 w6.heap.size := fun h => by rcases hs _ h with h | h; exact hnS h; omega
  clear hb hs hc hnS H7 HV7 H6
  go_wp2_with fail
  refine (number_any 3 _).mono ?_
  rintro e w9 ⟨rfl, hb0⟩
  have hb : Below w8.heap.size w8 w9 := ((Below.refl _ _).alloc (Nat.le_refl _) _).trans (hb0.mono (by simp))
  clear hb0
  have H9 := Lib.hid (H8.out.later hb)
  have HV9 := Lib.hid ((hb.block _ (lt_of_heap HV8.out)).trans HV8.out)
  clear hb H8 HV8
  generalize hn3 : (numV 3).val = v3
  have HN3 := Lib.hid hn3
  clear hn3
  go_wp2_with fail
  have hk := H9.out.wake nameB (numV 3) (a := 7) (r := []) (by rw [upd_same]; rfl)
  rw [HN3.out] at hk
  refine hk.mono ?_
  clear hk
  rintro e w10 ⟨rfl, S10, hb, hs, hc⟩
  have HV10 := Lib.hid (hc.heap HV9.out hnS8)
  have H10 := Lib.hid hb
  clear hb hs hc H9 HV9
  have hx1 := cellAt HV10.out 1 (v := .int .i64 1) rfl
  go_wp2_with fail
  go_ret
  exact ⟨rfl, H10.out.bel⟩
end Go.Proofs.Ytbofbboogmeneaa
