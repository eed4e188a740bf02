/- program.Text of right programs, and the example of the chapter. -/
import Derived.Test.YtccnmoicckjfbaaGreatDoorPText1
namespace Go.Proofs.YtccnmoicckjfbaaGreatDoor
set_option linter.unusedVariables false
set_option linter.unusedSimpArgs false
open Go.RowKit

theorem checked_fine {rb : ST → Nat → Nat → Bool} {P : List RT} {i k : Int} {ok : Bool} (h : Checked rb P i k ok) (hP : 1 ≤ P.length ∧ P.length ≤ 20) (hf : ∀ r ∈ P, fineR rb P.length r) : i = 0 ∧ k = 0 ∧ ok = true := by
  rcases h with ⟨h1, _⟩ | ⟨_, _, h | ⟨m, hm, rfl, rfl, _, h⟩⟩
  · omega
  · exact h.2
  · have hr := hf P[m] (List.getElem_mem hm)
    rcases h with ⟨h1, _⟩ | ⟨_, q, hq, _, h1⟩
    · have := hr.1; omega
    · have := hr.2 P[m].l[q] (List.getElem_mem hq)
      rw [this] at h1; cases h1

def textP (tx : ST → ByteArray) (P : List RT) : ByteArray := joinB (P.map (textR tx)) bar

set_option maxRecDepth 100000 in
set_option maxHeartbeats 2000000 in
theorem ptext_ok (rb : ST → Nat → Nat → Bool) (tx : ST → ByteArray) (a : Option Addr) (c : Nat) (P : List RT) (w : World) (h : Prg w (.slice a P.length c) P) (hP : 1 ≤ P.length ∧ P.length ≤ 20) (hf : ∀ r ∈ P, fineR rb P.length r)
    (hr : ∀ r ∈ P, ∀ x ∈ r.l, ∀ W, Calls Tryz.prog 21 #[x.val, .int .i64 P.length, .int .i64 r.l.length] W fun e w' => e = .returned (.bool (rb x P.length r.l.length)) ∧ Below W.heap.size W w')
    (hlen : Short (P.map (textR tx)) bar) (hls : ∀ r ∈ P, Short (r.l.map tx) semi) (hg : ∀ r ∈ P, Says tx w r) :
    Calls Tryz.prog 10 #[.slice a P.length c] w fun e w' => e = .returned (.string (textP tx P)) ∧ Below w.heap.size w w' := by
  have HC : Hid (Calls Tryz.prog 13 #[.slice a P.length c] w fun e w' => e = .returned (.tuple #[.int .i64 0, .int .i64 0, .bool true]) ∧ Below w.heap.size w w') := by
    rw [Hid]
    refine (check_any rb a c P w h (by omega) hr).mono ?_
    rintro e w' ⟨i, k, ok, rfl, hch, hb⟩
    obtain ⟨rfl, rfl, rfl⟩ := checked_fine hch hP hf
    exact ⟨rfl, hb⟩
  have HJ : Hid (∀ W, Below w.heap.size w W → Calls Tryz.prog 14 #[.slice a P.length c, .string bar, .func (.func 15) #[] #[]] W fun e w' => e = .returned (.string (textP tx P)) ∧ Below W.heap.size W w') :=
    fun W hW => joinR_any tx a c P bar W (h.later hW) (by omega) (fun r hr => by have := (hf r hr).1; omega) hlen hls (fun r hr x hx W2 h2 => hg r hr x hx W2 (hW.trans (h2.mono hW.size)))
  clear h hf hr hlen hls hg
  go_enter Tryz.func10, Tryz.ntmps10
  go_wp2_with fail
  refine HC.out.mono ?_
  rintro e w2 ⟨rfl, hb2⟩
  have HB2 := Lib.hid hb2
  have HJ2 := Lib.hid (HJ.out w2 hb2)
  clear hb2 HJ HC
  go_wp2_with fail
  refine HJ2.out.mono ?_
  rintro e w3 ⟨rfl, hb3⟩
  have HB3 := Lib.hid (HB2.out.trans (hb3.mono HB2.out.size))
  clear hb3
  go_wp2
  go_ret
  exact ⟨rfl, HB3.out⟩

/-- right of the kinds in the example and in the limits. -/
def rb0 (x : ST) (np nl : Nat) : Bool := if x.k = 3 then decide (x.n = 0) && decide (x.s.size ≤ 1000) && !decide (x.s = ⟨#[]⟩) else decide (x.n = 0) && decide (x.s = ⟨#[]⟩)
theorem rb0_right (x : ST) (hk : x.k = 3 ∨ x.k = 7 ∨ x.k = 11) (np nl : Nat) (h1 : np ≤ 1000000) (h2 : nl ≤ 1000000) (W : World) :
    Calls Tryz.prog 21 #[x.val, .int .i64 np, .int .i64 nl] W fun e w' => e = .returned (.bool (rb0 x np nl)) ∧ Below W.heap.size W w' := by
  obtain ⟨k, n, s⟩ := x
  simp only at hk
  by_cases h : k = 3
  · subst h
    exact right_call 3 (.inl rfl) n s np nl (by omega) W
  · have := right_bare k (by rcases hk with h3 | h3; exact absurd h3 h; exact h3) n s np nl (by omega) W
    have e : rb0 ⟨k, n, s⟩ np nl = (decide (n = 0) && decide (s = ⟨#[]⟩)) := by unfold rb0; rw [if_neg h]
    rw [e]; exact this

def tx0 (x : ST) : ByteArray := if x.k = 3 then (⟨#[99, 97, 108, 108]⟩ : ByteArray) ++ ((⟨#[32]⟩ : ByteArray) ++ quoted x.s) else ⟨#[100, 111, 110, 101]⟩
def exL : List ST := [⟨3, 0, ⟨#[97]⟩⟩, ⟨11, 0, ⟨#[]⟩⟩]
theorem ex_text : textP tx0 [⟨exL, none, 2⟩] = ⟨#[99, 97, 108, 108, 32, 34, 54, 49, 34, 59, 32, 100, 111, 110, 101]⟩ := by decide +kernel

theorem ex_calls (w : World) (b : Nat) (hw : Words w) (h1 : w.heap[b]? = some (.cells #[.int .i64 3, .int .i64 0, .string ⟨#[97]⟩, .int .i64 11, .int .i64 0, .string ⟨#[]⟩] 37 (0, 0)))
    (h2 : w.heap[b + 1]? = some (.cells #[.slice (some ⟨b, 0, none⟩) 2 2] 38 (0, 0))) :
    Calls Tryz.prog 10 #[.slice (some ⟨b + 1, 0, none⟩) 1 1] w fun e w' => e = .returned (.string ⟨#[99, 97, 108, 108, 32, 34, 54, 49, 34, 59, 32, 100, 111, 110, 101]⟩) ∧ Below w.heap.size w w' := by
  have hp : Prg w (.slice (some ⟨b + 1, 0, none⟩) 1 1) [⟨exL, some ⟨b, 0, none⟩, 2⟩] := by
    refine ⟨Reads.single h2, fun r hr => ?_, fun r hr => ?_⟩
    · rw [List.mem_singleton.1 hr]
      exact Reads.block h1 2 3 rfl
    · rw [List.mem_singleton.1 hr]; show 2 ≤ 1000000; decide
  have e : textP tx0 [⟨exL, some ⟨b, 0, none⟩, 2⟩] = ⟨#[99, 97, 108, 108, 32, 34, 54, 49, 34, 59, 32, 100, 111, 110, 101]⟩ := ex_text
  rw [← e]
  have hk : ∀ x ∈ exL, x.k = 3 ∨ x.k = 7 ∨ x.k = 11 := by decide
  refine ptext_ok rb0 tx0 (some ⟨b + 1, 0, none⟩) 1 [⟨exL, some ⟨b, 0, none⟩, 2⟩] w hp (show 1 ≤ 1 ∧ 1 ≤ 20 by decide) ?_ ?_ ?_ ?_ ?_
  · intro r hr; rw [List.mem_singleton.1 hr]; exact ⟨show 2 ≤ 200 by decide, (by decide : ∀ x ∈ exL, rb0 x 1 2 = true)⟩
  · intro r hr x hx W; rw [List.mem_singleton.1 hr] at hx; rw [List.mem_singleton.1 hr]
    exact rb0_right x (hk x hx) 1 2 (by decide) (by decide) W
  · show (Lib.join [(textR tx0 ⟨exL, none, 2⟩).data.toList] bar.data.toList).length ≤ _; decide +kernel
  · intro r hr; rw [List.mem_singleton.1 hr]; show Short (exL.map tx0) semi; unfold Short; decide +kernel
  · intro r hr x hx W hW; rw [List.mem_singleton.1 hr] at hx
    simp only [exL, List.mem_cons, List.not_mem_nil, or_false] at hx
    rcases hx with rfl | rfl
    · exact stext_call 0 ⟨#[97]⟩ W (hw.later hW) (by decide)
    · exact stext_done 0 ⟨#[]⟩ W (hw.later hW)

set_option maxRecDepth 100000 in
set_option maxHeartbeats 2000000 in
theorem alive_any (w : World) (hw : Words w) :
    Calls Tryz.prog 5 #[] w fun e w' => e = .returned (.bool true) ∧ Below w.heap.size w w' := by
  have h1 : (w.alloc (.cells #[.int .i64 3, .int .i64 0, .string ⟨#[97]⟩, .int .i64 11, .int .i64 0, .string ⟨#[]⟩] 37)).heap[w.heap.size]? = some (.cells #[.int .i64 3, .int .i64 0, .string ⟨#[97]⟩, .int .i64 11, .int .i64 0, .string ⟨#[]⟩] 37 (0, 0)) := heap_alloc_new w _
  have b1 : Below w.heap.size w (w.alloc (.cells #[.int .i64 3, .int .i64 0, .string ⟨#[97]⟩, .int .i64 11, .int .i64 0, .string ⟨#[]⟩] 37)) := (Below.refl _ _).alloc (Nat.le_refl _) _
  have hs : (w.alloc (.cells #[.int .i64 3, .int .i64 0, .string ⟨#[97]⟩, .int .i64 11, .int .i64 0, .string ⟨#[]⟩] 37)).heap.size = w.heap.size + 1 := by simp
  have hT : Hid (∀ wa, wa = w.alloc (.cells #[.int .i64 3, .int .i64 0, .string ⟨#[97]⟩, .int .i64 11, .int .i64 0, .string ⟨#[]⟩] 37) → Calls Tryz.prog 10 #[.slice (some ⟨w.heap.size + 1, 0, none⟩) 1 1] (wa.alloc (.cells #[.slice (some ⟨w.heap.size, 0, none⟩) 2 2] 38)) fun e w' => e = .returned (.string ⟨#[99, 97, 108, 108, 32, 34, 54, 49, 34, 59, 32, 100, 111, 110, 101]⟩) ∧ Below w.heap.size w w') := by
    rintro wa rfl
    have b2 := b1.alloc b1.size (.cells #[.slice (some ⟨w.heap.size, 0, none⟩) 2 2] 38)
    have h2 := heap_alloc_new (w.alloc (.cells #[.int .i64 3, .int .i64 0, .string ⟨#[97]⟩, .int .i64 11, .int .i64 0, .string ⟨#[]⟩] 37)) (.cells #[.slice (some ⟨w.heap.size, 0, none⟩) 2 2] 38)
    rw [hs] at h2
    refine (ex_calls _ w.heap.size (hw.later b2) ((Below.heap_alloc _ _ _ (lt_of_heap h1)).trans h1) h2).mono ?_
    rintro e w' ⟨rfl, hb⟩
    exact ⟨rfl, b2.trans (hb.mono b2.size)⟩
  clear b1
  have HT := Lib.hid (hT.out _ rfl)
  clear h1 hs hT
  go_enter Tryz.func5, Tryz.ntmps5
  go_wp2_with fail
  refine HT.out.mono ?_
  rintro e w3 ⟨rfl, hb3⟩
  have HB3 := Lib.hid hb3
  clear hb3 HT
  go_wp2
  go_ret
  exact ⟨rfl, HB3.out⟩
end Go.Proofs.YtccnmoicckjfbaaGreatDoor
