/- The law ProgramLimits. -/
import Derived.Test.YtoocagpjcbagoaaDoorPAlive
namespace Go.Proofs.YtoocagpjcbagoaaDoor
set_option linter.unusedVariables false
set_option linter.unusedSimpArgs false
open Go.RowKit

theorem Row.inside {w : World} {e : TypeId} {size : Nat} {v : Value} {n : Nat} {xs : List Value} {S : Nat → Prop} (h : Row w e size v n xs S) : Row w e size v n xs (fun k => S k ∧ k < w.heap.size) := by
  refine ⟨h.1, ?_⟩
  rcases h.2 with h0 | ⟨g, off, cap, cur, hv, hS, hg, r⟩
  · exact .inl h0
  · exact .inr ⟨g, off, cap, cur, hv, ⟨hS, lt_of_heap hg⟩, hg, r⟩
theorem elemRow : ElemOf Tryd.prog 23 24 (.slice none 0 0) 1 24 := ⟨Tryd.underlying23, by kernel_rfl, rfl, by decide⟩
theorem elemStep : ElemOf Tryd.prog 24 26 (.agg #[.int .i64 0, .int .i64 0, .string ⟨#[]⟩]) 3 32 := ⟨Tryd.underlying24, by kernel_rfl, rfl, by decide⟩
abbrev one (b : Nat) : Value := .slice (some ⟨b, 0, none⟩) 1 1
abbrev yieldC : Array Value := #[.int .i64 7, .int .i64 0, .string ⟨#[]⟩]
abbrev zeroC : Array Value := #[.int .i64 0, .int .i64 0, .string ⟨#[]⟩]
/-- What the first loop has made. -/
structure Rows0 (w w' : World) (out : Value) (B : List Nat) : Prop where
  row : Row w' 24 1 out B.length (B.map one) (fun k => w.heap.size ≤ k ∧ k < w'.heap.size ∧ k ∉ B)
  blk : ∀ b ∈ B, w.heap.size ≤ b ∧ w'.heap[b]? = some (.cells yieldC 26 (0, 0))

/-- Every step of these kinds answers as rb0 says. -/
theorem rb0_all (P : List RT) (h : ∀ r ∈ P, ∀ x ∈ r.l, x.k = 3 ∨ x.k = 7 ∨ x.k = 11) (hl : P.length ≤ 1000000) (hll : ∀ r ∈ P, r.l.length ≤ 1000000) :
    ∀ r ∈ P, ∀ x ∈ r.l, ∀ W, Calls Tryd.prog 13 #[x.val, .int .i64 P.length, .int .i64 r.l.length] W fun e w' => e = .returned (.bool (rb0 x P.length r.l.length)) ∧ Below W.heap.size W w' :=
  fun r hr x hx W => rb0_right x (h r hr x hx) _ _ hl (hll r hr) W

def yst : ST := ⟨7, 0, ⟨#[]⟩⟩
def rowOf (b : Nat) : RT := ⟨[yst], some ⟨b, 0, none⟩, 1⟩
theorem check_rows0 {w w' : World} {out : Value} {B : List Nat} (h : Rows0 w w' out B) (hB : B.length < 24) :
    Calls Tryd.prog 5 #[out] w' fun e w2 => e = .returned (.tuple #[.int .i64 0, .int .i64 0, .bool (decide (1 ≤ B.length ∧ B.length ≤ 20))]) ∧ Below w'.heap.size w' w2 := by
  obtain ⟨a, c, rfl⟩ : ∃ a c, out = .slice a B.length c := by obtain ⟨_, a, c, hv, _⟩ := h.row.reads; exact ⟨a, c, hv⟩
  have hl : (B.map rowOf).length = B.length := by simp
  have e1 : (B.map rowOf).map RT.v = B.map one := by rw [List.map_map]; rfl
  have hp : Prg w' (.slice a (B.map rowOf).length c) (B.map rowOf) := by
    refine ⟨by rw [e1, hl]; exact h.row.reads, fun r hr => ?_, fun r hr => ?_⟩
    · obtain ⟨b, hb, rfl⟩ := List.mem_map.1 hr
      exact Reads.block (h.blk b hb).2 1 3 rfl
    · obtain ⟨b, hb, rfl⟩ := List.mem_map.1 hr
      show 1 ≤ 1000000; decide
  have hc := check_any rb0 a c (B.map rowOf) w' hp (by rw [hl]; omega) (rb0_all _ (fun r hr x hx => by obtain ⟨b, hb, rfl⟩ := List.mem_map.1 hr; rw [List.mem_singleton.1 hx]; exact .inr (.inl rfl)) (by rw [hl]; omega) hp.ll)
  rw [hl] at hc
  refine hc.mono ?_
  rintro e w2 ⟨i, k, ok, rfl, hch, hb⟩
  refine ⟨?_, hb⟩
  by_cases hr : 1 ≤ B.length ∧ B.length ≤ 20
  · obtain ⟨rfl, rfl, rfl⟩ := checked_fine hch (by rw [hl]; exact hr) (fun r hr2 => by
      obtain ⟨b, hb, rfl⟩ := List.mem_map.1 hr2
      exact ⟨show 1 ≤ 200 by decide, fun x hx => by rw [List.mem_singleton.1 hx]; rfl⟩)
    rw [decide_eq_true hr]
  · rcases hch with ⟨_, rfl, rfl, rfl⟩ | ⟨h1, h2, _⟩
    · rw [decide_eq_false hr]
    · rw [hl] at h1 h2; exact absurd ⟨h1, h2⟩ hr

def yrow (M : Nat) (a : Option Addr) (c : Nat) : RT := ⟨List.replicate M yst, a, c⟩
def drow (b : Nat) : RT := ⟨[⟨11, 0, ⟨#[]⟩⟩], some ⟨b, 0, none⟩, 1⟩
theorem check_two {w : World} {b : Nat} {M : Nat} {a : Option Addr} {c : Nat} (hM : 195 ≤ M ∧ M < 205) (h1 : w.heap[b]? = some (.cells #[.int .i64 11, .int .i64 0, .string ⟨#[]⟩] 26 (0, 0)))
    (h2 : w.heap[b + 1]? = some (.cells #[one b, .slice a M c] 24 (0, 0))) (h3 : Reads w (.slice a M c) M 3 ((List.replicate M yst).flatMap stcells)) :
    Calls Tryd.prog 5 #[.slice (some ⟨b + 1, 0, none⟩) 2 2] w fun e w2 => e = .returned (.tuple #[.int .i64 (if 200 < M then 1 else 0), .int .i64 (if 200 < M then 200 else 0), .bool (decide (¬ 200 < M))]) ∧ Below w.heap.size w w2 := by
  have hl : (List.replicate M yst).length = M := List.length_replicate ..
  have hv : (yrow M a c).v = .slice a M c := by unfold yrow RT.v; simp only [hl]
  have hp : Prg w (.slice (some ⟨b + 1, 0, none⟩) [drow b, yrow M a c].length 2) [drow b, yrow M a c] := by
    refine ⟨by rw [List.map_cons, List.map_cons, hv]; exact Reads.block h2 2 1 rfl, fun r hr => ?_, fun r hr => ?_⟩
    · simp only [List.mem_cons, List.not_mem_nil, or_false] at hr
      rcases hr with rfl | rfl
      · exact Reads.block h1 1 3 rfl
      · rw [hv]; unfold yrow; simp only [hl]; exact h3
    · simp only [List.mem_cons, List.not_mem_nil, or_false] at hr
      rcases hr with rfl | rfl
      · show 1 ≤ 1000000; decide
      · unfold yrow; simp only [hl]; omega
  have hk : ∀ r ∈ [drow b, yrow M a c], ∀ x ∈ r.l, x.k = 3 ∨ x.k = 7 ∨ x.k = 11 := by
    intro r hr x hx
    simp only [List.mem_cons, List.not_mem_nil, or_false] at hr
    rcases hr with rfl | rfl
    · rw [List.mem_singleton.1 hx]; exact .inr (.inr rfl)
    · rw [(List.mem_replicate.1 hx).2]; exact .inr (.inl rfl)
  have hf1 : fineR rb0 2 (drow b) := ⟨show 1 ≤ 200 by decide, fun x hx => by rw [List.mem_singleton.1 hx]; rfl⟩
  have hy : ∀ n, rb0 yst 2 n = true := fun n => rfl
  refine (check_any rb0 _ _ _ w hp (show 2 ≤ 1000000 by decide) (rb0_all _ hk (show 2 ≤ 1000000 by decide) hp.ll)).mono ?_
  rintro e w2 ⟨i, k, ok, rfl, hch, hb⟩
  refine ⟨?_, hb⟩
  rcases hch with ⟨h, _⟩ | ⟨_, _, ⟨hf, rfl, rfl, rfl⟩ | ⟨m, hm, rfl, rfl, hj, h⟩⟩
  · exact absurd h (by show ¬ (2 = 0 ∨ 20 < 2); decide)
  · have h4 := (hf (yrow M a c) (by simp)).1
    unfold yrow at h4; simp only [hl] at h4
    have : ¬ 200 < M := by omega
    rw [if_neg this, if_neg this, decide_eq_true this]
  · have hm2 : m < 2 := hm
    match m, hm2 with
    | 0, _ =>
      rcases h with ⟨h5, _⟩ | ⟨_, q, hq, _, h5⟩
      · exact absurd h5 (show ¬ 200 < 1 by decide)
      · have := hf1.2 _ (List.getElem_mem hq)
        exact absurd (this.symm.trans h5) (by decide)
    | 1, _ =>
      rcases h with ⟨h5, rfl⟩ | ⟨_, q, hq, _, h5⟩
      · have h6 : 200 < M := by rw [← hl]; exact h5
        rw [if_pos h6, if_pos h6, decide_eq_false (by omega)]; rfl
      · have e2 : ((yrow M a c).l[q]'hq) = yst := List.getElem_replicate ..
        have h6 : rb0 ((yrow M a c).l[q]'hq) 2 (yrow M a c).l.length = false := h5
        rw [e2, hy] at h6; cases h6

theorem check_made {w : World} {M : Nat} {a : Option Addr} {c : Nat} (hM : 195 ≤ M ∧ M < 205) (h3 : Reads w (.slice a M c) M 3 ((List.replicate M yst).flatMap stcells)) :
    Calls Tryd.prog 5 #[.slice (some ⟨w.heap.size + 1, 0, none⟩) 2 2] ((w.alloc (.cells #[.int .i64 11, .int .i64 0, .string ⟨#[]⟩] 26)).alloc (.cells #[one w.heap.size, .slice a M c] 24))
      fun e w2 => e = .returned (.tuple #[.int .i64 (if 200 < M then 1 else 0), .int .i64 (if 200 < M then 200 else 0), .bool (decide (¬ 200 < M))]) ∧ Below w.heap.size w w2 := by
  have h1 := heap_alloc_new w (.cells #[.int .i64 11, .int .i64 0, .string ⟨#[]⟩] 26)
  have b1 : Below w.heap.size w (w.alloc (.cells #[.int .i64 11, .int .i64 0, .string ⟨#[]⟩] 26)) := (Below.refl _ _).alloc (Nat.le_refl _) _
  have hs : (w.alloc (.cells #[.int .i64 11, .int .i64 0, .string ⟨#[]⟩] 26)).heap.size = w.heap.size + 1 := by simp
  generalize w.alloc (.cells #[.int .i64 11, .int .i64 0, .string ⟨#[]⟩] 26) = wa at *
  have b2 := b1.alloc b1.size (.cells #[one w.heap.size, .slice a M c] 24)
  have h2 := heap_alloc_new wa (.cells #[one w.heap.size, .slice a M c] 24)
  rw [hs] at h2
  refine (check_two hM ((Below.heap_alloc _ _ _ (lt_of_heap h1)).trans h1) h2 (h3.later b2)).mono ?_
  rintro e w' ⟨rfl, hb⟩
  exact ⟨rfl, b2.trans (hb.mono b2.size)⟩

set_option maxRecDepth 100000 in
set_option maxHeartbeats 2000000 in
theorem limits_any (n m : Nat) (hn : n < 256) (hm : m < 256) (w : World) (hw : Words w) :
    Calls Tryd.prog 3 #[.int .u8 n, .int .u8 m] w fun e w' => e = .returned (.bool true) ∧ Below w.heap.size w w' := by
  have HW := Lib.hid hw
  clear hw
  obtain ⟨N, hN⟩ : ∃ N, N = n % 24 := ⟨_, rfl⟩
  obtain ⟨M, hM⟩ : ∃ M, M = 195 + m % 10 := ⟨_, rfl⟩
  have hN' : (n : Int).tmod 24 = N := by rw [Int.tmod_eq_emod_of_nonneg (by omega)]; omega
  have hM' : (m : Int).tmod 10 = (M : Int) - 195 := by rw [Int.tmod_eq_emod_of_nonneg (by omega)]; omega
  have hM2 : 195 + ((M : Int) - 195) = M := by omega
  have hN24 : N < 24 := by omega
  have hMr : 195 ≤ M ∧ M < 205 := by omega
  clear hN hM
  have hmk : ∀ w : World, (Instr.makeSlice 24 (.int .i64 1) (.int .i64 1)).run Tryd.prog w = .ok (.slice (some ⟨w.heap.size, 0, none⟩) 1 1) (w.alloc (.cells zeroC 26)) := fun _ => by kernel_rfl
  go_enter Tryd.func3, Tryd.ntmps3
  go_wp2_with fail
  go_loopw [7, 20] (fun out i w' => ∃ B : List Nat, B.length ≤ N ∧ i = .int .i64 B.length ∧ Hid (Rows0 w w' out B) ∧ Hid (Below w.heap.size w w')) (fun _ i _ => N - (RowKit.intOf i).toNat)
  case atStart => exact ⟨[], by simp, rfl, ⟨Row.nil _ _ _ _, by simp⟩, Below.refl _ _⟩
  case round =>
    obtain ⟨B, hB, rfl, HR, HB⟩ := hrel
    by_cases hlt : B.length < N
    · have hsz := HB.out.size
      obtain ⟨b, hb⟩ : ∃ b, b = wr.heap.size := ⟨_, rfl⟩
      have H1 : Hid ((wr.alloc (.cells zeroC 26)).heap[b]? = some (.cells zeroC 26 (0, 0))) := by rw [hb]; exact heap_alloc_new _ _
      have HB1 : Hid (Below w.heap.size w (wr.alloc (.cells zeroC 26))) := HB.out.alloc hsz _
      have HR1 : Hid (Row (wr.alloc (.cells zeroC 26)) 24 1 u7 B.length (B.map one) (fun k => w.heap.size ≤ k ∧ k < b ∧ k ∉ B)) := by rw [hb]; exact HR.out.row.frame (fun k _ hk => Below.heap_alloc _ _ _ hk)
      have HK1 : Hid (∀ x ∈ B, w.heap.size ≤ x ∧ x < b ∧ (wr.alloc (.cells zeroC 26)).heap[x]? = some (.cells yieldC 26 (0, 0))) := fun x hx => by
        have h := HR.out.blk x hx
        exact ⟨h.1, by rw [hb]; exact lt_of_heap h.2, (Below.heap_alloc _ _ _ (lt_of_heap h.2)).trans h.2⟩
      have hs1 : (wr.alloc (.cells zeroC 26)).heap.size = b + 1 := by simp [hb]
      have hub : w.heap.size ≤ b := by omega
      have hsz1 := HB1.out.size
      generalize hwa : wr.alloc (.cells zeroC 26) = wa at *
      have HY : Hid (Reads (wa.alloc (.cells #[one b] 24)) (.slice (some ⟨b + 1, 0, none⟩) 1 1) 1 1 [one b]) := by rw [← hs1]; exact reads_one wa _ _
      subst hb
      go_wp2_with (
        refine wpList_row elemRow rfl rfl (S := fun k => w.heap.size ≤ k ∧ k < wr.heap.size ∧ k ∉ B) (n := B.length) (xs := B.map one) rfl (HR1.out.frame (fun k _ hk => Below.heap_alloc _ _ _ hk)) (y := .slice (some ⟨wr.heap.size + 1, 0, none⟩) 1 1) (m := 1) (news := [one wr.heap.size]) rfl HY.out (one_of rfl) (by unfold maxLen; omega) (by omega) ?_
        intro v5 w5 hr5 hch5
        have HR5 := Lib.hid hr5
        have hlt5 := lt_of_heap H1.out
        have HB5 : Hid (Below w.heap.size w w5) := (HB1.out.alloc hsz1 _).trans (hch5.toBelow (by simp only [World.size_alloc]; omega) (fun n hn h => by omega))
        have HZ5 : Hid (w5.heap[wr.heap.size]? = some (.cells zeroC 26 (0, 0))) := hch5.heap ((Below.heap_alloc _ _ _ hlt5).trans H1.out) (by omega)
        have HK5 : Hid (∀ x ∈ B, w.heap.size ≤ x ∧ x < wr.heap.size ∧ w5.heap[x]? = some (.cells yieldC 26 (0, 0))) := fun x hx => by
          have h := HK1.out x hx
          exact ⟨h.1, h.2.1, hch5.heap ((Below.heap_alloc _ _ _ (lt_of_heap h.2.2)).trans h.2.2) (fun hk => hk.2.2 hx)⟩
        have hs5 : wr.heap.size + 2 ≤ w5.heap.size := by have := hch5.size; simp only [World.size_alloc] at this; omega
        clear hch5 hr5
        obtain ⟨g, off, cap, hv, hS, hg, hfr, hcell, -⟩ := HR5.out.last (xs := B.map one) (by simp) rfl
        subst hv
        have c0 := hcell 0 _ rfl
        simp only [Nat.mul_one, Nat.add_zero] at c0
        clear hcell hfr
        have z0 := cellAt HZ5.out 0 rfl
        have z1 := freeAt HZ5.out 0)
      have HB6 := Lib.hid (HB5.out.setCell (p := ⟨wr.heap.size, 0, none⟩) hub (.int .i64 7))
      refine ⟨⟨B ++ [wr.heap.size], by simp; omega, by simp, ⟨?_, ?_⟩, HB6.out⟩, by simp [RowKit.intOf]; omega⟩
      · have h := (HR5.out.mono (T := fun k => w.heap.size ≤ k ∧ k ≠ wr.heap.size ∧ k ∉ B) (fun k hk => by
          rcases hk with hk | hk
          · exact ⟨hk.1, by omega, hk.2.2⟩
          · simp only [World.size_alloc] at hk
            exact ⟨by omega, by omega, fun hb => by have := (HK5.out k hb).2.1; omega⟩))
        have h2 := h.frame (w' := w5.setCell ⟨wr.heap.size, 0, none⟩ (.int .i64 7)) (fun k hk _ => Below.heap_setCell _ _ _ _ hk.2.1)
        rw [List.length_append, List.map_append]
        refine Row.mono (Row.inside h2) ?_
        intro k hk
        exact ⟨hk.1.1, hk.2, by simp only [List.mem_append, List.mem_singleton, not_or]; exact ⟨hk.1.2.2, hk.1.2.1⟩⟩
      · intro x hx
        rcases List.mem_append.1 hx with h | h
        · have h5 := HK5.out x h
          exact ⟨h5.1, (Below.heap_setCell _ _ _ _ (by show x ≠ wr.heap.size; omega)).trans h5.2.2⟩
        · obtain rfl := List.mem_singleton.1 h
          exact ⟨hub, heap_store HZ5.out 0 _⟩
    · obtain hBN : B.length = N := by omega
      have hck := Lib.hid (check_rows0 HR.out (by omega))
      rw [hBN] at hck
      clear HR
      go_wp2_with fail
      refine hck.out.mono ?_
      rintro e w4 ⟨rfl, hb4⟩
      have HB4 := Lib.hid (HB.out.trans (hb4.mono HB.out.size))
      clear hb4 hck
      rcases (by omega : N < 1 ∨ (1 ≤ N ∧ N ≤ 20) ∨ 20 < N) with h3 | h3 | h3
      all_goals
        first | rw [decide_eq_false (show ¬ (1 ≤ N ∧ N ≤ 20) by omega)] | rw [decide_eq_true (show (1 ≤ N ∧ N ≤ 20) by omega)]
        try have hd1 : ¬ ((N : Int) ≥ 1) := by omega
        try have hd2 : (N : Int) ≥ 1 := by omega
        try have hd3 : ¬ ((N : Int) ≤ 20) := by omega
        try have hd4 : (N : Int) ≤ 20 := by omega
        go_wp2_with fail
        go_loopw [11, 58] (fun out i w' => ∃ q : Nat, q ≤ M ∧ i = .int .i64 q ∧ Hid (Row w' 26 3 out q ((List.replicate q yst).flatMap stcells) (fun k => w.heap.size ≤ k)) ∧ Hid (Below w.heap.size w w')) (fun _ i _ => M - (RowKit.intOf i).toNat)
        case atStart => exact ⟨0, by omega, rfl, Row.nil _ _ _ _, HB4.out⟩
        case round =>
          clear HB4 HB
          obtain ⟨q, hq, rfl, HO, HB⟩ := hrel
          by_cases hlt2 : q < M
          · have HTQ : Hid ((List.replicate (q + 1) yst).flatMap stcells = (List.replicate q yst).flatMap stcells ++ stcells yst) := by rw [Hid, List.replicate_succ', List.flatMap_append]; rfl
            have hbl := HB.out.size
            go_wp2_with (
              refine wpList_row elemStep rfl rfl (S := fun k => w.heap.size ≤ k) (n := q) (xs := (List.replicate q yst).flatMap stcells) rfl (HO.out.frame (fun k _ hk => Below.heap_alloc _ _ _ hk)) (y := .slice (some ⟨wr.heap.size, 0, none⟩) 1 1) (m := 1) (news := [.int .i64 7, .int .i64 0, .string ⟨#[]⟩]) rfl (Reads.single (heap_alloc_new wr _)) (by intro u hu; simp only [List.mem_cons, List.not_mem_nil, or_false] at hu; rcases hu with rfl | rfl | rfl <;> rfl) (by unfold maxLen; omega) (by omega) ?_
              intro v5 w5 hr5 hch5)
            go_roundw
            case rel =>
              refine ⟨q + 1, by omega, by go_num, ?_, (HB.out.alloc hbl _).trans (hch5.toBelow (by simp <;> omega) (fun n hn h => by omega))⟩
              rw [Hid, HTQ.out]
              exact hr5.mono (fun k hk => by rcases hk with hk | hk; exact hk; simp only [World.size_alloc] at hk; omega)
            case measure => simp [RowKit.intOf]; omega
          · obtain rfl : q = M := by omega
            obtain ⟨a, c, rfl⟩ : ∃ a c, u11 = .slice a q c := by obtain ⟨_, a, c, hv, _⟩ := HO.out.reads; exact ⟨a, c, hv⟩
            have HCK := Lib.hid (check_made hMr HO.out.reads)
            clear HO hlt2
            go_wp2_with fail
            refine HCK.out.mono ?_
            rintro e w6 ⟨rfl, hb6⟩
            have HB6 := Lib.hid (HB.out.trans (hb6.mono HB.out.size))
            have HAL := Lib.hid (alive_any w6 (HW.out.later HB6.out))
            clear hb6 HCK HB
            by_cases h200 : 200 < q
            · have h200' : (q : Int) > 200 := by omega
              rw [if_pos h200, if_pos h200, decide_eq_false (by omega : ¬ ¬ 200 < q)]
              go_wp2_with fail
              refine HAL.out.mono ?_
              rintro e w7 ⟨rfl, hb7⟩
              have HB7 := Lib.hid (HB6.out.trans (hb7.mono HB6.out.size))
              clear hb7 HAL
              go_wp2
              go_ret
              exact ⟨rfl, HB7.out⟩
            · have h200' : ¬ ((q : Int) > 200) := by omega
              rw [if_neg h200, if_neg h200, decide_eq_true h200]
              go_wp2_with fail
              refine HAL.out.mono ?_
              rintro e w7 ⟨rfl, hb7⟩
              have HB7 := Lib.hid (HB6.out.trans (hb7.mono HB6.out.size))
              clear hb7 HAL
              go_wp2
              go_ret
              exact ⟨rfl, HB7.out⟩
end Go.Proofs.YtoocagpjcbagoaaDoor
