/- An inbox: a new one, its numbers, its lists. -/
import Derived.Test.YtbofbboogmeneaaInRep
namespace Go.Proofs.Ytbofbboogmeneaa
set_option linter.unusedVariables false
set_option linter.unusedSimpArgs false
open Go.RowKit

theorem zeroP (w : World) : (zeroValue 65).run Try.prog w = .ok (.pointer none) w := by kernel_rfl
theorem zeroQ (w : World) : (zeroValue 71).run Try.prog w = .ok (.pointer none) w := by kernel_rfl
theorem zeroS (w : World) : (zeroValue 9).run Try.prog w = .ok (.string ByteArray.empty) w := by kernel_rfl

/-- The answers of the maps of an inbox. -/
theorem look_v {w : World} {V : ByteArray → List VV} {pv : ByteArray → Value} {bv : Nat} (h : MapFn w Value.string bv (vmap V pv)) (n : ByteArray) (ok : Bool) :
    (Instr.lookup 60 (.map (some bv)) (.string n) ok).run Try.prog w = .ok (if ok then .tuple #[(vmap V pv n).getD (.pointer none), .bool (vmap V pv n).isSome] else (vmap V pv n).getD (.pointer none)) w :=
  run_lookup_fn keyS Try.underlying60 (zeroP w) h n ok
theorem look_q {w : World} {Q : ByteArray → List Nat} {pq : ByteArray → Value} {bq : Nat} (h : MapFn w Value.string bq (vmap Q pq)) (n : ByteArray) (ok : Bool) :
    (Instr.lookup 61 (.map (some bq)) (.string n) ok).run Try.prog w = .ok (if ok then .tuple #[(vmap Q pq n).getD (.pointer none), .bool (vmap Q pq n).isSome] else (vmap Q pq n).getD (.pointer none)) w :=
  run_lookup_fn keyS Try.underlying61 (zeroQ w) h n ok
theorem look_w {w : World} {W : Nat → Option ByteArray} {bw : Nat} (h : MapFn w encU bw (fun k => (W k).map Value.string)) (k : Nat) (ok : Bool) :
    (Instr.lookup 62 (.map (some bw)) (.int .u64 k) ok).run Try.prog w = .ok (if ok then .tuple #[((W k).map Value.string).getD (.string ByteArray.empty), .bool ((W k).map Value.string).isSome] else ((W k).map Value.string).getD (.string ByteArray.empty)) w :=
  run_lookup_fn keyU Try.underlying62 (zeroS w) h k ok

set_option maxRecDepth 100000 in
set_option maxHeartbeats 1000000 in
theorem inew_any (w : World) :
    Calls Try.prog 9 #[] w fun e w' => ∃ x, e = .returned x ∧ IRep w' x (fun _ => []) (fun _ => []) (fun _ => none) (fun k => w.heap.size ≤ k) ∧ Below w.heap.size w w' := by
  have hmm := @run_makeMap Try.prog
  have hu1 := Try.underlying60
  have hu2 := Try.underlying61
  have hu3 := Try.underlying62
  go_enter Try.func9, Try.ntmps9
  go_wp2
  go_ret
  have hB := ((((Below.refl w.heap.size w).alloc (Nat.le_refl _) (.map #[] 0)).alloc (by simp <;> omega) (.map #[] 0)).alloc (by simp <;> omega) (.map #[] 0)).alloc (by simp <;> omega) (.cells #[.map (some w.heap.size), .map (some (w.heap.size + 1)), .map (some (w.heap.size + 1 + 1))] 64)
  refine ⟨_, rfl, ⟨w.heap.size + 1 + 1 + 1, w.heap.size, w.heap.size + 1, w.heap.size + 1 + 1, fun _ => .own, fun _ => .pointer none, fun _ => .pointer none, rfl, ?_⟩, hB⟩
  have m1 := MapFn.made w Value.string
  have m2 := MapFn.made (w.alloc (.map #[] 0)) Value.string
  have m3 := MapFn.made ((w.alloc (.map #[] 0)).alloc (.map #[] 0)) encU
  have b4 := heap_alloc_new (((w.alloc (.map #[] 0)).alloc (.map #[] 0)).alloc (.map #[] 0)) (.cells #[.map (some w.heap.size), .map (some (w.heap.size + 1)), .map (some (w.heap.size + 1 + 1))] 64)
  simp only [World.size_alloc] at m2 m3 b4
  refine { blk := b4, mv := ?_, mq := ?_, mw := ?_, piles := fun n hn => (hn rfl).elim, lines := fun n hn => (hn rfl).elim, who := fun k n => by simp , sx := ⟨by omega, by omega, by omega, by omega⟩, cx := ⟨rfl, rfl, rfl, rfl⟩, ne := ⟨by omega, by omega, by omega, by omega, by omega, by omega⟩ }
  · rw [show vmap (fun _ => ([] : List VV)) (fun _ => Value.pointer none) = fun _ => none from rfl]
    exact m1.frame (by rw [Below.heap_alloc _ _ _ (by simp <;> omega), Below.heap_alloc _ _ _ (by simp <;> omega), Below.heap_alloc _ _ _ (by simp <;> omega)])
  · rw [show vmap (fun _ => ([] : List Nat)) (fun _ => Value.pointer none) = fun _ => none from rfl]
    exact m2.frame (by rw [Below.heap_alloc _ _ _ (by simp <;> omega), Below.heap_alloc _ _ _ (by simp <;> omega)])
  · exact m3.frame (by rw [Below.heap_alloc _ _ _ (by simp <;> omega)])

set_option maxRecDepth 100000 in
set_option maxHeartbeats 1000000 in
theorem icount_any (x : Value) (name : ByteArray) (V : ByteArray → List VV) (Q : ByteArray → List Nat) (W : Nat → Option ByteArray) (S : Nat → Prop) (w : World) (h : IRep w x V Q W S) :
    Calls Try.prog 17 #[x, .string name] w fun e w' => e = .returned (.int .i64 (V name).length) ∧ w = w' := by
  obtain ⟨bx, bv, bq, bw, col, pv, pq, rfl, h⟩ := h
  have hc0 := cellAt h.blk 0 (v := .map (some bv)) rfl
  have hlk := look_v h.mv name false
  have HP := Lib.hid (h.piles name)
  clear h
  by_cases hn : V name = []
  · rw [vmap_none hn] at hlk
    simp only [Option.getD_none, Option.isSome_none, Bool.false_eq_true, if_false] at hlk
    have HN : Hid ((V name).length = 0) := by rw [hn]; rfl
    clear hn HP
    generalize (V name).length = n at *
    go_enter Try.func17, Try.ntmps17
    go_wp2
    go_ret
    exact ⟨by rw [HN.out]; rfl, rfl⟩
  · rw [vmap_some hn] at hlk
    simp only [Option.getD_some, Bool.false_eq_true, if_false] at hlk
    obtain ⟨bp, lv, R, hp, hb, hr, -⟩ := HP.out hn
    rw [hp] at hlk
    obtain ⟨-, ao, c, rfl, -, -, -⟩ := hr.reads
    have hcl := cellAt hb 0 (v := .slice ao (V name).length c) rfl
    clear HP hn hp hb hr
    generalize (V name).length = n at *
    go_enter Try.func17, Try.ntmps17
    go_wp2
    go_ret
    exact ⟨rfl, rfl⟩

set_option maxRecDepth 100000 in
set_option maxHeartbeats 1000000 in
theorem iwaiting_any (x : Value) (name : ByteArray) (V : ByteArray → List VV) (Q : ByteArray → List Nat) (W : Nat → Option ByteArray) (S : Nat → Prop) (w : World) (h : IRep w x V Q W S) :
    Calls Try.prog 14 #[x, .string name] w fun e w' => ∃ v, e = .returned v ∧ w'.ownsRow w.heap.size 27 1 v (Q name).length (u64V (Q name)) ∧ Below w.heap.size w w' := by
  obtain ⟨bx, bv, bq, bw, col, pv, pq, rfl, h⟩ := h
  have hc1 := cellAt h.blk 1 (v := .map (some bq)) rfl
  have hlk := look_q h.mq name false
  have HP := Lib.hid (h.lines name)
  clear h
  by_cases hn : Q name = []
  · rw [vmap_none hn] at hlk
    simp only [Option.getD_none, Option.isSome_none, Bool.false_eq_true, if_false] at hlk
    rw [hn]
    clear hn HP
    go_enter Try.func14, Try.ntmps14
    go_wp2_with fail
    refine (qlist_nil _).mono ?_
    rintro e w1 ⟨rfl, rfl⟩
    go_wp2
    go_ret
    exact ⟨_, rfl, World.ownsRow_nil _ _ _ _, Below.refl _ _⟩
  · rw [vmap_some hn] at hlk
    simp only [Option.getD_some, Bool.false_eq_true, if_false] at hlk
    have HL := Lib.hid (qlist_any _ _ _ w (HP.out hn))
    generalize pq name = p at *
    clear HP hn
    go_enter Try.func14, Try.ntmps14
    go_wp2_with fail
    refine HL.out.mono ?_
    rintro e w1 ⟨v, rfl, h1, h2⟩
    have H1 := Lib.hid h1
    have H2 := Lib.hid h2
    clear h1 h2
    go_wp2
    go_ret
    exact ⟨_, rfl, H1.out, H2.out⟩
end Go.Proofs.Ytbofbboogmeneaa
