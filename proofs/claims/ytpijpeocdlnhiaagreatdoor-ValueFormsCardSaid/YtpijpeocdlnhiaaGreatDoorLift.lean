/- From a walk to a given statement: what all laws share. -/
import Derived.Test.YtpijpeocdlnhiaaGreatDoorRows
import Derived.Test.YtpijpeocdlnhiaaGreatDoorHeap
import Derived.ProofKit
import Derived.OpenShut
import Derived.Carry
namespace Go.Proofs.YtpijpeocdlnhiaaGreatDoor
set_option linter.unusedVariables false
set_option linter.unusedSimpArgs false
open Go.ChangeShapes Go.WideShapes Go.ChangeAt Go.RowKit

theorem own : ownKnob Tryz.prog.godebug = none := by kernel_rfl
theorem laidOut : laidOutB Tryz.prog = true := by kernel_rfl

section
variable {H : Type} {enc : TypeId × Value → H}

theorem trodAll_below {W W' : World} (bel : Below W.heap.size W W') : ∀ {ts : List TypeId} {vs : List Value} {ds : List (DataW H)} {ps : List MemPlace},
    (∀ t ∈ ts, Tryz.prog.readableRec t = true ∧ t < Tryz.prog.types.size) → DataW.TrodAll enc Tryz.prog W 0 (fun _ => true) true ts vs ds ps → DataW.TrodAll enc Tryz.prog W' 0 (fun b => decide (b < W.heap.size)) true ts vs ds ps
  | [], vs, ds, ps, _, h => by
    obtain ⟨rfl, rfl, rfl⟩ := trodAll_nil h
    exact trodAll_mk0
  | t :: ts, vs, ds, ps, hr, h => by
    obtain ⟨v, vs', d, ds', p, q, rfl, rfl, rfl, h0, r0⟩ := trodAll_cons h
    obtain ⟨h1, h2⟩ := hr t (List.mem_cons_self ..)
    have lt0 : ∀ x ∈ p, x.block < W.heap.size := by obtain ⟨m, hm⟩ := h0; exact DataW.trod_lt m _ _ _ hm
    exact trodAll_cons_mk (Below.trod laidOut h1 h2 h0 bel lt0) (trodAll_below bel (fun t' ht' => hr t' (List.mem_cons_of_mem _ ht')) r0)

/-- A law that has returned true and left all old blocks as they were keeps what its row says. -/
theorem law_post {f : Func} {s : ChangeSpec} {W W' : World} {args : Array Value} {ds : List (DataW H)} {before : List MemPlace} {v : Value}
    (hv : v = .bool true) (hrt : f.resultTypes = #[4]) (hvars : s.vars = []) (hr : ∀ t ∈ f.params.toList, Tryz.prog.readableRec t = true ∧ t < Tryz.prog.types.size)
    (hs : s.fn H (ds ++ []) = { results := [.lit (.bool true)], args := ds }) (hW : DataW.Whole enc Tryz.prog f.params.toList s.vars false W args.toList ds [] before)
    (bel : Below W.heap.size W W') : s.post enc Tryz.prog f false true false false W args v W' := by
  subst hv
  have hA : ∃ p, DataW.TrodAll enc Tryz.prog W 0 (fun _ => true) true f.params.toList args.toList ds p := by obtain ⟨p, q, hA, -⟩ := hW; exact ⟨p, hA⟩
  obtain ⟨p, hA⟩ := hA
  refine ⟨ds, [], before, [], p, [], hW, ?_, ?_, ?_, bel.frame _, fun h => by cases h⟩
  · rw [hs, hrt]; exact trodAll_mk1 (shut_bool Tryz.underlying4 _)
  · rw [hs]; exact trodAll_below bel hr hA
  · rw [hvars, hs]; rfl
end

set_option maxRecDepth 100000 in
/-- A slice of bytes that came in. -/
theorem open_u8s {H : Type} {enc : TypeId × Value → H} {W : World} {base : Nat} {v : Value} {d : DataW H} {p : List MemPlace} (hval : Value.okWide Tryz.prog W .any base 33 v) (h : DataW.Trod enc Tryz.prog W 0 (fun _ => true) true 33 v d p) :
    ∃ xs : List Nat, Reads W v xs.length 1 (xs.map fun b : Nat => Value.int .u8 (b : Int)) ∧ xs.length ≤ maxLen ∧ ∀ b ∈ xs, b < 256 := by
  obtain ⟨a0, len0, cap0, rfl⟩ := okWide_slice Tryz.underlying33 hval
  obtain ⟨fuel, hf⟩ := h
  rcases open_ints Tryz.underlying33 Tryz.underlying5 (by kernel_rfl) hf with ⟨hcs, _⟩ | ⟨a, len, cap, zs, hcs, _, hl, hm, hz, _, hcell, hw⟩
  · simp [Value.cells] at hcs
    obtain ⟨rfl, rfl, rfl⟩ := hcs
    exact ⟨[], Reads.nil _ _, Nat.zero_le _, by simp⟩
  · simp [Value.cells] at hcs
    obtain ⟨rfl, rfl, rfl⟩ := hcs
    simp only [if_true] at hz
    have hlz : ((zs.take len0).map Int.toNat).length = len0 := by rw [List.length_map, List.length_take]; omega
    refine ⟨(zs.take len0).map Int.toNat, ?_, by rw [hlz]; omega, fun b hb => ?_⟩
    · rw [hlz]
      refine ⟨by rw [List.length_map, hlz, Nat.mul_one], _, cap0, rfl, hl, (fun h => by cases h), fun ad had j u hu => ?_⟩
      cases had
      rw [List.getElem?_map] at hu
      obtain ⟨s, hs, rfl⟩ := Option.map_eq_some_iff.1 hu
      have hj : j < len0 := by have := (List.getElem?_eq_some_iff.1 hs).1; omega
      rw [hcell j (by omega)]
      rw [List.getElem?_map, List.getElem?_take_of_lt hj] at hs
      obtain ⟨z, hz', rfl⟩ := Option.map_eq_some_iff.1 hs
      have hb := range_u8 hw j
      rw [hz'] at hb
      rw [show zs.getD j 0 = z by simp [List.getD, hz']]
      simp only [Option.getD_some] at hb
      congr 2; omega
    · obtain ⟨z, hz', rfl⟩ := List.mem_map.1 hb
      have hb := hw z (List.mem_of_mem_take hz')
      have h1 : IntKind.u8.max = 255 := rfl
      simp only [Lit.wf, Bool.and_eq_true, decide_eq_true_eq] at hb
      omega
end Go.Proofs.YtpijpeocdlnhiaaGreatDoor
