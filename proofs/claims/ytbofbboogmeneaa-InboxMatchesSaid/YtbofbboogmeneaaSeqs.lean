/- slices.AppendSeq onto a list that is there. -/
import Derived.Test.YtbofbboogmeneaaLayG
import Derived.Test.YtbofbboogmeneaaHeap
import Derived.RangeFuncFrom
import Derived.RangeFuncBox
import Derived.RangeFuncLeaves
import Derived.Maps.AppendAt
namespace Go.Proofs.Ytbofbboogmeneaa
set_option linter.unusedVariables false
set_option linter.unusedSimpArgs false
open Go.RowKit Go.Maps Go.Sort Go.Shelf Go.Proofs

attribute [local go_sem] Oper.semAt_some

theorem infoS : (Try.prog.info? 9).map (fun i => (i.zero, i.size, i.bytes)) = some (some (.string ⟨#[]⟩), 1, 16) := by kernel_rfl

set_option maxRecDepth 100000 in
set_option maxHeartbeats 2000000 in
theorem appendSeq_on (n : Nat) (hn : 2 ≤ n) (g : Nat) (lb : Array Value) (eg : ∀ args w, (callFunc g args).run Try.prog w = .ok (.enter g args) w) (S Sp : List (List UInt8) → Prop) (N : Nat) (w0 w : World) (v0 : Value) (ps : List (List UInt8))
    (hN : ps.length + N ≤ maxLen) (hNb : (ps.length + N) * 16 ≤ 140737488355328) (hrow0 : w.ownsRow w0.heap.size 9 1 v0 ps.length (ps.map encStr)) (hB0 : Below w0.heap.size w0 w) (hseq : SeqStops Fence.wide (n - 1) Try.prog g lb encStr S Sp N w) :
    CallsIn Fence.wide n Try.prog 41 #[v0, .func (.func g) #[] lb] w fun e W' => ∃ v ss, e = .returned v ∧ S ss ∧ W'.ownsRow w0.heap.size 9 1 v (ps.length + ss.length) ((ps ++ ss).map encStr) ∧ Below w0.heap.size w0 W' := by
  have h1 : 1 ≤ n := by omega
  have hro : Fence.wide.round = none := rfl
  obtain ⟨i0, hi, hz0, hz1, hz2⟩ := info_parts infoS
  refine callsIn_of_wp_marks Try.func41 rfl trivial ?_ hro
  simp only [Try.ntmps41, List.size_toArray, List.length_cons, List.length_nil, Nat.reduceAdd, Nat.reduceSub, Array.replicate_succ, Array.replicate_zero, List.push_toArray, List.append_toArray, List.nil_append, List.cons_append]
  have hcl : ∃ p a b, v0 = .slice p a b := by
    rcases hrow0.2 with ⟨rfl, _⟩ | ⟨g', cap', cur', rfl, _⟩
    · exact ⟨_, _, _, rfl⟩
    · exact ⟨_, _, _, rfl⟩
  obtain ⟨vp, vl, vc, rfl⟩ := hcl
  gi_wp2
  have bO := Boxed.new w 46 (.slice vp vl vc)
  have hB1 : Below w0.heap.size w0 (w.alloc (.cells #[.slice vp vl vc] 46)) := hB0.alloc hB0.size _
  refine wpIn_rangeFunc_ownF hro h1 (gf := g) (lb := lb) rfl trivial eg hseq walksK_t walksK_b ((Below.refl _ w).alloc (Nat.le_refl _) _) (fun _ => rfl)
    (fun pre W => (∃ v, Boxed W w.heap.size 46 v ∧ W.ownsRow w0.heap.size 9 1 v (ps.length + pre.length) ((ps ++ pre).map encStr) ∧ True) ∧ Below w0.heap.size w0 W)
    (fun _ _ _ => False)
    (OwnFrom.and (Own.from (holdsRow_own w0.heap.size w.heap.size 46 9 1 (fun pre => ps.length + pre.length) (fun pre => (ps ++ pre).map encStr) (fun pre v => True)) _) (ownFrom_below (Nat.le_refl _) (by have := hB0.size; simp; omega)))
    (fun _ _ _ _ _ hs _ _ => hs)
    ⟨⟨_, bO, by simpa using hrow0.alloc _, trivial⟩, hB1⟩
    (fun x => { tmps := #[.slice vp vl vc, .func (.func g) #[] lb, .pointer (some ⟨w.heap.size, 0, none⟩), undef, .slice none 0 0, encStr x, .func (.func g) #[] lb, encStr x, undef, undef, undef, undef, undef], defers := [] }) ?assign ?body ?done ?stop
  case assign =>
    intro l x W K hK
    gi_wp2
    exact hK
  case body =>
    rintro l pre x W ⟨⟨v, hv, hrow, -⟩, hB⟩ hlt
    have hc := hv.cell
    gi_wp2_with (gi_at_builtin; refine wpListIn_append_own _ rfl _ _ 46 rfl w0.heap.size 9 i0 (.string ⟨#[]⟩) 1 16 Try.underlying46 hi hz0 hz1 hz2 rfl (by decide) _ _ _ rfl (hrow.alloc _) ⟨W.heap.size, 0, none⟩ 1 1 [encStr x] rfl rfl (cell_one_new _ _ _) (by simp [Value.oneCell', encStr]) (by omega) (by omega) (by have := hB.size; simp; omega) ?_; intro v' w1 hown' hgrow _; obtain ⟨g', cap', rfl⟩ := ownsRow_succ hown'; obtain ⟨hv1, hv2, hr2, hk2, hb2⟩ := hv.appended (by decide) hrow hB.size (by have := hB0.size; omega) hown' hgrow; have hc1 := hv1.cell; have hf1 := hv1.frozen)
    exact ⟨hk2, hk2.walks, ⟨_, hv2, by simpa [Nat.add_assoc] using hr2, trivial⟩, hB.trans hb2⟩
  case done =>
    rintro D ys W hD hS ⟨⟨v, hv, hrow, -⟩, hB⟩ hK
    have hc := hv.cell
    gi_wp2
    refine ⟨by simp, .inl ⟨_, _, rfl, run_takeDeferred hK, ?_⟩⟩
    exact ⟨_, results_tmp rfl _ _ _, v, ys, rfl, hS, ownsRow_putObj hrow _ hK rfl, hB.trans (belowK_b (w := w) hB0.size W D _ _ (by simp at hD; omega) hK rfl rfl)⟩
  case stop =>
    rintro D c pre W _ _ h _
    exact h.elim
end Go.Proofs.Ytbofbboogmeneaa
