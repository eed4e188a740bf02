/- Texts for scanBegins_holds, joined: WLift, OpenLists, WideFacts, ScanBeginsProof. -/
import Derived.Test.YtgdmdbdljmlkkaaGreatDoorRows
import Derived.Test.YtgdmdbdljmlkkaaGreatDoorBg02
import Derived.ProofKit
import Derived.OpenShut
import Derived.Carry
import Derived.Test.YtgdmdbdljmlkkaaGreatDoorCards
import Derived.Test.YtgdmdbdljmlkkaaGreatDoorTie
import Derived.Test.YtgdmdbdljmlkkaaGreatDoorBg15
import Derived.Test.YtgdmdbdljmlkkaaGreatDoorBg17
import Derived.Shelf.Strconv.Itoa0
import Derived.LaidMore
import Derived.Lay
import Derived.Stop.Joined
import Derived.SevenTiedAt
import Derived.Test.YtgdmdbdljmlkkaaGreatDoorBg27
import Derived.ChangeArms
import Derived.Deep.Slices
import Derived.Test.YtgdmdbdljmlkkaaGreatDoorBg40
import Derived.JoinedOf
namespace Go.Proofs.YtgdmdbdljmlkkaaGreatDoor
set_option linter.unusedVariables false
set_option linter.unusedSimpArgs false
open Go.ChangeShapes Go.WideShapes Go.ChangeAt Go.RowKit
theorem own : ownKnob Tryz.prog.godebug = none := by kernel_rfl
theorem laidOut : laidOutB Tryz.prog = true := by kernel_rfl
section
variable {H : Type} {enc : TypeId × Value → H}
theorem trodAll_below {W W' : World} (bel : Below W.heap.size W W') : ∀ {ts : List TypeId} {vs : List Value} {ds : List (DataW H)} {ps : List MemPlace},
    (∀ t ∈ ts, Tryz.prog.readableRec t = true ∧ t < Tryz.prog.types.size) → DataW.TrodAll enc Tryz.prog W 0 (fun _ => true) true ts vs ds ps → DataW.TrodAll enc Tryz.prog W' 0 (fun b => decide (b < W.heap.size)) true ts vs ds ps
  | [], vs, ds, ps, _, h => by
    obtain ⟨rfl, rfl, rfl⟩ := trodAll_nil h
    exact trodAll_mk0
  | t :: ts, vs, ds, ps, hr, h => by
    obtain ⟨v, vs', d, ds', p, q, rfl, rfl, rfl, h0, r0⟩ := trodAll_cons h
    obtain ⟨h1, h2⟩ := hr t (List.mem_cons_self ..)
    have lt0 : ∀ x ∈ p, x.block < W.heap.size := by obtain ⟨m, hm⟩ := h0; exact DataW.trod_lt m _ _ _ hm
    exact trodAll_cons_mk (Below.trod laidOut h1 h2 h0 bel lt0) (trodAll_below bel (fun t' ht' => hr t' (List.mem_cons_of_mem _ ht')) r0)
/-- A law that has returned true and left all old blocks as they were keeps what its row says. -/
theorem law_post {f : Func} {s : ChangeSpec} {W W' : World} {args : Array Value} {ds : List (DataW H)} {before : List MemPlace} {v : Value}
    (hv : v = .bool true) (hrt : f.resultTypes = #[4]) (hvars : s.vars = []) (hr : ∀ t ∈ f.params.toList, Tryz.prog.readableRec t = true ∧ t < Tryz.prog.types.size)
    (hs : s.fn H (ds ++ []) = { results := [.lit (.bool true)], args := ds }) (hW : DataW.Whole enc Tryz.prog f.params.toList s.vars false W args.toList ds [] before)
    (bel : Below W.heap.size W W') : s.post enc Tryz.prog f false true false false W args v W' := by
  subst hv
  have hA : ∃ p, DataW.TrodAll enc Tryz.prog W 0 (fun _ => true) true f.params.toList args.toList ds p := by obtain ⟨p, q, hA, -⟩ := hW; exact ⟨p, hA⟩
  obtain ⟨p, hA⟩ := hA
  refine ⟨ds, [], before, [], p, [], hW, ?_, ?_, ?_, bel.frame _, fun h => by cases h⟩
  · rw [hs, hrt]; exact trodAll_mk1 (shut_bool Tryz.underlying4 _)
  · rw [hs]; exact trodAll_below bel hr hA
  · rw [hvars, hs]; rfl
end
end Go.Proofs.YtgdmdbdljmlkkaaGreatDoor
namespace Go.Proofs.YtgdmdbdljmlkkaaGreatDoor
set_option linter.unusedVariables false
set_option linter.unusedSimpArgs false
open Go.ChangeShapes Go.WideShapes Go.ChangeAt Go.RowKit
abbrev laidD : List (String × DataW Unit) := Rows.walMatchesRow.laid
theorem laid_met (os : Os) (args : Array Value) : laidMetH Tryz.prog laidD ((World.laidAll Tryz.prog os laidD).forCall (fun _ _ => 0) ⟨#[], args, []⟩).memory := by
  rw [MakeChecks.laidMetH_plain _ _ _ (by kernel_rfl)]
  exact laidMet_laidAll _ (by kernel_rfl) (by kernel_rfl)
theorem cellsU8 : Tryz.prog.cellsOf 5 = 1 := by kernel_rfl
theorem gPow : Tryz.prog.globalNamed powName = some 0 := by kernel_rfl
theorem gPowType : (Tryz.prog.globals[0]?).map (·.type) = some 282 := by kernel_rfl
theorem cellsU64 : Tryz.prog.cellsOf 233 = 1 := by kernel_rfl
theorem cellsPow : Tryz.prog.cellsOf 282 = 20 := by kernel_rfl
theorem tab_of_laid {W : World} (h : laidMetH Tryz.prog laidD W) : Tab W := by
  rw [MakeChecks.laidMetH_plain _ _ _ (by kernel_rfl)] at h
  have h3 := laidMet.filter (fun x => x.1 == powName) h
  exact Lib.tabIs_of_head gPow gPowType Tryz.underlying282 Tryz.underlying233 cellsU64 cellsPow (rest := []) (by exact h3)
end Go.Proofs.YtgdmdbdljmlkkaaGreatDoor
namespace Go.Proofs.YtgdmdbdljmlkkaaGreatDoor
set_option linter.unusedVariables false
set_option linter.unusedSimpArgs false
open Go.RowKit Go.ChangeShapes Go.WideShapes Go.Deep
theorem list_of {α : Type} {p : Nat → α → Prop} : ∀ n : Nat, (∀ i, i < n → ∃ t, p i t) → ∃ ts : List α, ts.length = n ∧ ∀ i (h1 : i < ts.length), p i ts[i]
  | 0, _ => ⟨[], rfl, fun i h1 => absurd h1 (Nat.not_lt_zero i)⟩
  | n + 1, h => by
    obtain ⟨ts, h1, h3⟩ := list_of n (fun i hi => h i (by omega))
    obtain ⟨t, hp⟩ := h n (by omega)
    refine ⟨ts ++ [t], by simp [h1], fun i hi1 => ?_⟩
    rcases Nat.lt_or_ge i n with hlt | hge
    · rw [List.getElem_append_left (by omega)]
      exact h3 i _
    · have : i = n := by simp at hi1; omega
      subst this
      simp only [List.getElem_append_right (Nat.le_of_eq h1), h1, Nat.sub_self, List.getElem_cons_zero]
      exact hp
theorem open_bytes {H : Type} {enc : TypeId × Value → H} {W : World} {sp : Nat → Bool} {held : Bool} {base fuel : Nat} {c : Value} {x : DataW H × List MemPlace} (hf : DataW.trod enc Tryz.prog W base sp held fuel 72 [c] = some x) :
    ∃ (b : List UInt8) (a : Option Addr) (k : Nat), c = .slice a b.length k ∧ Reads W (.slice a b.length k) b.length 1 (byts b) ∧ (∀ ad, a = some ad → 0 < b.length → ad.block < W.heap.size) ∧ b.length ≤ maxLen := by
  rcases open_ints Tryz.underlying72 Tryz.underlying5 cellsU8 hf with ⟨hcs, hx⟩ | ⟨a, len, cap, zs, hcs, _, hl, hm, hz, hx, hcell, hwz⟩
  · simp only [List.cons.injEq, and_true] at hcs
    subst hcs
    exact ⟨[], none, 0, rfl, Reads.nil _ _, (fun ad h _ => by cases h), Nat.zero_le _⟩
  · simp only [List.cons.injEq, and_true] at hcs
    subst hcs
    have hzl : len ≤ zs.length := by rw [hz]; split <;> omega
    have hlen : ((zs.take len).map fun n => UInt8.ofNat n.toNat).length = len := by simp; omega
    have hrd : Reads W (.slice (some a) len cap) len 1 (byts ((zs.take len).map fun n => UInt8.ofNat n.toNat)) := by
      refine ⟨by rw [byts_length, hlen, Nat.mul_one], _, cap, rfl, hl, (fun h => by cases h), fun ad had j u hu => ?_⟩
      cases had
      have hj : j < len := by have := (List.getElem?_eq_some_iff.1 hu).1; rw [byts_length, hlen] at this; exact this
      rw [hcell j (by omega), ← hu, byts, List.getElem?_map, List.getElem?_map, List.getElem?_take_of_lt hj, List.getElem?_eq_getElem (show j < zs.length by omega)]
      have hb := range_u8 hwz j
      rw [List.getElem?_eq_getElem (show j < zs.length by omega)] at hb
      simp only [Option.getD_some] at hb
      simp only [Option.map_some, u8v, List.getD_eq_getElem?_getD, List.getElem?_eq_getElem (show j < zs.length by omega), Option.getD_some]
      congr 2
      simp only [UInt8.toNat_ofNat']
      omega
    refine ⟨(zs.take len).map fun n => UInt8.ofNat n.toNat, some a, cap, by rw [hlen], by rw [hlen]; exact hrd, fun ad had h0 => ?_, by rw [hlen]; omega⟩
    cases had
    rw [hlen] at h0
    exact World.block_lt_of_cell? W a (by have := hcell 0 (by omega); simpa [Addr.add] using this)
set_option maxRecDepth 100000 in
theorem open_lists0 {H : Type} {enc : TypeId × Value → H} {W : World} {base : Nat} {sp : Nat → Bool} {held : Bool} {v : Value} {fuel : Nat} {d : DataW H} {p : List MemPlace} (hf : DataW.trod enc Tryz.prog W base sp held fuel 42 [v] = some (d, p))
    (hwt : ∀ n ∈ d.weights Tryz.prog 42, n ≤ 140737488351232) : ∃ (P : List SL) (a : Option Addr) (c : Nat), v = .slice a P.length c ∧ SLs W (.slice a P.length c) P ∧ P.length ≤ 5864062014805 ∧ ∀ x ∈ P, x.l.length ≤ 9223372036854775807 := by
  have hC : Tryz.prog.cellsOf 72 = 1 := by kernel_rfl
  rcases DataW.trod_slice Tryz.underlying42 hf with ⟨h4, -⟩ | ⟨a, len, cap, elems, rest, n', rfl, h4, hx, hb, hlc, hcm, hel, hget, -⟩
  · simp only [List.cons.injEq, and_true] at h4
    subst h4
    exact ⟨[], none, 0, rfl, ⟨Reads.nil _ _, by simp⟩, Nat.zero_le _, by simp⟩
  · simp only [List.cons.injEq, and_true] at h4
    subst h4
    obtain ⟨hd, -⟩ := Prod.mk.inj hx
    subst hd
    have hB : Tryz.prog.bytesOf 72 = 24 := by kernel_rfl
    have hwu : (DataW.slice (elems.map (·.1)) (rest.map (·.1))).weights Tryz.prog 42 = ((elems.map (·.1)).length + (rest.map (·.1)).length) * Tryz.prog.bytesOf 72 :: (DataW.weightsAll Tryz.prog 72 (elems.map (·.1)) ++ DataW.weightsAll Tryz.prog 72 (rest.map (·.1))) := by
      rw [DataW.weights, Tryz.underlying42]
    have hw0 : len * 24 ≤ 140737488351232 := by
      have := hwt _ (by rw [hwu]; exact List.mem_cons_self ..)
      rw [hB, List.length_map, hel] at this
      omega
    obtain ⟨l, l1, hall⟩ := list_of (p := fun i (o : SL) => (Reads W o.v o.l.length 1 (byts o.l) ∧ o.l.length ≤ maxLen) ∧ W.cell? (a.add i) = some o.v) len (fun i hi => by
      have := hget i hi
      rw [List.getElem?_eq_getElem (by rw [hel]; exact hi), hC] at this
      obtain ⟨cs', h1, h2⟩ := Option.bind_eq_some_iff.1 this
      obtain ⟨_, hlen, hcell⟩ := World.cells?_some h1
      match cs', hlen, h1, h2, hcell with
      | [c], _, h1, h2, hcell =>
        obtain ⟨b, ba, k, rfl, hr, -, hl⟩ := open_bytes h2
        refine ⟨⟨.slice ba b.length k, b⟩, ⟨hr, hl⟩, ?_⟩
        have := hcell 0 (by decide)
        rw [add_add, Nat.add_zero] at this
        simpa using this)
    subst l1
    refine ⟨l, some a, cap, rfl, ⟨⟨by simp, some a, cap, rfl, hlc, (fun h => by cases h), fun ad had j u hu => ?_⟩, fun x hx => ?_⟩, by omega, fun x hx => ?_⟩
    · cases had
      rw [List.getElem?_map] at hu
      obtain ⟨x, hx1, rfl⟩ := Option.map_eq_some_iff.1 hu
      obtain ⟨hj, rfl⟩ := List.getElem?_eq_some_iff.1 hx1
      exact (hall j hj).2
    · obtain ⟨i, hi, rfl⟩ := List.mem_iff_getElem.1 hx
      exact (hall i hi).1.1
    · obtain ⟨i, hi, rfl⟩ := List.mem_iff_getElem.1 hx
      have := (hall i hi).1.2
      unfold maxLen at this
      omega
set_option maxRecDepth 100000 in
theorem open_lists {H : Type} {enc : TypeId × Value → H} {W : World} {base b0 : Nat} {sp : Nat → Bool} {held : Bool} {v : Value} {d : DataW H} {p : List MemPlace} (hval : Value.okWide Tryz.prog W .any b0 42 v)
    (h : DataW.Trod enc Tryz.prog W base sp held 42 v d p) (hwt : ∀ n ∈ d.weights Tryz.prog 42, n ≤ 140737488351232) : ∃ (P : List SL) (a : Option Addr) (c : Nat), v = .slice a P.length c ∧ SLs W (.slice a P.length c) P ∧ P.length ≤ 5864062014805 ∧ ∀ x ∈ P, x.l.length ≤ 9223372036854775807 := by
  obtain ⟨a0, len0, cap0, rfl⟩ := okWide_slice Tryz.underlying42 hval
  obtain ⟨fuel, hf⟩ := h
  exact open_lists0 hf hwt
end Go.Proofs.YtgdmdbdljmlkkaaGreatDoor
namespace Go.Proofs.YtgdmdbdljmlkkaaGreatDoor
set_option linter.unusedVariables false
set_option linter.unusedSimpArgs false
open Go.RowKit Go.ChangeShapes Go.WideShapes Go.Deep
end Go.Proofs.YtgdmdbdljmlkkaaGreatDoor
namespace Go.Proofs.YtgdmdbdljmlkkaaGreatDoor
open Go.ChangeShapes Go.WideShapes
set_option maxRecDepth 100000
theorem wfLaid : laidOutB Tryz.prog = true := by kernel_rfl
theorem wfMaps : mapsRowed Tryz.prog = true := by kernel_rfl
theorem wfStops : (Tryz.prog.stops == []) = true := by kernel_rfl
theorem wfKnobs : (Tryz.prog.stopKnobs == []) = true := by kernel_rfl
theorem wfHeard : Tryz.prog.stopsHeard = true := by kernel_rfl
theorem wfEnter : Tryz.prog.mayEnter = true := by kernel_rfl
theorem wfLifts : Tryz.prog.liftsFinal = Rows.walMatchesRow.lifted := by kernel_rfl
theorem wfMake : Tryz.prog.make = some Rows.walMatchesRow.make := by kernel_rfl
theorem wfKeys : Tryz.prog.plainKeys = Rows.walMatchesRow.plainKeys := by kernel_rfl
theorem wfLooks : Tryz.prog.looks [] = false := by kernel_rfl
theorem wfMain : Tryz.prog.mainIs = some (Rows.walMatchesCard.stood.harness.1, Rows.walMatchesCard.stood.harness.2.toList) := by kernel_rfl
end Go.Proofs.YtgdmdbdljmlkkaaGreatDoor
namespace Go.Proofs.YtgdmdbdljmlkkaaGreatDoor
open Go.ChangeShapes Go.WideShapes
set_option maxRecDepth 100000
theorem andTwoScanBegins {a b : Bool} (ha : a = true) (hb : b = true) : (a && b) = true := by rw [ha, hb]; rfl
theorem namedScanBegins : Tryz.prog.funcNamed Rows.scanBeginsRow.func = some 8 := by kernel_rfl
set_option maxHeartbeats 0 in
theorem joinedScanBegins : joinedFacts Tryz.prog 8 Tryz.f8 Rows.scanBeginsSpec Rows.scanBeginsRow = true := by
  unfold joinedFacts
  rw [wfLaid, wfMaps, wfStops, wfKnobs, wfHeard, wfEnter, wfLifts, wfMake, wfKeys]
  repeat' (with_reducible apply andTwoScanBegins)
  all_goals (as_aux_lemma => kernel_rfl)
theorem instScanBegins : Tryz.f8.isInstance Tryz.prog Rows.scanBeginsRow.origin Rows.scanBeginsRow.targs :=
  of_decide_eq_true (by kernel_rfl)
theorem readableScanBegins : ∀ t ∈ Tryz.f8.params.toList, Tryz.prog.readableRec t = true ∧ t < Tryz.prog.types.size := by
  rw [Tryz.params8]
  intro t ht
  have hall : ([69, 42, 40].all fun u => Tryz.prog.readableRec u && decide (u < Tryz.prog.types.size)) = true := by kernel_rfl
  have h := List.all_eq_true.1 hall t (by simpa using ht)
  simpa using h
theorem standScanBegins (j : Nat) (t : TypeId) (ht : Tryz.f8.params[j]? = some t) : Tryz.prog.wantsStandIn t = false := by
  rw [Tryz.params8] at ht
  have hm : t ∈ [69, 42, 40] := by simpa using Array.mem_of_getElem? ht
  have hall : ([69, 42, 40].all fun u => !Tryz.prog.wantsStandIn u) = true := by kernel_rfl
  simpa using List.all_eq_true.1 hall t hm
theorem goesScanBegins : false = Rows.scanBeginsRow.goesBy Tryz.prog := by kernel_rfl
theorem byTextScanBegins : Rows.scanBeginsRow.wfByText (OpenSpec.ofChange Rows.scanBeginsSpec) = true := by kernel_rfl
end Go.Proofs.YtgdmdbdljmlkkaaGreatDoor
namespace Go.Proofs.YtgdmdbdljmlkkaaGreatDoor
set_option linter.unusedVariables false
set_option linter.unusedSimpArgs false
open Go.ChangeShapes Go.WideShapes Go.ChangeAt Go.RowKit Go.Deep
theorem cellsInt : Tryz.prog.cellsOf 3 = 1 := by kernel_rfl
set_option maxRecDepth 100000 in
/-- A list of numbers that came in. -/
theorem open_nums {H : Type} {enc : TypeId × Value → H} {W : World} {sp : Nat → Bool} {held : Bool} {base fuel : Nat} {c : Value} {x : DataW H × List MemPlace} (hf : DataW.trod enc Tryz.prog W base sp held fuel 40 [c] = some x) :
    ∃ (b : List Int) (a : Option Addr) (k : Nat), c = .slice a b.length k ∧ Reads W (.slice a b.length k) b.length 1 (b.map (Value.int .i64)) ∧ (∀ ad, a = some ad → 0 < b.length → ad.block < W.heap.size) ∧ b.length ≤ maxLen := by
  rcases open_ints Tryz.underlying40 Tryz.underlying3 cellsInt hf with ⟨hcs, hx⟩ | ⟨a, len, cap, zs, hcs, _, hl, hm, hz, hx, hcell, hwz⟩
  · simp only [List.cons.injEq, and_true] at hcs
    subst hcs
    exact ⟨[], none, 0, rfl, Reads.nil _ _, (fun ad h _ => by cases h), Nat.zero_le _⟩
  · simp only [List.cons.injEq, and_true] at hcs
    subst hcs
    have hzl : len ≤ zs.length := by rw [hz]; split <;> omega
    have hlen : (zs.take len).length = len := by simp; omega
    have hrd : Reads W (.slice (some a) len cap) len 1 ((zs.take len).map (Value.int .i64)) := by
      refine ⟨by rw [List.length_map, hlen, Nat.mul_one], _, cap, rfl, hl, (fun h => by cases h), fun ad had j u hu => ?_⟩
      cases had
      have hj : j < len := by have := (List.getElem?_eq_some_iff.1 hu).1; rw [List.length_map, hlen] at this; exact this
      rw [hcell j (by omega), ← hu, List.getElem?_map, List.getElem?_take_of_lt hj, List.getElem?_eq_getElem (show j < zs.length by omega)]
      simp only [Option.map_some, List.getD_eq_getElem?_getD, List.getElem?_eq_getElem (show j < zs.length by omega), Option.getD_some]
    refine ⟨zs.take len, some a, cap, by rw [hlen], by rw [hlen]; exact hrd, fun ad had h0 => ?_, by rw [hlen]; omega⟩
    cases had
    rw [hlen] at h0
    exact World.block_lt_of_cell? W a (by have := hcell 0 (by omega); simpa [Addr.add] using this)
set_option maxRecDepth 100000 in
theorem open_keep {H : Type} {enc : TypeId × Value → H} {W : World} {base b0 : Nat} {sp : Nat → Bool} {held : Bool} {v : Value} {d : DataW H} {p : List MemPlace} (hval : Value.okWide Tryz.prog W .any b0 40 v) (h : DataW.Trod enc Tryz.prog W base sp held 40 v d p) :
    ∃ (ks : List Int) (a : Option Addr) (c : Nat), v = .slice a ks.length c ∧ Reads W (.slice a ks.length c) ks.length 1 (ks.map (Value.int .i64)) ∧ ks.length ≤ maxLen := by
  obtain ⟨a0, len0, cap0, rfl⟩ := okWide_slice Tryz.underlying40 hval
  obtain ⟨fuel, hf⟩ := h
  obtain ⟨b, a, k, h1, h2, -, h4⟩ := open_nums hf
  exact ⟨b, a, k, h1, h2, h4⟩
set_option maxRecDepth 100000 in
theorem open_two_u8 {H : Type} {enc : TypeId × Value → H} {W : World} {base b0 : Nat} {sp : Nat → Bool} {held : Bool} {v : Value} {d : DataW H} {p : List MemPlace} (hval : Value.okWide Tryz.prog W .any b0 69 v)
    (h : DataW.Trod enc Tryz.prog W base sp held 69 v d p) :
    ∃ a b : Int, v = .agg #[.int .u8 a, .int .u8 b] ∧ (Lit.int .u8 a).wf = true ∧ (Lit.int .u8 b).wf = true := by
  obtain ⟨cs, rfl, hcs⟩ : ∃ cs, v = .agg cs ∧ cs.size = Tryz.prog.cellsOf 69 := by
    simp only [Value.okWide, Tryz.underlying69] at hval
    obtain ⟨cs, h1, h2, _⟩ := hval
    exact ⟨cs, h1, h2⟩
  have hC : Tryz.prog.cellsOf 69 = 2 := by kernel_rfl
  have hC1 : Tryz.prog.cellsOf 5 = 1 := by kernel_rfl
  rw [hC] at hcs
  obtain ⟨c0, c1, rfl⟩ : ∃ c0 c1, cs = #[c0, c1] := by
    obtain ⟨l⟩ := cs
    match l, hcs with
    | [c0, c1], _ => exact ⟨c0, c1, rfl⟩
  obtain ⟨fuel, hf⟩ := h
  obtain ⟨xs, m, rfl, hx, -, hlen, hget⟩ := DataW.trod_array Tryz.underlying69 hf
  have g0 := hget 0 (by omega)
  have g1 := hget 1 (by omega)
  rw [hC1] at g0 g1
  match xs, hlen, g0, g1 with
  | [(d0, p0), (d1, p1)], _, g0, g1 =>
    obtain ⟨a, h0, -, w0⟩ := DataW.trod_int Tryz.underlying5 (show DataW.trod enc Tryz.prog W base sp held m 5 [c0] = some (d0, p0) from g0)
    obtain ⟨b, h1, -, w1⟩ := DataW.trod_int Tryz.underlying5 (show DataW.trod enc Tryz.prog W base sp held m 5 [c1] = some (d1, p1) from g1)
    simp only [List.cons.injEq, and_true] at h0 h1
    exact ⟨a, b, by rw [h0, h1], w0, w1⟩
set_option maxRecDepth 100000 in
theorem liftedScanBegins (os : Os) (started : os.Started) (H : Type) (enc : TypeId × Value → H) :
    ReturnsInHanded {} Tryz.checked os 8 .any (fun w args => (Rows.scanBeginsSpec.pre enc Tryz.prog Tryz.f8 [] false w args ∧ laidMetH Tryz.prog laidD w) ∧ sizedMet enc Tryz.prog Tryz.f8 (OpenSpec.ofChange Rows.scanBeginsSpec) false w args)
      (Rows.scanBeginsSpec.post enc Tryz.prog Tryz.f8 false true false false) := by
  refine returnsInHanded_of_change_and (C := Tryz.checked) (X := fun w _ => laidMetH Tryz.prog laidD w) (fun _ _ _ hh h => h.of_heap hh) own started (by kernel_rfl) Tryz.func8
    (ChangeSpec.witness_shaped (enc := enc) (C := Tryz.checked) (os := os) (X := fun w _ => laidMetH Tryz.prog laidD w) false (World.laidAll Tryz.prog os laidD) #[.agg #[.int .u8 0, .int .u8 0], .slice none 0 0, .slice none 0 0] 8 (World.laidAll_os _ _ _)
      (World.shaped_of_ZipB (by kernel_rfl) (by kernel_rfl)) (by kernel_rfl) (by kernel_rfl) (by kernel_rfl) (laid_met os _)) ?_
  intro W base args ds gs before hval0 hW _ hwt hL _
  have hval : ∀ (j : Nat) t v, Tryz.f8.params[j]? = some t → args[j]? = some v → Value.okWide Tryz.prog W .any base t v := hval0
  have hW' := hW
  obtain ⟨p, q, hA0, hV, -, hfz, hnd⟩ := hW'
  have hA : DataW.TrodAll enc Tryz.prog W 0 (fun _ => true) true Tryz.f8.params.toList args.toList ds p := hA0
  rw [Tryz.params8] at hA hval
  obtain ⟨v0, v1, v2, d0, d1, d2, p0, p1, p2, rfl, rfl, rfl, h0, h1, h2⟩ := trodAll_three hA
  obtain ⟨rfl, rfl⟩ := trodVars_none hV
  have hw1 : ∀ n ∈ d1.weights Tryz.prog 42, n ≤ 140737488351232 := fun n hn => by
    have h := List.all_eq_true.1 hwt n (by
      rw [Tryz.params8]
      show n ∈ DataW.weightsEach Tryz.prog (69 :: (42 :: _)) (_ :: (d1 :: _))
      rw [DataW.weightsEach, DataW.weightsEach]; exact List.mem_append_right _ (List.mem_append_left _ hn))
    exact of_decide_eq_true h
  obtain ⟨ma, sa, rfl, wm, ws⟩ := open_two_u8 (hval 0 69 v0 rfl rfl) h0
  obtain ⟨P, ba, bc, rfl, hP, hPl, hPe⟩ := open_lists (hval 1 42 v1 rfl rfl) h1 hw1
  obtain ⟨ks, ka, kc, rfl, hK, hKl⟩ := open_keep (hval 2 40 v2 rfl rfl) h2
  have hb0 := bounds_u8 wm
  have hb1 := bounds_u8 ws
  clear hA0 hval0
  refine (scanBegins_any ma sa ba bc P ka kc ks W hb0 hb1 hP hPl hPe hK (by unfold maxLen at hKl; omega) (tab_of_laid hL)).mono fun e W' ⟨he, bel⟩ => ?_
  subst he
  exact ⟨_, rfl, law_post rfl rfl rfl readableScanBegins rfl hW bel⟩
theorem rowScanBegins : Rows.ScanBeginsSaid :=
  OpenClaim.holds_of_wide 8 Tryz.f8 rfl rfl rfl rfl rfl rfl rfl ⟨rfl, rfl, rfl, rfl, rfl⟩ rfl rfl rfl rfl rfl namedScanBegins Tryz.func8 joinedScanBegins instScanBegins
    (by unfold Func.isWrapper; rw [if_neg (by decide +kernel)]; exact ⟨rfl, rfl⟩)
    (fun os started H enc _ => liftedScanBegins os started H enc)
theorem scanBegins_holds : Rows.ScanBeginsCardSaid :=
  Claim7.holds_tied_plain_at .later [] [.data, .data, .data, .data, .pinned] true _ false
    rowScanBegins (fun _ h => by cases h) byTextScanBegins (fun _ h => by cases h) scanBegins_row_tie rfl ⟨rfl, rfl⟩ wfMain rfl
    (fun f fn hf hfn => by
      obtain rfl : f = 8 := Option.some.inj (namedScanBegins.symm.trans hf) |>.symm
      obtain rfl : fn = Tryz.f8 := (Option.some.inj (Tryz.func8.symm.trans hfn)).symm
      exact ⟨wfLooks.symm, standScanBegins⟩)
    goesScanBegins
#print axioms scanBegins_holds
end Go.Proofs.YtgdmdbdljmlkkaaGreatDoor
