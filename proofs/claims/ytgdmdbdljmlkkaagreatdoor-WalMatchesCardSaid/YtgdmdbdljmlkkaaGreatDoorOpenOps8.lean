/- The law's operations: a list of Op that can be read, few of them; the reference's Put from any state.
A list of operations that came in, opened. -/
import Derived.Test.YtgdmdbdljmlkkaaGreatDoorRefPut2
import Derived.Test.YtgdmdbdljmlkkaaGreatDoorRefLog
import Derived.Test.YtgdmdbdljmlkkaaGreatDoorRuns
import Derived.Test.YtgdmdbdljmlkkaaGreatDoorDSeq
import Derived.Test.YtgdmdbdljmlkkaaGreatDoorOpenLists
namespace Go.Proofs.YtgdmdbdljmlkkaaGreatDoor
set_option linter.unusedVariables false
set_option linter.unusedSimpArgs false
open Go.RowKit

/-- An operation. -/
structure OW where
  k : Int
  a : Option Addr
  l : List UInt8
  c : Nat
  n : Int
def ocells (o : OW) : List Value := [.int .i64 o.k, .slice o.a o.l.length o.c, .int .i64 o.n]
theorem ocells_len : ∀ o, (ocells o).length = 3 := fun _ => rfl
def OW.sl (o : OW) : SL := ⟨.slice o.a o.l.length o.c, o.l⟩
structure Ows (w : World) (v : Value) (P : List OW) : Prop where
  rd : Reads w v P.length 3 (P.flatMap ocells)
  each : ∀ o ∈ P, Reads w (.slice o.a o.l.length o.c) o.l.length 1 (byts o.l)
  num : ∀ o ∈ P, -9223372036854775808 ≤ o.n ∧ o.n ≤ 9223372036854775807
theorem Ows.later {w w' : World} {v : Value} {P : List OW} (h : Ows w v P) (hb : Below w.heap.size w w') : Ows w' v P := ⟨h.rd.later hb, fun o ho => (h.each o ho).later hb, h.num⟩
theorem Ows.head {w : World} {a : Option Addr} {c : Nat} {P : List OW} (h : Ows w (.slice a P.length c) P) {j : Nat} (hj : j < P.length) :
    ∃ b o, a = some ⟨b, o, none⟩ ∧ P.length ≤ c ∧ b < w.heap.size ∧ w.cell? ⟨b, o + j * 3, none⟩ = some (.int .i64 P[j].k) ∧ w.cell? ⟨b, o + j * 3 + 1, none⟩ = some (.slice P[j].a P[j].l.length P[j].c) ∧
      w.cell? ⟨b, o + j * 3 + 2, none⟩ = some (.int .i64 P[j].n) := by
  obtain ⟨b, o, rfl, h1, -, h2, h3⟩ := h.rd.atN (by omega) (by decide)
  refine ⟨b, o, rfl, h1, h2, ?_, ?_, ?_⟩
  · exact h3 (j * 3) _ (by simpa using fm_get ocells_len (List.getElem?_eq_getElem hj) 0 _ rfl)
  · rw [Nat.add_assoc]; exact h3 (j * 3 + 1) _ (fm_get ocells_len (List.getElem?_eq_getElem hj) 1 _ rfl)
  · rw [Nat.add_assoc]; exact h3 (j * 3 + 2) _ (fm_get ocells_len (List.getElem?_eq_getElem hj) 2 _ rfl)

set_option maxRecDepth 100000 in
set_option maxHeartbeats 2000000 in
theorem few8_any (a : Option Addr) (c : Nat) (P : List OW) (w : World) (h : Ows w (.slice a P.length c) P) (hl : P.length ≤ 3518437208780) (he : ∀ o ∈ P, o.l.length ≤ 9223372036854775807) :
    Calls Tryz.prog 14 #[.slice a P.length c] w fun e w' => (∃ b, e = .returned (.bool b) ∧ (b = true → P.length ≤ 60 ∧ sumL (P.map OW.sl) ≤ 1500)) ∧ Below w.heap.size w w' := by
  have HP := Lib.hid h
  have HE := Lib.hid he
  clear h he
  go_enter Tryz.func14, Tryz.ntmps14
  go_wp2_with fail
  go_loopw [3, 8] (fun all i w' => ∃ m : Nat, m ≤ P.length ∧ i = .int .i64 m ∧ Hid (Row w' 72 1 all m ((P.take m).map fun o => o.sl.v) (fun k => w.heap.size ≤ k)) ∧ Hid (Below w.heap.size w w')) (fun _ i _ => P.length - (RowKit.intOf i).toNat)
  case atStart => exact ⟨0, by omega, rfl, Row.nil _ _ _ _, Below.refl _ _⟩
  case round =>
    obtain ⟨m, hm, rfl, HO, HB⟩ := hrel
    by_cases hlt : m < P.length
    · obtain ⟨b, o, rfl, hle, hb, c0, c1, c2⟩ := (HP.out.later HB.out).head hlt
      have HTK : Hid (((P.take (m + 1)).map fun o => o.sl.v) = ((P.take m).map fun o => o.sl.v) ++ [.slice P[m].a P[m].l.length P[m].c]) := by
        rw [Hid, List.take_succ_eq_append_getElem hlt, List.map_append]; rfl
      generalize P[m].k = ok at *
      generalize P[m].a = oa at *
      generalize P[m].l.length = ol at *
      generalize P[m].c = oc at *
      generalize P[m].n = on at *
      have hsz := HB.out.size
      have HBA : Hid (Below w.heap.size w (wr.alloc (.cells #[.int .i64 ok, .slice oa ol oc, .int .i64 on] 107))) := HB.out.alloc hsz _
      have HXA : Hid ((wr.alloc (.cells #[.int .i64 ok, .slice oa ol oc, .int .i64 on] 107)).heap[wr.heap.size]? = some (.cells #[.int .i64 ok, .slice oa ol oc, .int .i64 on] 107 (0, 0))) := heap_alloc_new _ _
      have HOA : Hid (Row (wr.alloc (.cells #[.int .i64 ok, .slice oa ol oc, .int .i64 on] 107)) 72 1 u3 m ((P.take m).map fun o => o.sl.v) (fun k => w.heap.size ≤ k)) := HO.out.frame (fun k _ hk => Below.heap_alloc _ _ _ hk)
      go_upto_region 5 with fail
      generalize wr.alloc (.cells #[.int .i64 ok, .slice oa ol oc, .int .i64 on] 107) = wa at *
      clear c0 c1 c2 HO HB
      obtain ⟨y0, y1, y2⟩ := cells3 HXA.out
      go_wp2_with (
        refine wpList_row elemRec rfl rfl (S := fun j => w.heap.size ≤ j) (n := m) (xs := (P.take m).map fun o => o.sl.v) rfl (HOA.out.frame (fun k _ hk => Below.heap_alloc _ _ _ hk)) (y := .slice (some ⟨wa.heap.size, 0, none⟩) 1 1) (m := 1) (news := [.slice oa ol oc]) rfl (reads_one wa _ _) (one_of rfl) (by unfold maxLen; omega) (by omega) ?_
        intro v5 w5 hr5 hc5)
      have hs2 := HBA.out.size
      have HB5 := Lib.hid ((HBA.out.alloc hs2 (.cells #[.slice oa ol oc] 72)).trans (hc5.toBelow (by simp; omega) (fun n hn h => by omega)))
      have HO5 : Hid (Row w5 72 1 v5 (m + 1) ((P.take (m + 1)).map fun o => o.sl.v) (fun k => w.heap.size ≤ k)) := by
        rw [Hid, HTK.out]
        exact hr5.mono (fun k hk => by rcases hk with h | h; exact h; simp only [World.size_alloc] at h; omega)
      clear hr5 hc5 HOA HBA
      go_wp2
      go_roundw
      case rel => exact ⟨m + 1, by omega, by go_num, HO5, HB5⟩
      case measure => simp [RowKit.intOf]; omega
    · obtain rfl : m = P.length := by omega
      rw [List.take_length] at HO
      have hsl : SLs wr u3 (P.map OW.sl) := by
        refine ⟨by rw [List.length_map, List.map_map]; exact HO.out.reads, fun x hx => ?_⟩
        obtain ⟨o, ho, rfl⟩ := List.mem_map.1 hx
        exact ((HP.out.later HB.out).each o ho)
      have HF := Lib.hid (rfewL_any u3 (P.map OW.sl) wr hsl (by rw [List.length_map]; omega) (fun x hx => by
        obtain ⟨o, ho, rfl⟩ := List.mem_map.1 hx
        exact HE.out o ho))
      clear hsl HO
      go_wp2_with fail
      refine HF.out.mono ?_
      rintro e w2 ⟨⟨b, rfl, hb⟩, rfl⟩
      rw [List.length_map] at hb
      have HBB := Lib.hid hb
      clear hb HF
      go_wp2
      go_ret
      exact ⟨⟨b, rfl, HBB.out⟩, HB.out⟩

/-- The reference's Put, from any state that the program's log has too. -/
theorem rputL_any {L M : LS} (hR : RelL L M) {s n k : Nat} (hb : BndL L s n k) (hs : s ≤ 1000000) (hn : n ≤ 1000) (hk : k ≤ 1000000) (v : Value) (R : List RF) (T : Nat → Prop) (ra : Option Addr) (rc : Nat) (r : List UInt8) (w : World) (h : RLi w v R T) (hf : R.map RF.f = M.D.files)
    (hr : Reads w (.slice ra r.length rc) r.length 1 (byts r)) (hl : r.length ≤ 2000) :
    Calls Tryz.prog 39 #[rlog v M, .slice ra r.length rc] w (MPst w T (putG opsF M r)) := by
  have hRn : R.length ≤ n := by
    have h1 := congrArg List.length hf
    rw [List.length_map] at h1
    rw [h1, ← hR.rel.len]; exact hb.d.len
  have hRs : sumR R ≤ s := by rw [sumR_f, hf, ← hR.rel.sum]; exact hb.d.sum
  have hp : 0 ≤ M.D.plan ∧ M.D.plan ≤ 9223372036854775807 := by rw [← hR.rel.plan]; exact hb.d.plan
  have hz := hb.size
  have hw := hb.waiting
  have hn0 := hb.n0
  rw [hR.size] at hz
  rw [hR.waiting] at hw
  rw [hR.n] at hn0
  by_cases h1 : r = []
  · exact rput_stay M v R T ra rc r w h hf (by omega) hp (by omega) hr (by omega) (by omega) (by omega) (.inl h1)
  by_cases h2 : M.most < (r.length : Int) + 8
  · exact rput_stay M v R T ra rc r w h hf (by omega) hp (by omega) hr (by omega) (by omega) (by omega) (.inr (.inl h2))
  by_cases h3 : 0 < M.size ∧ M.most < M.size + (r.length + 8)
  · have hsy := (rel_syn hR.rel (nameI M.n)).2
    have hbs : Bnd (opsD.syn L.D (nameI M.n)).1 s n := bnd_sync hb.d (nameI M.n)
    have hro := (rel_rot hR).2
    have hbr := bnd_rot hb
    refine rput_next M v R T ra rc r w h hf (by omega) hp (by omega) hr (by omega) (by omega) (by omega) ?_ ?_ h1 (by omega) h2 h3.1 h3.2
    · have e1 := hsy.len
      have e2 := hsy.sum
      have e3 := hsy.plan
      have e4 := hbs.len
      have e5 := hbs.sum
      have e6 := hbs.plan
      show (opsF.syn M.D (nameI M.n)).1.files.length ≤ 5000 ∧ sumD (opsF.syn M.D (nameI M.n)).1.files ≤ 1000000000 ∧ 0 ≤ (opsF.syn M.D (nameI M.n)).1.plan ∧ (opsF.syn M.D (nameI M.n)).1.plan ≤ 9223372036854775807
      rw [← e1, ← e2, ← e3]
      omega
    · have e1 := hro.rel.len
      have e2 := hro.rel.sum
      have e3 := hro.rel.plan
      have e4 := hbr.d.len
      have e5 := hbr.d.sum
      have e6 := hbr.d.plan
      have e7 := hbr.size
      have e8 := hbr.waiting
      rw [hro.size] at e7
      rw [hro.waiting] at e8
      rw [← e1, ← e2, ← e3]
      refine ⟨⟨by omega, e6, by omega⟩, ⟨by omega, by omega⟩, by omega, by omega⟩
  · exact rput_stay M v R T ra rc r w h hf (by omega) hp (by omega) hr (by omega) (by omega) (by omega) (.inr (.inr h3))
end Go.Proofs.YtgdmdbdljmlkkaaGreatDoor
namespace Go.Proofs.YtgdmdbdljmlkkaaGreatDoor
set_option linter.unusedVariables false
set_option linter.unusedSimpArgs false
open Go.RowKit Go.ChangeShapes Go.WideShapes Go.Deep

theorem fmo_at {α : Type} {f : α → List Value} {k : Nat} (hf : ∀ a, (f a).length = k) (l : List α) (i r : Nat) (hr : r < k) : (l.flatMap f)[i * k + r]? = (l[i]?).bind (fun v => (f v)[r]?) := by
  induction l generalizing i with
  | nil => simp
  | cons a vs ih =>
    have hc : (f a).length = k := hf a
    rw [List.flatMap_cons]
    cases i with
    | zero => rw [Nat.zero_mul, Nat.zero_add, List.getElem?_append_left (by omega)]; rfl
    | succ i => rw [List.getElem?_append_right (by rw [hc, Nat.add_mul]; omega), hc, show (i + 1) * k + r - k = i * k + r by rw [Nat.add_mul]; omega, ih]; rfl

set_option maxRecDepth 100000 in
theorem open_op {H : Type} {enc : TypeId × Value → H} {W : World} {base : Nat} {sp : Nat → Bool} {held : Bool} (fuel : Nat) (cs : List Value) (x : DataW H × List MemPlace)
    (h : DataW.trod enc Tryz.prog W base sp held fuel 107 cs = some x) : ∃ o : OW, cs = ocells o ∧ Reads W (.slice o.a o.l.length o.c) o.l.length 1 (byts o.l) ∧ o.l.length ≤ maxLen ∧ -9223372036854775808 ≤ o.n ∧ o.n ≤ 9223372036854775807 := by
  obtain ⟨xs, n, rfl, rfl, hl, hlen, hf⟩ := DataW.trod_struct Tryz.underlying107 h
  have hC : Tryz.prog.cellsOf 107 = 3 := by kernel_rfl
  rw [hC] at hl
  match cs, hl with
  | [c0, c1, c2], _ =>
    have hn : ∀ i, i < 3 → ∃ y, xs[i]? = some y := fun i hi => ⟨_, List.getElem?_eq_getElem (by rw [hlen]; exact hi)⟩
    have g0 := hf 0 _ rfl
    have g1 := hf 1 _ rfl
    have g2 := hf 2 _ rfl
    obtain ⟨y0, e0⟩ := hn 0 (by omega)
    obtain ⟨y1, e1⟩ := hn 1 (by omega)
    obtain ⟨y2, e2⟩ := hn 2 (by omega)
    rw [e0] at g0
    rw [e1] at g1
    rw [e2] at g2
    obtain ⟨k, hk, -, wk⟩ := DataW.trod_int Tryz.underlying3 g0
    obtain ⟨b, ba, bc, hb, rb, -, lb⟩ := open_bytes (c := c1) g1
    obtain ⟨m, hm, -, wm⟩ := DataW.trod_int Tryz.underlying3 g2
    have hk' : [c0] = [Value.int .i64 k] := hk
    have hm' : [c2] = [Value.int .i64 m] := hm
    cases hk'; cases hm'
    subst hb
    have bm := bounds_i64 wm
    exact ⟨⟨k, ba, b, bc, m⟩, rfl, rb, lb, bm⟩

set_option maxRecDepth 100000 in
theorem open_ops {H : Type} {enc : TypeId × Value → H} {W : World} {base b0 : Nat} {sp : Nat → Bool} {held : Bool} {v : Value} {d : DataW H} {p : List MemPlace} (hval : Value.okWide Tryz.prog W .any b0 23 v)
    (h : DataW.Trod enc Tryz.prog W base sp held 23 v d p) (hwt : ∀ n ∈ d.weights Tryz.prog 23, n ≤ 140737488351232) : ∃ (P : List OW) (a : Option Addr) (c : Nat), v = .slice a P.length c ∧ Ows W (.slice a P.length c) P ∧ P.length ≤ 3518437208780 ∧ ∀ o ∈ P, o.l.length ≤ 9223372036854775807 := by
  obtain ⟨a0, len0, cap0, rfl⟩ := okWide_slice Tryz.underlying23 hval
  obtain ⟨fuel, hf⟩ := h
  have hC : Tryz.prog.cellsOf 107 = 3 := by kernel_rfl
  rcases DataW.trod_slice Tryz.underlying23 hf with ⟨h4, -⟩ | ⟨a, len, cap, elems, rest, n', rfl, h4, hx, hb, hlc, hcm, hel, hget, -⟩
  · have h4' : [Value.slice a0 len0 cap0] = [Value.slice none 0 0] := h4
    simp only [List.cons.injEq, Value.slice.injEq, and_true] at h4'
    obtain ⟨rfl, rfl, rfl⟩ := h4'
    exact ⟨[], none, 0, rfl, ⟨Reads.nil _ _, by simp, by simp⟩, Nat.zero_le _, by simp⟩
  · have h4' : [Value.slice a0 len0 cap0] = [Value.slice (some a) len cap] := h4
    simp only [List.cons.injEq, Value.slice.injEq, and_true] at h4'
    obtain ⟨rfl, rfl, rfl⟩ := h4'
    obtain ⟨hd, -⟩ := Prod.mk.inj hx
    subst hd
    have hB : Tryz.prog.bytesOf 107 = 40 := by kernel_rfl
    have hwu : (DataW.slice (elems.map (·.1)) (rest.map (·.1))).weights Tryz.prog 23 = ((elems.map (·.1)).length + (rest.map (·.1)).length) * Tryz.prog.bytesOf 107 :: (DataW.weightsAll Tryz.prog 107 (elems.map (·.1)) ++ DataW.weightsAll Tryz.prog 107 (rest.map (·.1))) := by
      rw [DataW.weights, Tryz.underlying23]
    have hw0 : len0 * 40 ≤ 140737488351232 := by
      have := hwt _ (by rw [hwu]; exact List.mem_cons_self ..)
      rw [hB, List.length_map, hel] at this
      omega
    obtain ⟨l, l1, hall⟩ := list_of (p := fun i (o : OW) => (Reads W (.slice o.a o.l.length o.c) o.l.length 1 (byts o.l) ∧ o.l.length ≤ maxLen ∧ -9223372036854775808 ≤ o.n ∧ o.n ≤ 9223372036854775807) ∧ ∀ r, r < 3 → W.cell? (a.add (i * 3 + r)) = (ocells o)[r]?) len0 (fun i hi => by
      have := hget i hi
      rw [List.getElem?_eq_getElem (by rw [hel]; exact hi), hC] at this
      obtain ⟨cs', h1, h2⟩ := Option.bind_eq_some_iff.1 this
      obtain ⟨o, hcs, ht⟩ := open_op n' cs' _ h2
      obtain ⟨_, _, hcell⟩ := World.cells?_some h1
      refine ⟨o, ht, fun r hr => ?_⟩
      rw [← add_add, hcell r hr, hcs])
    subst l1
    refine ⟨l, some a, cap0, rfl, ⟨⟨by rw [fm_length ocells_len], some a, cap0, rfl, hlc, (fun h => by cases h), fun ad had j u hu => ?_⟩, fun o ho => ?_, fun o ho => ?_⟩, by omega, fun o ho => ?_⟩
    · cases had
      have hj : j = (j / 3) * 3 + j % 3 := by omega
      have hr : j % 3 < 3 := Nat.mod_lt _ (by decide)
      rw [hj, fmo_at ocells_len _ _ _ hr] at hu
      obtain ⟨v, hv1, hv2⟩ := Option.bind_eq_some_iff.1 hu
      obtain ⟨hv3, hv4⟩ := List.getElem?_eq_some_iff.1 hv1
      have := (hall (j / 3) hv3).2 (j % 3) hr
      rw [hv4] at this
      rw [hj, this]; exact hv2
    · obtain ⟨i, hi, rfl⟩ := List.mem_iff_getElem.1 ho
      exact (hall i hi).1.1
    · obtain ⟨i, hi, rfl⟩ := List.mem_iff_getElem.1 ho
      exact (hall i hi).1.2.2
    · obtain ⟨i, hi, rfl⟩ := List.mem_iff_getElem.1 ho
      have := (hall i hi).1.2.1
      unfold maxLen at this
      omega
end Go.Proofs.YtgdmdbdljmlkkaaGreatDoor
