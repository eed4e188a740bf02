/- clockworkref04.Few: how many values and bytes a payload has, and how deep it is. -/
import Derived.Test.YtpijpeocdlnhiaaGreatDoorVal
namespace Go.Proofs.YtpijpeocdlnhiaaGreatDoor
set_option linter.unusedVariables false
set_option linter.unusedSimpArgs false
open Go.RowKit

mutual
def weightT : VT → Int → Int
  | .node _ _ _ s l, most => weightL l (1 + min (s.size : Int) 1000) most
def weightL : List VT → Int → Int → Int
  | [], acc, _ => acc
  | t :: ts, acc, most => if acc ≤ most then weightL ts (acc + weightT t (most - acc)) most else acc
end
mutual
def costT : VT → Nat
  | .node _ _ _ s l => 1 + min s.size 1000 + costL l
def costL : List VT → Nat
  | [] => 0
  | t :: ts => costT t + costL ts
end

theorem weightL_range {l : List VT} (h : ∀ t ∈ l, ∀ m : Int, 0 ≤ m → 1 ≤ weightT t m ∧ weightT t m ≤ m + 1001) (m : Int) : ∀ acc : Int, 1 ≤ acc → acc ≤ m + 1001 → 1 ≤ weightL l acc m ∧ weightL l acc m ≤ m + 1001 := by
  induction l with
  | nil => intro acc h1 h2; rw [weightL]; exact ⟨h1, h2⟩
  | cons t ts ih =>
    intro acc h1 h2
    rw [weightL]
    split
    · have h3 := h t (List.mem_cons_self ..) (m - acc) (by omega)
      exact ih (fun u hu => h u (List.mem_cons_of_mem _ hu)) _ (by omega) (by omega)
    · exact ⟨h1, h2⟩
theorem weightT_range (t : VT) : ∀ m : Int, 0 ≤ m → 1 ≤ weightT t m ∧ weightT t m ≤ m + 1001 := by
  induction t using VT.ind with
  | _ k n f s l ih =>
    intro m hm
    rw [weightT]
    exact weightL_range ih m _ (by omega) (by omega)

theorem weightL_cost {l : List VT} (h : ∀ t ∈ l, ∀ m : Int, ((costT t : Int) ≤ m → weightT t m = costT t) ∧ (m < costT t → m < weightT t m)) (m : Int) : ∀ acc : Int, (acc + costL l ≤ m → weightL l acc m = acc + costL l) ∧ (m < acc + costL l → m < weightL l acc m) := by
  induction l with
  | nil => intro acc; rw [weightL, costL]; exact ⟨fun h => by simp, fun h => by simpa using h⟩
  | cons t ts ih =>
    intro acc
    have h3 := h t (List.mem_cons_self ..) (m - acc)
    have h4 := ih (fun u hu => h u (List.mem_cons_of_mem _ hu))
    rw [weightL, costL]
    by_cases ha : acc ≤ m
    · rw [if_pos ha]
      refine ⟨fun hc => ?_, fun hc => ?_⟩
      · have h5 := h3.1 (by omega)
        rw [h5, (h4 _).1 (by omega)]; omega
      · by_cases hb : (costT t : Int) ≤ m - acc
        · rw [h3.1 hb]
          exact (h4 _).2 (by omega)
        · have h5 := h3.2 (by omega)
          exact (h4 _).2 (by omega)
    · rw [if_neg ha]
      exact ⟨fun hc => by omega, fun hc => by omega⟩
theorem weightT_cost (t : VT) : ∀ m : Int, ((costT t : Int) ≤ m → weightT t m = costT t) ∧ (m < costT t → m < weightT t m) := by
  induction t using VT.ind with
  | _ k n f s l ih =>
    intro m
    rw [weightT, costT]
    have h := weightL_cost ih m (1 + min (s.size : Int) 1000)
    refine ⟨fun hc => ?_, fun hc => h.2 (by omega)⟩
    rw [h.1 (by omega)]; omega
theorem weight_few (t : VT) : weightT t 900 ≤ 900 ↔ costT t ≤ 900 := by
  have h := weightT_cost t 900
  constructor
  · intro hw
    refine Classical.byContradiction fun hn => ?_
    have := h.2 (by omega); omega
  · intro hc
    rw [h.1 (by omega)]; omega

theorem weightL_step (l : List VT) (i : Nat) (hi : i < l.length) (acc most : Int) (ha : acc ≤ most) : weightL (l.drop i) acc most = weightL (l.drop (i + 1)) (acc + weightT l[i] (most - acc)) most := by
  rw [List.drop_eq_getElem_cons hi, weightL, if_pos ha]
theorem weightL_stop (l : List VT) (i : Nat) (acc most : Int) (ha : ¬ (i < l.length ∧ acc ≤ most)) : weightL (l.drop i) acc most = acc := by
  by_cases hi : i < l.length
  · rw [List.drop_eq_getElem_cons hi, weightL, if_neg (fun h => ha ⟨hi, h⟩)]
  · rw [List.drop_eq_nil_of_le (by omega), weightL]

set_option maxRecDepth 100000 in
set_option maxHeartbeats 1000000 in
theorem weight_any (t : VT) : ∀ (v : VV) (S : Nat → Prop) (w : World) (most : Int), TRead w S t v → 0 ≤ most → most ≤ 1000 →
    Calls Tryz.prog 40 #[v.val, .int .i64 most] w fun e w' => e = .returned (.int .i64 (weightT t most)) ∧ Below w.heap.size w w' := by
  induction t using VT.ind with
  | _ k n f s l ih =>
    intro v S w most hv h0 h1
    have HV := Lib.hid hv
    have HI := Lib.hid ih
    have hval : v.val = .agg #[.int .i64 k, .int .i64 n, .float .f64 f, .string s, .slice v.a l.length v.c] := hv.val
    have hlen : l.length ≤ v.c := by obtain ⟨vs, hr, _⟩ := hv.elems; obtain ⟨_, _, _, he, hle, _⟩ := hr; cases he; exact hle
    rw [hval]
    have hmax : l.length ≤ maxLen := hv.small
    unfold maxLen at hmax
    clear hv ih hval
    obtain ⟨va, hva⟩ : ∃ va, va = v.a := ⟨_, rfl⟩
    have HVA := Lib.hid hva
    rw [← hva]
    clear hva
    obtain ⟨W, hW⟩ : ∃ W, W = weightT (.node k n f s l) most := ⟨_, rfl⟩
    have HW : Hid (weightL l (1 + min (s.size : Int) 1000) most = W) := hW.symm
    rw [← hW]
    clear hW
    go_enter Tryz.func40, Tryz.ntmps40
    go_wp2
    all_goals
      go_loopw [5, 6] (fun acc i w' => ∃ (m : Nat) (a : Int), m ≤ l.length ∧ i = .int .i64 m ∧ acc = .int .i64 a ∧ 1 ≤ a ∧ a ≤ most + 1001 ∧ Hid (weightL (l.drop m) a most = W) ∧
        Hid (w'.heap[w.heap.size]? = some (.cells #[.int .i64 k, .int .i64 n, .float .f64 f, .string s, .slice va l.length v.c] 26 (0, 0))) ∧ Hid (Below w.heap.size w w')) (fun _ i _ => l.length - (RowKit.intOf i).toNat)
      case atStart =>
        refine ⟨0, _, by omega, rfl, rfl, by omega, by omega, ?_, heap_alloc_new w _, (Below.refl _ _).alloc (Nat.le_refl _) _⟩
        rw [Hid, List.drop_zero, ← HW.out]; congr 1; omega
      case round =>
        obtain ⟨m, a, hm, rfl, rfl, ha, ha2, HA, HB, HBel⟩ := hrel
        have hx4 := cellAt HB.out 4 (v := .slice va l.length v.c) rfl
        by_cases hlt : m < l.length ∧ a ≤ most
        · obtain ⟨hlt, hle⟩ := hlt
          obtain ⟨b, o, hb0, hcap, hblt, -, u, hu, hc0, hc1, hc2, hc3, hc4⟩ := (HV.out.later HBel.out).child m hlt
          obtain rfl : va = some ⟨b, o, none⟩ := HVA.out.trans hb0
          clear hb0
          have HS := Lib.hid (weightL_step l m hlt a most hle)
          have HU := Lib.hid hu
          have hr := weightT_range l[m] (most - a) (by omega)
          have HC := Lib.hid ((HI.out l[m] (List.getElem_mem hlt) u S wr (most - a) hu (by omega) (by omega)))
          clear hu
          have HS2 : Hid (weightL (l.drop (m + 1)) (a + weightT l[m] (most - a)) most = W) := HS.out.symm.trans HA.out
          clear HS HA HU
          generalize weightT l[m] (most - a) = x at *
          go_wp2_with fail
          refine HC.out.mono ?_
          rintro e w1 ⟨rfl, hb1⟩
          have HBel1 := Lib.hid (HBel.out.trans (hb1.mono HBel.out.size))
          have HB1 := Lib.hid ((hb1.block _ (lt_of_heap HB.out)).trans HB.out)
          clear hb1 HB HBel HC hc0 hc1 hc2 hc3 hc4 hx4
          go_wp2
          go_roundw
          case rel => exact ⟨m + 1, a + x, by omega, by go_num, rfl, by omega, by omega, HS2, HB1, HBel1⟩
          case measure => simp [RowKit.intOf]; omega
        · have HE := Lib.hid ((weightL_stop l m a most hlt).symm.trans HA.out)
          by_cases hlm : m < l.length
          · have hle : ¬ a ≤ most := fun h => hlt ⟨hlm, h⟩
            clear hlt
            go_wp2
            go_ret
            exact ⟨congrArg (fun x => Ending.returned (.int .i64 x)) HE.out, HBel.out⟩
          · clear hlt
            go_wp2
            go_ret
            exact ⟨congrArg (fun x => Ending.returned (.int .i64 x)) HE.out, HBel.out⟩

/-- No deeper than this. -/
def deepL (p : VT → Bool) : List VT → Bool
  | [] => true
  | t :: ts => p t && deepL p ts
def smallT : Nat → VT → Bool
  | 0, _ => false
  | left + 1, t => t.l.all (smallT left)

set_option maxRecDepth 100000 in
set_option maxHeartbeats 1000000 in
theorem small_any : ∀ (left : Nat) (t : VT) (v : VV) (S : Nat → Prop) (w : World), TRead w S t v → left ≤ 1000 →
    Calls Tryz.prog 41 #[v.val, .int .i64 left] w fun e w' => e = .returned (.bool (smallT left t)) ∧ Below w.heap.size w w'
  | 0, t, v, S, w, hv, h1 => by
    rw [hv.val, smallT]
    clear hv
    go_enter Tryz.func41, Tryz.ntmps41
    go_wp2
    go_ret
    exact ⟨rfl, (Below.refl _ _).alloc (Nat.le_refl _) _⟩
  | left + 1, t, v, S, w, hv, h1 => by
    have HI := Lib.hid (small_any left)
    obtain ⟨k, n, f, s, l⟩ := t
    have HV := Lib.hid hv
    have hval : v.val = .agg #[.int .i64 k, .int .i64 n, .float .f64 f, .string s, .slice v.a l.length v.c] := hv.val
    have hlen : l.length ≤ v.c := by obtain ⟨vs, hr, _⟩ := hv.elems; obtain ⟨_, _, _, he, hle, _⟩ := hr; cases he; exact hle
    rw [hval, show (((left + 1 : Nat) : Nat) : Int) = (left : Int) + 1 by omega]
    have hmax : l.length ≤ maxLen := hv.small
    unfold maxLen at hmax
    clear hv hval
    obtain ⟨va, hva⟩ : ∃ va, va = v.a := ⟨_, rfl⟩
    have HVA := Lib.hid hva
    rw [← hva]
    clear hva
    obtain ⟨W, hW⟩ : ∃ W, W = smallT (left + 1) (.node k n f s l) := ⟨_, rfl⟩
    have HW : Hid (l.all (smallT left) = W) := hW.symm
    rw [← hW]
    clear hW
    have hne : (((left : Int) + 1) == 0) = false := by rw [beq_eq_false_iff_ne]; omega
    have hne2 : ¬ ((left : Int) + 1 = 0) := by omega
    have hsub : (left : Int) + 1 - 1 = (left : Int) := by omega
    go_enter Tryz.func41, Tryz.ntmps41
    go_wp2
    go_loopw [5] (fun i w' => ∃ (m : Nat), m ≤ l.length ∧ i = .int .i64 m ∧ Hid (∀ j (hj : j < l.length), j < m → smallT left l[j] = true) ∧
        Hid (w'.heap[w.heap.size]? = some (.cells #[.int .i64 k, .int .i64 n, .float .f64 f, .string s, .slice va l.length v.c] 26 (0, 0))) ∧ Hid (Below w.heap.size w w')) (fun i _ => l.length - (RowKit.intOf i).toNat)
    case atStart => exact ⟨0, by omega, rfl, fun j _ hj => by omega, heap_alloc_new w _, (Below.refl _ _).alloc (Nat.le_refl _) _⟩
    case round =>
      obtain ⟨m, hm, rfl, HA, HB, HBel⟩ := hrel
      have hx4 := cellAt HB.out 4 (v := .slice va l.length v.c) rfl
      by_cases hlt : m < l.length
      · obtain ⟨b, o, hb0, hcap, hblt, -, u, hu, hc0, hc1, hc2, hc3, hc4⟩ := (HV.out.later HBel.out).child m hlt
        obtain rfl : va = some ⟨b, o, none⟩ := HVA.out.trans hb0
        clear hb0
        have HC := Lib.hid (HI.out l[m] u S wr hu (by omega))
        have HT : Hid (smallT left l[m] = false → W = false) := fun h => by
          rw [← HW.out]
          refine Bool.eq_false_iff.2 fun h2 => ?_
          have := List.all_eq_true.1 h2 _ (List.getElem_mem hlt)
          rw [h] at this; cases this
        have HN : Hid (smallT left l[m] = true → ∀ j (hj : j < l.length), j < m + 1 → smallT left l[j] = true) := fun h j hj hjm => by
          rcases Nat.lt_or_ge j m with h1 | h1
          · exact HA.out j hj h1
          · have : j = m := by omega
            subst this; exact h
        clear hu HA
        generalize hx : smallT left l[m] = x at *
        clear hx
        go_wp2_with fail
        refine HC.out.mono ?_
        rintro e w1 ⟨rfl, hb1⟩
        have HBel1 := Lib.hid (HBel.out.trans (hb1.mono HBel.out.size))
        have HB1 := Lib.hid ((hb1.block _ (lt_of_heap HB.out)).trans HB.out)
        clear hb1 HB HBel HC hc0 hc1 hc2 hc3 hc4 hx4
        cases x
        · have HF := Lib.hid (HT.out rfl)
          go_wp2
          go_ret
          exact ⟨congrArg (fun x => Ending.returned (.bool x)) HF.out.symm, HBel1.out⟩
        · have HF := Lib.hid (HN.out rfl)
          go_wp2
          go_roundw
          case rel => exact ⟨m + 1, by omega, by go_num, HF, HB1, HBel1⟩
          case measure => simp [RowKit.intOf]; omega
      · have HF : Hid (W = true) := by
          rw [Hid, ← HW.out, List.all_eq_true]
          intro x hx
          obtain ⟨j, hj, rfl⟩ := List.mem_iff_getElem.1 hx
          exact HA.out j hj (by omega)
        go_wp2
        go_ret
        exact ⟨congrArg (fun x => Ending.returned (.bool x)) HF.out.symm, HBel.out⟩

/-- Small enough for the statements. -/
def fewT (t : VT) : Bool := decide (costT t ≤ 900) && smallT 20 t

set_option maxRecDepth 100000 in
set_option maxHeartbeats 1000000 in
theorem few_any (t : VT) (v : VV) (S : Nat → Prop) (w : World) (hv : TRead w S t v) :
    Calls Tryz.prog 13 #[v.val] w fun e w' => e = .returned (.bool (fewT t)) ∧ Below w.heap.size w w' := by
  have HW : Hid (∀ w', Below w.heap.size w w' → Calls Tryz.prog 40 #[v.val, .int .i64 900] w' fun e w'' => e = .returned (.int .i64 (weightT t 900)) ∧ Below w'.heap.size w' w'') := fun w' hb => weight_any t v S w' 900 (hv.later hb) (by omega) (by omega)
  have HS : Hid (∀ w', Below w.heap.size w w' → Calls Tryz.prog 41 #[v.val, .int .i64 20] w' fun e w'' => e = .returned (.bool (smallT 20 t)) ∧ Below w'.heap.size w' w'') := fun w' hb => small_any 20 t v S w' (hv.later hb) (by omega)
  have hfew : fewT t = (decide (weightT t 900 ≤ 900) && smallT 20 t) := by unfold fewT; congr 1; exact decide_eq_decide.2 (weight_few t).symm
  rw [hfew]
  rw [hv.val] at HW HS ⊢
  clear hfew hv
  generalize weightT t 900 = x at *
  generalize smallT 20 t = y at *
  generalize t.k = k at *
  generalize t.n = n at *
  generalize t.f = f at *
  generalize t.s = s at *
  generalize t.l.length = m at *
  generalize v.a = va at *
  generalize v.c = vc at *
  go_enter Tryz.func13, Tryz.ntmps13
  go_wp2_with fail
  refine (HW.out _ ((Below.refl _ _).alloc (Nat.le_refl _) _)).mono ?_
  rintro e w1 ⟨rfl, hb1⟩
  have HB1 := Lib.hid (((Below.refl _ _).alloc (Nat.le_refl _) _).trans (hb1.mono (by simp)))
  have hB := (hb1.block w.heap.size (by simp)).trans (heap_alloc_new w (.cells #[.int .i64 k, .int .i64 n, .float .f64 f, .string s, .slice va m vc] 26))
  have hx0 := cellAt hB 0 (v := .int .i64 k) rfl
  have hx1 := cellAt hB 1 (v := .int .i64 n) rfl
  have hx2 := cellAt hB 2 (v := .float .f64 f) rfl
  have hx3 := cellAt hB 3 (v := .string s) rfl
  have hx4 := cellAt hB 4 (v := .slice va m vc) rfl
  clear hb1 hB
  by_cases h : x ≤ 900
  · have hd := Lib.hid h
    go_wp2_with fail
    refine (HS.out _ HB1.out).mono ?_
    rintro e w2 ⟨rfl, hb2⟩
    have HB2 := Lib.hid (HB1.out.trans (hb2.mono HB1.out.size))
    clear hb2
    go_wp2
    go_ret
    exact ⟨by rw [decide_eq_true hd.out]; rfl, HB2.out⟩
  · have hd : Hid (¬ x ≤ 900) := h
    go_wp2
    go_ret
    exact ⟨by rw [show decide (x ≤ 900) = false from decide_eq_false (Int.not_le.2 hd.out)]; rfl, HB1.out⟩
end Go.Proofs.YtpijpeocdlnhiaaGreatDoor
