/- clockworkref04.Same: two payloads, compared as trees. -/
import Derived.Test.YtpijpeocdlnhiaaGreatDoorVal
import Derived.Test.YtpijpeocdlnhiaaGreatDoorFloat
import Derived.StillTailTactics
namespace Go.Proofs.YtpijpeocdlnhiaaGreatDoor
set_option linter.unusedVariables false
set_option linter.unusedSimpArgs false
open Go.RowKit

mutual
def sameT : VT → VT → Bool
  | .node k n f s l, u => decide (k = u.k) && decide (n = u.n) && decide (s = u.s) && decide (canonB f = canonB u.f) && decide (l.length = u.l.length) && sameL l u.l
def sameL : List VT → List VT → Bool
  | [], _ => true
  | _ :: _, [] => false
  | t :: ts, u :: us => sameT t u && sameL ts us
end

theorem sameL_iff : ∀ (l m : List VT), l.length = m.length → (sameL l m = true ↔ ∀ i (h1 : i < l.length) (h2 : i < m.length), sameT l[i] m[i] = true)
  | [], m, _ => by rw [sameL]; simp
  | t :: ts, [], h => by simp at h
  | t :: ts, u :: us, h => by
    rw [sameL, Bool.and_eq_true, sameL_iff ts us (by simpa using h)]
    constructor
    · rintro ⟨h1, h2⟩ i h3 h4
      cases i with
      | zero => exact h1
      | succ i => exact h2 i (by simpa using h3) (by simpa using h4)
    · intro hh
      exact ⟨hh 0 (by simp) (by simp), fun i h3 h4 => hh (i + 1) (by simpa using h3) (by simpa using h4)⟩

theorem sameT_refl (t : VT) : sameT t t = true := by
  induction t using VT.ind with
  | _ k n f s l ih =>
    rw [sameT]
    simp only [VT.k, VT.n, VT.f, VT.s, VT.l, decide_true, Bool.true_and]
    exact (sameL_iff l l rfl).2 (fun i h1 h2 => ih _ (List.getElem_mem h1))

theorem ba_toList {a b : ByteArray} (h : a.toList = b.toList) : a = b := by
  have h2 := ba_beq a b
  rw [beq_toListBytes, h] at h2
  simpa using h2

set_option maxRecDepth 100000 in
set_option maxHeartbeats 1000000 in
theorem same_any (t : VT) : ∀ (r : VT) (v u : VV) (S T : Nat → Prop) (w : World), TRead w S t v → TRead w T r u →
    Calls Tryz.prog 11 #[v.val, u.val] w fun e w' => e = .returned (.bool (sameT t r)) ∧ Below w.heap.size w w' := by
  induction t using VT.ind with
  | _ k n f s l ih =>
    rintro ⟨k', n', f', s', l'⟩ v u S T w hv hu
    have HI := Lib.hid ih
    have HV := Lib.hid hv
    have HU := Lib.hid hu
    have hval : v.val = .agg #[.int .i64 k, .int .i64 n, .float .f64 f, .string s, .slice v.a l.length v.c] := hv.val
    have hval' : u.val = .agg #[.int .i64 k', .int .i64 n', .float .f64 f', .string s', .slice u.a l'.length u.c] := hu.val
    have hmax : l.length ≤ maxLen := hv.small
    have hmax' : l'.length ≤ maxLen := hu.small
    unfold maxLen at hmax hmax'
    rw [hval, hval']
    have hlen : l.length ≤ v.c := by obtain ⟨vs, hr, _⟩ := hv.elems; obtain ⟨_, _, _, he, hle, _⟩ := hr; cases he; exact hle
    have hlen' : l'.length ≤ u.c := by obtain ⟨vs, hr, _⟩ := hu.elems; obtain ⟨_, _, _, he, hle, _⟩ := hr; cases he; exact hle
    clear hv hu ih hval hval'
    obtain ⟨va, hva⟩ : ∃ va, va = v.a := ⟨_, rfl⟩
    obtain ⟨ua, hua⟩ : ∃ ua, ua = u.a := ⟨_, rfl⟩
    have HVA := Lib.hid hva
    have HUA := Lib.hid hua
    rw [← hva, ← hua]
    clear hva hua
    obtain ⟨W, hW⟩ : ∃ W, W = sameT (.node k n f s l) (.node k' n' f' s' l') := ⟨_, rfl⟩
    have HW : Hid (W = (decide (k = k') && decide (n = n') && decide (s = s') && decide (canonB f = canonB f') && decide (l.length = l'.length) && sameL l l')) := hW
    rw [← hW]
    clear hW
    have HSA := Lib.hid (rsame_any f f')
    have HB0 : Hid (Below w.heap.size w ((w.alloc (.cells #[.int .i64 k, .int .i64 n, .float .f64 f, .string s, .slice va l.length v.c] 26)).alloc (.cells #[.int .i64 k', .int .i64 n', .float .f64 f', .string s', .slice ua l'.length u.c] 26))) := ((Below.refl _ _).alloc (Nat.le_refl _) _).alloc (by simp) _
    by_cases hk : k = k'
    · subst hk
      by_cases hn : n = n'
      · subst hn
        by_cases hs : s = s'
        · subst hs
          by_cases hf : canonB f = canonB f'
          · by_cases hl : l.length = l'.length
            · have HW2 : Hid (W = sameL l l') := by rw [Hid, HW.out]; simp [hf, hl]
              rw [decide_eq_true hf] at HSA
              have HL := Lib.hid hl
              have HLI := Lib.hid (sameL_iff l l' hl)
              have hbl : ((l.length : Int) != (l'.length : Int)) = false := by rw [hl]; simp
              clear HW hf hl
              go_enter Tryz.func11, Tryz.ntmps11
              go_wp2_with fail
              refine (HSA.out _).mono ?_
              rintro e w1 ⟨rfl, rfl⟩
              go_wp2
              clear hbl
              go_loopw [5] (fun i w' => ∃ (m : Nat), m ≤ l.length ∧ i = .int .i64 m ∧ Hid (∀ j (h1 : j < l.length) (h2 : j < l'.length), j < m → sameT l[j] l'[j] = true) ∧
                  Hid (w'.heap[w.heap.size]? = some (.cells #[.int .i64 k, .int .i64 n, .float .f64 f, .string s, .slice va l.length v.c] 26 (0, 0))) ∧
                  Hid (w'.heap[w.heap.size + 1]? = some (.cells #[.int .i64 k, .int .i64 n, .float .f64 f', .string s, .slice ua l'.length u.c] 26 (0, 0))) ∧ Hid (Below w.heap.size w w')) (fun i _ => l.length - (RowKit.intOf i).toNat)
              case atStart =>
                refine ⟨0, by omega, rfl, fun j _ _ hj => by omega, ?_, ?_, HB0.out⟩
                · rw [Hid, Below.heap_alloc _ _ _ (by simp)]; exact heap_alloc_new w _
                · have := heap_alloc_new (w.alloc (.cells #[.int .i64 k, .int .i64 n, .float .f64 f, .string s, .slice va l.length v.c] 26)) (.cells #[.int .i64 k, .int .i64 n, .float .f64 f', .string s, .slice ua l'.length u.c] 26)
                  rw [World.size_alloc] at this
                  exact this
              case round =>
                obtain ⟨m, hm, rfl, HA, HB, HBU, HBel⟩ := hrel
                have hx4 := cellAt HB.out 4 (v := .slice va l.length v.c) rfl
                have hy4 := cellAt HBU.out 4 (v := .slice ua l'.length u.c) rfl
                by_cases hlt : m < l.length
                · have hlt' : m < l'.length := by have := HL.out; omega
                  obtain ⟨b, o, hb0, hcap, hblt, -, p, hp, hc0, hc1, hc2, hc3, hc4⟩ := (HV.out.later HBel.out).child m hlt
                  obtain rfl : va = some ⟨b, o, none⟩ := HVA.out.trans hb0
                  obtain ⟨b', o', hb0', hcap', hblt', -, q, hq, hd0, hd1, hd2, hd3, hd4⟩ := (HU.out.later HBel.out).child m hlt'
                  obtain rfl : ua = some ⟨b', o', none⟩ := HUA.out.trans hb0'
                  clear hb0 hb0'
                  have HC := Lib.hid (HI.out l[m] (List.getElem_mem hlt) l'[m] p q S T wr.drew (hp.later (Below.refl _ _).drew) (hq.later (Below.refl _ _).drew))
                  have HT : Hid (sameT l[m] l'[m] = false → W = false) := fun h => by
                    rw [HW2.out]
                    refine Bool.eq_false_iff.2 fun h2 => ?_
                    have := HLI.out.1 h2 m hlt hlt'
                    rw [h] at this; cases this
                  have HN : Hid (sameT l[m] l'[m] = true → ∀ j (h1 : j < l.length) (h2 : j < l'.length), j < m + 1 → sameT l[j] l'[j] = true) := fun h j h1 h2 hjm => by
                    rcases Nat.lt_or_ge j m with h3 | h3
                    · exact HA.out j h1 h2 h3
                    · have : j = m := by omega
                      subst this; exact h
                  clear hp hq HA
                  generalize hx : sameT l[m] l'[m] = x at *
                  clear hx
                  go_wp2_with fail
                  go_still_tail 10, (by kernel_rfl)
                  change wpList _ _ _ _ _ wr.drew
                  have HBd := Lib.hid (HBel.out.drew)
                  have HB1 := Lib.hid (show wr.drew.heap[w.heap.size]? = _ from HB.out)
                  have HB2 := Lib.hid (show wr.drew.heap[w.heap.size + 1]? = _ from HBU.out)
                  generalize wr.drew = wd at *
                  clear HB HBU HBel hc0 hc1 hc2 hc3 hc4 hx4 hd0 hd1 hd2 hd3 hd4 hy4
                  go_wp2_with fail
                  refine HC.out.mono ?_
                  rintro e w1 ⟨rfl, hb1⟩
                  have HBel1 := Lib.hid (HBd.out.trans (hb1.mono HBd.out.size))
                  have HB3 := Lib.hid ((hb1.block _ (lt_of_heap HB1.out)).trans HB1.out)
                  have HB4 := Lib.hid ((hb1.block _ (lt_of_heap HB2.out)).trans HB2.out)
                  clear hb1 HB1 HB2 HBd HC
                  cases x
                  · have HF := Lib.hid (HT.out rfl)
                    go_wp2
                    go_ret
                    exact ⟨congrArg (fun x => Ending.returned (.bool x)) HF.out.symm, HBel1.out⟩
                  · have HF := Lib.hid (HN.out rfl)
                    go_wp2
                    go_roundw
                    case rel => exact ⟨m + 1, by omega, by go_num, HF, HB3, HB4, HBel1⟩
                    case measure => simp [RowKit.intOf]; omega
                · have HF : Hid (W = true) := by
                    rw [Hid, HW2.out]
                    exact HLI.out.2 (fun i h1 h2 => HA.out i h1 h2 (by omega))
                  go_wp2
                  go_ret
                  exact ⟨congrArg (fun x => Ending.returned (.bool x)) HF.out.symm, HBel.out⟩
            · have HF : Hid (W = false) := by rw [Hid, HW.out]; simp [hl]
              have hbl : ((l.length : Int) != (l'.length : Int)) = true := bne_iff_ne.2 (by omega)
              rw [decide_eq_true hf] at HSA
              clear HW hf hl
              go_enter Tryz.func11, Tryz.ntmps11
              go_wp2_with fail
              refine (HSA.out _).mono ?_
              rintro e w1 ⟨rfl, rfl⟩
              go_wp2
              go_ret
              exact ⟨congrArg (fun x => Ending.returned (.bool x)) HF.out.symm, HB0.out⟩
          · have HF : Hid (W = false) := by rw [Hid, HW.out]; simp [hf]
            rw [decide_eq_false hf] at HSA
            clear HW hf
            go_enter Tryz.func11, Tryz.ntmps11
            go_wp2_with fail
            refine (HSA.out _).mono ?_
            rintro e w1 ⟨rfl, rfl⟩
            go_wp2
            go_ret
            exact ⟨congrArg (fun x => Ending.returned (.bool x)) HF.out.symm, HB0.out⟩
        · have HF : Hid (W = false) := by rw [Hid, HW.out]; simp [hs]
          have hb : ¬ s.toList = s'.toList := fun h => hs (ba_toList h)
          clear HW hs
          go_enter Tryz.func11, Tryz.ntmps11
          go_wp2
          go_ret
          exact ⟨congrArg (fun x => Ending.returned (.bool x)) HF.out.symm, HB0.out⟩
      · have HF : Hid (W = false) := by rw [Hid, HW.out]; simp [hn]
        have hb : (n != n') = true := bne_iff_ne.2 hn
        clear HW hn
        go_enter Tryz.func11, Tryz.ntmps11
        go_wp2
        go_ret
        exact ⟨congrArg (fun x => Ending.returned (.bool x)) HF.out.symm, HB0.out⟩
    · have HF : Hid (W = false) := by rw [Hid, HW.out]; simp [hk]
      have hb : (k != k') = true := bne_iff_ne.2 hk
      clear HW hk
      go_enter Tryz.func11, Tryz.ntmps11
      go_wp2
      go_ret
      exact ⟨congrArg (fun x => Ending.returned (.bool x)) HF.out.symm, HB0.out⟩
end Go.Proofs.YtpijpeocdlnhiaaGreatDoor
