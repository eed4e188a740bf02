/- The names of an inbox: the walk. -/
import Derived.Test.YtbofbboogmeneaaInNames
import Derived.Shelf.SlIter.Stops
import Derived.Deep.RegionHeld3
namespace Go.Proofs.Ytbofbboogmeneaa
set_option linter.unusedVariables false
set_option linter.unusedSimpArgs false
open Go.RowKit Go.Maps Go.Sort Go.Shelf Go.Proofs

theorem keysV_any (mb : Option Nat) (w : World) :
    Calls Try.prog 43 #[.map mb] w fun e w' => e = .returned (.func (.func 60) #[] #[.pointer (some ⟨w.heap.size, 0, none⟩)]) ∧ w'.heap[w.heap.size]? = some (.cells #[.map mb] 60 (0, 0)) ∧ Below w.heap.size w w' := by
  refine (callsIn_wide.1 (AnyZ.keys_in Try.keysV Fence.wide 5 trivial rfl mb w)).mono ?_
  rintro e w' ⟨rfl, rfl⟩
  exact ⟨rfl, heap_alloc_new w _, (Below.refl _ _).alloc (Nat.le_refl _) _⟩
theorem keysQ_any (mb : Option Nat) (w : World) :
    Calls Try.prog 44 #[.map mb] w fun e w' => e = .returned (.func (.func 61) #[] #[.pointer (some ⟨w.heap.size, 0, none⟩)]) ∧ w'.heap[w.heap.size]? = some (.cells #[.map mb] 61 (0, 0)) ∧ Below w.heap.size w w' := by
  refine (callsIn_wide.1 (AnyZ.keys_in Try.keysQ Fence.wide 5 trivial rfl mb w)).mono ?_
  rintro e w' ⟨rfl, rfl⟩
  exact ⟨rfl, heap_alloc_new w _, (Below.refl _ _).alloc (Nat.le_refl _) _⟩

theorem collectV_any {Bm b nn : Nat} {D0 : DataW Unit} (w : World) (hBm : w.heap[Bm]? = some (.cells #[.map (some b)] 60 (0, 0))) (hown : w.ownsMap Try.prog 9 anyR b nn D0) (hN : size D0 ≤ 100000) :
    Calls Try.prog 42 #[.func (.func 60) #[] #[.pointer (some ⟨Bm, 0, none⟩)]] w fun e w' =>
      ∃ (v : Value) (ss : List (List UInt8)), e = .returned v ∧ ss.Perm (strKeys D0) ∧ w'.ownsRow w.heap.size 9 1 v ss.length (ss.map encStr) ∧ Below w.heap.size w w' := by
  have hc : w.cell? ⟨Bm, 0, none⟩ = some (.map (some b)) := by simp [World.cell?, hBm]
  have hseq := AnyZ.keys_gives (ρ := Try.keysV_ren) { Try.keysV with } Fence.wide (5 - 1 - 1) trivial rfl (by omega) Bm b nn D0 w (lt_of_heap hBm) hc hown
  refine (callsIn_wide.1 (AnyZ.collect_in Try.collectS Fence.wide 5 trivial trivial rfl (by omega) 60 #[.pointer (some ⟨Bm, 0, none⟩)] trivial (enters_of Try.func60 (by kernel_rfl) rfl) _ _ (by unfold maxLen; omega) (by omega) w hseq)).mono ?_
  rintro e w' ⟨v, ss, rfl, h1, h2, -, h3⟩
  exact ⟨v, ss, rfl, h1, h2, h3⟩

theorem appendQ_any {Bm b nn : Nat} {D0 : DataW Unit} (w0 w : World) (hBm : w.heap[Bm]? = some (.cells #[.map (some b)] 61 (0, 0))) (hown : w.ownsMap Try.prog 9 anyR b nn D0) (hN : size D0 ≤ 100000)
    (v0 : Value) (ps : List (List UInt8)) (hps : ps.length ≤ 100000) (hrow : w.ownsRow w0.heap.size 9 1 v0 ps.length (ps.map encStr)) (hB : Below w0.heap.size w0 w) :
    Calls Try.prog 41 #[v0, .func (.func 61) #[] #[.pointer (some ⟨Bm, 0, none⟩)]] w fun e w' =>
      ∃ (v : Value) (ss : List (List UInt8)), e = .returned v ∧ ss.Perm (strKeys D0) ∧ w'.ownsRow w0.heap.size 9 1 v (ps ++ ss).length ((ps ++ ss).map encStr) ∧ Below w0.heap.size w0 w' := by
  have hc : w.cell? ⟨Bm, 0, none⟩ = some (.map (some b)) := by simp [World.cell?, hBm]
  have hseq := AnyZ.keys_stops (ρ := Try.keysQ_ren) { Try.keysQ with } Fence.wide (5 - 1) trivial rfl (by omega) Bm b nn D0 w (lt_of_heap hBm) hc hown
  refine (callsIn_wide.1 (appendSeq_on 5 (by omega) 61 #[.pointer (some ⟨Bm, 0, none⟩)] (enters_of Try.func61 (by kernel_rfl) rfl) _ _ _ w0 w v0 ps (by unfold maxLen; omega) (by omega) hrow hB hseq)).mono ?_
  rintro e w' ⟨v, ss, rfl, h1, h2, h3⟩
  exact ⟨v, ss, rfl, h1.1, by simpa using h2, h3⟩

theorem ownsMap_later {w w' : World} {b n : Nat} {D0 : DataW Unit} (h : w.ownsMap Try.prog 9 anyR b n D0) (hb : Below w.heap.size w w') : w'.ownsMap Try.prog 9 anyR b n D0 := by
  have hbl := h.lt
  obtain ⟨es, clock, h1, Ft, hs, hD⟩ := h
  exact ⟨es, clock, (hb.block b hbl).trans h1, Ft, hs, hD⟩

theorem strKeys_len (D : DataW Unit) : (strKeys D).length = size D := by
  cases D <;> simp [strKeys, size]
theorem ownsRow_base {W : World} {base base' : Nat} {e : TypeId} {size : Nat} {v : Value} {k : Nat} {xs : List Value} (h : W.ownsRow base e size v k xs) (hb : base' ≤ base) : W.ownsRow base' e size v k xs := by
  refine ⟨h.1, ?_⟩
  rcases h.2 with hn | ⟨g, cap, cur, hv, hbg, rest⟩
  · exact .inl hn
  · exact .inr ⟨g, cap, cur, hv, Nat.le_trans hb hbg, rest⟩

set_option maxRecDepth 100000 in
set_option maxHeartbeats 1000000 in
theorem inames_any (x : Value) (V : ByteArray → List VV) (Q : ByteArray → List Nat) (W : Nat → Option ByteArray) (S : Nat → Prop) (w : World) (h : IRep w x V Q W S) (L : List ByteArray) (hL : L.length ≤ 1000) (hsz : ∀ n ∈ L, n.size ≤ maxLen) (hcov : ∀ n, V n ≠ [] ∨ Q n ≠ [] → n ∈ L) :
    Calls Try.prog 24 #[x] w fun e w' => ∃ (v : Value) (ss : List (List UInt8)), e = .returned v ∧ Reads w' v ss.length 1 (ss.map encStr) ∧ Below w.heap.size w w' ∧ ss.Pairwise (· < ·) ∧ ∀ s : List UInt8, s ∈ ss ↔ V ⟨s.toArray⟩ ≠ [] ∨ Q ⟨s.toArray⟩ ≠ [] := by
  obtain ⟨bx, bv, bq, bw, col, pv, pq, rfl, h⟩ := h
  have hc0 := cellAt h.blk 0 (v := .map (some bv)) rfl
  have hc1 := cellAt h.blk 1 (v := .map (some bq)) rfl
  have hvm : ∀ n, vmap V pv n ≠ none ↔ V n ≠ [] := fun n => by
    by_cases hn : V n = []
    · rw [vmap_none hn]; simp [hn]
    · rw [vmap_some hn]; simp [hn]
  have hqm : ∀ n, vmap Q pq n ≠ none ↔ Q n ≠ [] := fun n => by
    by_cases hn : Q n = []
    · rw [vmap_none hn]; simp [hn]
    · rw [vmap_some hn]; simp [hn]
  obtain ⟨DV, hDV, hVs, hVk⟩ := map_names h.mv L (fun n hn => hcov n (.inl ((hvm n).1 hn))) hsz (by unfold maxLen; omega)
  obtain ⟨DQ, hDQ, hQs, hQk⟩ := map_names h.mq L (fun n hn => hcov n (.inr ((hqm n).1 hn))) hsz (by unfold maxLen; omega)
  have HDV := Lib.hid hDV
  have HDQ := Lib.hid hDQ
  have HVK := Lib.hid hVk
  have HQK := Lib.hid hQk
  have HVM := Lib.hid hvm
  have HQM := Lib.hid hqm
  have hbx := lt_of_heap h.blk
  have HC0 := Lib.hid hc0
  have HC1 := Lib.hid hc1
  clear h hcov hDV hDQ hVk hQk hvm hqm hsz
  go_enter Try.func24, Try.ntmps24
  go_wp2_with fail
  go_region_held3 (fun w' => w'.cell? ⟨bx, 0, none⟩ = some (.map (some bv)) ∧ w'.cell? ⟨bx, 1, none⟩ = some (.map (some bq))) (first | exact ⟨HC0.out, HC1.out⟩ | exact ⟨HC10.out, HC11.out⟩ | exact ⟨HC20.out, HC21.out⟩ | exact ⟨HC30.out, HC31.out⟩ | exact ⟨HC40.out, HC41.out⟩)
    (first
      | (go_at_call 43; refine (keysV_any _ _).mono ?_; rintro e w1 ⟨rfl, hx1, hb1⟩; have HB1 := Lib.hid ((Below.refl w.heap.size w).drew.trans hb1); have HBX := Lib.hid hx1; have HC10 := Lib.hid ((HB1.out.cell (p := ⟨bx, 0, none⟩) hbx).trans HC0.out); have HC11 := Lib.hid ((HB1.out.cell (p := ⟨bx, 1, none⟩) hbx).trans HC1.out); clear hx1 hb1)
      | (go_at_call 42; refine (collectV_any _ HBX.out (ownsMap_later HDV.out HB1.out) (by omega)).mono ?_; rintro e w2 ⟨v2, ss2, rfl, hp2, hr2, hb2⟩; have HP2 := Lib.hid hp2; have HR2 := Lib.hid (ownsRow_base hr2 HB1.out.size); have HB2 := Lib.hid (HB1.out.trans (hb2.mono HB1.out.size)); have HC20 := Lib.hid ((HB2.out.cell (p := ⟨bx, 0, none⟩) hbx).trans HC0.out); have HC21 := Lib.hid ((HB2.out.cell (p := ⟨bx, 1, none⟩) hbx).trans HC1.out); have HL2 : Hid (ss2.length ≤ 100000) := (by have := hp2.length_eq; have := strKeys_len DV; rw [Hid]; omega); clear hp2 hr2 hb2)
      | (go_at_call 44; refine (keysQ_any _ _).mono ?_; rintro e w3 ⟨rfl, hx3, hb3⟩; have HBY := Lib.hid hx3; have HR3 := Lib.hid (HR2.out.kept (row := none) ⟨hb3.os, hb3.tape, hb3.output, hb3.size, fun k hk _ => hb3.block k hk⟩ (by cases h : v2.ownBlock <;> simp)); have HB3 := Lib.hid (HB2.out.trans (hb3.mono HB2.out.size)); have HC30 := Lib.hid ((HB3.out.cell (p := ⟨bx, 0, none⟩) hbx).trans HC0.out); have HC31 := Lib.hid ((HB3.out.cell (p := ⟨bx, 1, none⟩) hbx).trans HC1.out); clear hx3 hb3)
      | (go_at_call 41; refine (appendQ_any w _ HBY.out (ownsMap_later HDQ.out HB3.out) (by omega) v2 ss2 HL2.out HR3.out HB3.out).mono ?_; rintro e w4 ⟨v4, ss4, rfl, hp4, hr4, hb4⟩; have HP4 := Lib.hid hp4; have HR4 := Lib.hid hr4; have HB4 := Lib.hid hb4; have HC40 := Lib.hid ((HB4.out.cell (p := ⟨bx, 0, none⟩) hbx).trans HC0.out); have HC41 := Lib.hid ((HB4.out.cell (p := ⟨bx, 1, none⟩) hbx).trans HC1.out); clear hp4 hr4 hb4))
  have HSC := Lib.hid (sort_compactS v4 (ss2 ++ ss4) w4 w.heap.size HR4.out (by have h2 := HP2.out.length_eq; have h4 := HP4.out.length_eq; have := strKeys_len DV; have := strKeys_len DQ; rw [List.length_append]; omega) HB4.out.size)
  obtain ⟨hcs, hcm⟩ := compact_sorted (ss2 ++ ss4)
  have HCS := Lib.hid hcs
  have HCM := Lib.hid hcm
  clear hcs hcm
  generalize Lib.compact ((ss2 ++ ss4).mergeSort leS) = zz at *
  go_wp2_with fail
  refine HSC.out.mono ?_
  rintro e w5 ⟨rfl, hb5, hc5⟩
  have HB5 := Lib.hid (HB4.out.trans hb5)
  have HC5 := Lib.hid hc5
  clear hb5 hc5 HSC
  go_wp2_with fail
  refine HC5.out.mono ?_
  rintro e w6 ⟨v6, rfl, hr6, hb6⟩
  have HB6 := Lib.hid (HB5.out.trans hb6)
  have HR6 := Lib.hid hr6
  clear hr6 hb6 HC5
  go_wp2
  go_ret
  refine ⟨_, zz, rfl, HR6.out, HB6.out, HCS.out, fun s => ?_⟩
  rw [HCM.out, List.mem_append, (HVK.out ss2 HP2.out).2, (HQK.out ss4 HP4.out).2, HVM.out, HQM.out]
end Go.Proofs.Ytbofbboogmeneaa
