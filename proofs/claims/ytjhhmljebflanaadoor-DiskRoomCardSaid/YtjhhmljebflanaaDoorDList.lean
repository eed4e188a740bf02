/- (*Disk).List. -/
import Derived.Test.YtjhhmljebflanaaDoorDSmall
import Derived.Test.YtjhhmljebflanaaDoorMapNames
namespace Go.Proofs.YtjhhmljebflanaaDoor
set_option linter.unusedVariables false
set_option linter.unusedSimpArgs false
open Go.RowKit Go.Maps Go.Sort Go.Shelf Go.Proofs

theorem keys_any (mb : Option Nat) (w : World) :
    Calls Tryd.prog 41 #[.map mb] w fun e w' => e = .returned (.func (.func 52) #[] #[.pointer (some ⟨w.heap.size, 0, none⟩)]) ∧ w'.heap[w.heap.size]? = some (.cells #[.map mb] 61 (0, 0)) ∧ Below w.heap.size w w' := by
  refine (callsIn_wide.1 (AnyZ.keys_in Tryd.keysF Fence.wide 5 trivial rfl mb w)).mono ?_
  rintro e w' ⟨rfl, rfl⟩
  exact ⟨rfl, heap_alloc_new w _, (Below.refl _ _).alloc (Nat.le_refl _) _⟩

theorem sorts_any (m : Nat) : AnyZ.SortsIn Tryd.prog Tryd.sortedS_ren Fence.wide m :=
  ⟨fun blk off cap ss W hH hblk hsz => callsIn_wide.2 (AnyM.slices_Sort_string Tryd.sortS blk off cap ss W hH hblk hsz),
   fun p cap W => callsIn_wide.2 (AnyM.slices_Sort_string_none Tryd.sortS p cap W)⟩

theorem sorted_any {Bm b nn : Nat} {D0 : DataW Unit} (w : World) (hBm : w.heap[Bm]? = some (.cells #[.map (some b)] 61 (0, 0))) (hown : w.ownsMap Tryd.prog 9 anyR b nn D0) (hN : size D0 ≤ 100000) :
    Calls Tryd.prog 40 #[.func (.func 52) #[] #[.pointer (some ⟨Bm, 0, none⟩)]] w fun e w' =>
      ∃ (v : Value) (ss : List (List UInt8)), e = .returned v ∧ ss.Perm (strKeys D0) ∧ w'.ownsRow w.heap.size 9 1 v ss.length ((ss.mergeSort leS).map encStr) ∧ Below w.heap.size w w' := by
  have hc : w.cell? ⟨Bm, 0, none⟩ = some (.map (some b)) := by simp [World.cell?, hBm]
  have hseq := AnyZ.keys_gives (ρ := Tryd.keysF_ren) { Tryd.keysF with } Fence.wide (5 - 1 - 1 - 1) trivial rfl (by omega) Bm b nn D0 w (lt_of_heap hBm) hc hown
  refine (callsIn_wide.1 (AnyZ.sorted_in Tryd.sortedS Fence.wide 5 trivial trivial trivial trivial rfl (by omega) (sorts_any _) (enters_of Tryd.func51 (by kernel_rfl) rfl) 52 #[.pointer (some ⟨Bm, 0, none⟩)] trivial (enters_of Tryd.func52 (by kernel_rfl) rfl) _ _ (by unfold maxLen; omega) (by omega) w hseq)).mono ?_
  rintro e w' ⟨v, ss, rfl, h1, h2, -, h3⟩
  exact ⟨v, ss, rfl, h1, h2, h3⟩

theorem ownsMap_later {w w' : World} {b n : Nat} {D0 : DataW Unit} (h : w.ownsMap Tryd.prog 9 anyR b n D0) (hb : Below w.heap.size w w') : w'.ownsMap Tryd.prog 9 anyR b n D0 := by
  have hbl := h.lt
  obtain ⟨es, clock, h1, Ft, hs, hD⟩ := h
  exact ⟨es, clock, (hb.block b hbl).trans h1, Ft, hs, hD⟩

set_option maxRecDepth 100000 in
set_option maxHeartbeats 1000000 in
theorem list_any (x : Value) (D : DS) (S : Nat → Prop) (w : World) (h : DRep w x D S) (hl : D.files.length ≤ 100000) (hnm : ∀ f ∈ D.files, f.name.size ≤ maxLen) :
    Calls Tryd.prog 27 #[x] w fun e w' => ∃ (v : Value) (ss : List (List UInt8)), e = .returned v ∧ Row w' 9 1 v ss.length (ss.map encStr) (fun k => w.heap.size ≤ k) ∧ Below w.heap.size w w' ∧ ss.Pairwise (· < ·) ∧ ∀ s : List UInt8, s ∈ ss ↔ ⟨s.toArray⟩ ∈ D.files.map DF.name := by
  obtain ⟨bx, bm, col, pv, rfl, h⟩ := h
  have hc1 := cellAt h.blk 1 (v := .map (some bm)) rfl
  have hmem : ∀ n, fmap D.files pv n ≠ none ↔ n ∈ D.files.map DF.name := fun n => by
    have := findD_none (l := D.files) (n := n)
    unfold fmap
    rw [ne_eq, Option.map_eq_none_iff, this]
    exact Classical.not_not
  obtain ⟨D0, hD, hsz, hk⟩ := map_names h.mp (D.files.map DF.name) (fun n hn => (hmem n).1 hn) (fun n hn => by obtain ⟨f, hf, rfl⟩ := List.mem_map.1 hn; exact hnm f hf) (by rw [List.length_map]; unfold maxLen; omega)
  rw [List.length_map] at hsz
  have HD := Lib.hid hD
  have HK := Lib.hid hk
  have HM := Lib.hid hmem
  clear h hD hk hmem hnm
  go_enter Tryd.func27, Tryd.ntmps27
  go_wp2_with fail
  refine (keys_any _ _).mono ?_
  rintro e w1 ⟨rfl, hx1, hb1⟩
  have HB1 := Lib.hid hb1
  have HX1 := Lib.hid hx1
  clear hx1 hb1
  go_wp2_with fail
  refine (sorted_any _ HX1.out (ownsMap_later HD.out HB1.out) (by omega)).mono ?_
  rintro e w2 ⟨v, ss, rfl, hp, hr, hb2⟩
  have HP := Lib.hid hp
  have HR := Lib.hid hr
  have HB2 := Lib.hid (HB1.out.trans (hb2.mono HB1.out.size))
  clear hp hr hb2
  go_wp2
  go_ret
  have hperm := sortS_perm ss
  have hlen := hperm.length_eq
  obtain ⟨hnd, hmm⟩ := HK.out ss HP.out
  refine ⟨v, ss.mergeSort leS, rfl, ?_, HB2.out, ?_, fun s => ?_⟩
  · have h1 := Row.ofOwns HR.out
    rw [← hlen] at h1
    have := HB1.out.size
    exact h1.mono (fun k hk => by omega)
  · have hnd2 := hperm.nodup_iff.2 hnd
    exact (List.Pairwise.and (sortS_sorted ss) hnd2).imp (fun h => ltS_of h.1 h.2)
  · rw [hperm.mem_iff, hmm, HM.out]
end Go.Proofs.YtjhhmljebflanaaDoor
