/- slices.Index, slices.Contains, slices.Equal of lists of uint64. -/
import Derived.Test.YtbofbboogmeneaaInLine
import Derived.Deep.QuietTactic
import Derived.BigQuiet
namespace Go.Proofs.Ytbofbboogmeneaa
set_option linter.unusedVariables false
set_option linter.unusedSimpArgs false
open Go.RowKit

theorem placeZ_hit {l : List Nat} {k m : Nat} (hm : m < l.length) (h : l[m] = k) (hlow : ∀ j (hj : j < m), l[j]'(by omega) ≠ k) : placeZ l k = (m : Int) := by
  have : l.idxOf? k = some m := by
    rw [List.idxOf?, List.findIdx?_eq_some_iff_getElem]
    exact ⟨hm, by simp [h], fun j hj => by simpa using hlow j hj⟩
  simp [placeZ, this]
theorem placeZ_miss {l : List Nat} {k : Nat} (hlow : ∀ j (hj : j < l.length), l[j] ≠ k) : placeZ l k = -1 := by
  refine place_new (fun h => ?_)
  obtain ⟨j, hj, he⟩ := List.mem_iff_getElem.1 h
  exact hlow j hj he

set_option maxRecDepth 100000 in
set_option maxHeartbeats 1000000 in
theorem sindex_any (v : Value) (l : List Nat) (k : Nat) (w : World) (hr : Reads w v l.length 1 (u64V l)) (hl : l.length ≤ 1000) :
    Calls Try.prog 32 #[v, .int .u64 k] w fun e w' => e = .returned (.int .i64 (placeZ l k)) ∧ w = w' := by
  have HR := Lib.hid hr
  obtain ⟨-, ao, c, rfl, -, -, -⟩ := hr
  have HIT : Hid (∀ (m : Nat) (hm : m < l.length), l[m] = k → (∀ j (hj : j < m), l[j]'(by omega) ≠ k) → placeZ l k = (m : Int)) := fun m hm h hl => placeZ_hit hm h hl
  have MISS : Hid ((∀ j (hj : j < l.length), l[j] ≠ k) → placeZ l k = -1) := fun h => placeZ_miss h
  generalize placeZ l k = z at *
  go_enter Try.func32, Try.ntmps32
  go_wp2
  go_loopw [8] (fun i w' => ∃ m : Nat, m ≤ l.length ∧ i = .int .i64 m ∧ w' = w ∧ Hid (∀ j (hj : j < l.length), j < m → l[j] ≠ k)) (fun i _ => l.length - (RowKit.intOf i).toNat)
  case atStart => exact ⟨0, by omega, rfl, rfl, fun j _ hj => by omega⟩
  case round =>
    obtain ⟨m, hm, rfl, rfl, hlow⟩ := hrel
    by_cases hlt : m < l.length
    · obtain ⟨b, o, c', hv, hnc, -, hc⟩ := HR.out.at (by omega)
      cases hv
      have hcell : wr.cell? ⟨b, o + m, none⟩ = some (.int .u64 (l[m] : Nat)) := hc m _ (by simp [hlt])
      by_cases he : l[m] = k
      · have HZ := Lib.hid (HIT.out m hlt he (fun j hj => hlow.out j (by omega) hj))
        rw [he] at hcell
        clear he hc
        go_wp2
        go_ret
        exact ⟨congrArg (fun x => Ending.returned (.int .i64 x)) HZ.out.symm, rfl⟩
      · have hne : ((k : Int) == (l[m] : Int)) = false := by rw [beq_eq_false_iff_ne]; omega
        have HL := Lib.hid (show ∀ j (hj : j < l.length), j < m + 1 → l[j] ≠ k from fun j hj hjm => by
          rcases Nat.lt_or_ge j m with h | h
          · exact hlow.out j hj h
          · have : j = m := by omega
            subst this; exact he)
        clear hc
        generalize l[m] = y at *
        clear he
        go_wp2
        go_roundw
        case rel => exact ⟨m + 1, by omega, by go_num, by trivial, HL.out⟩
        case measure => simp [RowKit.intOf]; omega
    · obtain rfl : m = l.length := by omega
      have HZ := Lib.hid (MISS.out (fun j hj => hlow.out j hj hj))
      go_wp2
      go_ret
      exact ⟨congrArg (fun x => Ending.returned (.int .i64 x)) HZ.out.symm, rfl⟩

theorem placeZ_mem (l : List Nat) (k : Nat) : decide (0 ≤ placeZ l k) = l.elem k := by
  unfold placeZ
  cases h : l.idxOf? k with
  | none =>
    have := List.idxOf?_eq_none_iff.1 h
    simp [this]
  | some i =>
    have hm : k ∈ l := by
      refine Classical.byContradiction (fun hn => ?_)
      rw [List.idxOf?_eq_none_iff.2 hn] at h; cases h
    simp [hm]

set_option maxRecDepth 100000 in
set_option maxHeartbeats 1000000 in
theorem scontains_any (v : Value) (l : List Nat) (k : Nat) (w : World) (hr : Reads w v l.length 1 (u64V l)) (hl : l.length ≤ 1000) :
    Calls Try.prog 12 #[v, .int .u64 k] w fun e w' => e = .returned (.bool (l.elem k)) ∧ w = w' := by
  have H := Lib.hid (sindex_any v l k w hr hl)
  rw [← placeZ_mem]
  clear hr
  generalize placeZ l k = z at *
  go_enter Try.func12, Try.ntmps12
  go_wp2_with fail
  refine H.out.mono ?_
  rintro e w1 ⟨rfl, rfl⟩
  go_wp2
  go_ret
  exact ⟨rfl, rfl⟩

set_option maxRecDepth 100000 in
set_option maxHeartbeats 1000000 in
theorem sequal_same (v u : Value) (l : List Nat) (w : World) (hr : Reads w v l.length 1 (u64V l)) (hs : Reads w u l.length 1 (u64V l)) (hl : l.length ≤ 1000) :
    Calls Try.prog 13 #[v, u] w fun e w' => e = .returned (.bool true) ∧ ∃ n, w' = w.drewN n := by
  have HR := Lib.hid hr
  have HS := Lib.hid hs
  obtain ⟨-, ao, c, rfl, -, -, -⟩ := hr
  obtain ⟨-, ao2, c2, rfl, -, -, -⟩ := hs
  go_enter Try.func13, Try.ntmps13
  go_wp2
  go_loopw [13] (fun i w' => ∃ m : Nat, m ≤ l.length ∧ i = .int .i64 m ∧ Hid (∃ n, w' = w.drewN n)) (fun i _ => l.length - (RowKit.intOf i).toNat)
  case atStart => exact ⟨0, by omega, rfl, 0, rfl⟩
  case round =>
    obtain ⟨m, hm, rfl, hw⟩ := hrel
    by_cases hlt : m < l.length
    · obtain ⟨b, o, c', hv, hnc, -, hc⟩ := HR.out.at (by omega)
      obtain ⟨b2, o2, c2', hv2, hnc2, -, hc2⟩ := HS.out.at (by omega)
      cases hv
      cases hv2
      have e1 : w.cell? ⟨b, o + m, none⟩ = some (.int .u64 (l[m] : Nat)) := hc m _ (by simp [hlt])
      have e2 : w.cell? ⟨b2, o2 + m, none⟩ = some (.int .u64 (l[m] : Nat)) := hc2 m _ (by simp [hlt])
      have hcell : wr.cell? ⟨b, o + m, none⟩ = some (.int .u64 (l[m] : Nat)) := by obtain ⟨n, rfl⟩ := hw.out; exact e1
      have hcell2 : wr.cell? ⟨b2, o2 + m, none⟩ = some (.int .u64 (l[m] : Nat)) := by obtain ⟨n, rfl⟩ := hw.out; exact e2
      clear e1 e2 hc hc2
      generalize l[m] = y at *
      go_wp2_with fail
      go_quiet (fail)
      go_wp2
      go_roundw
      case rel => exact ⟨m + 1, by omega, by go_num, by obtain ⟨n, rfl⟩ := hw.out; exact ⟨_, (World.drewN_drewN ..)⟩⟩
      case measure => simp [RowKit.intOf]; omega
    · obtain rfl : m = l.length := by omega
      go_wp2
      go_ret
      exact ⟨rfl, hw.out⟩
end Go.Proofs.Ytbofbboogmeneaa
