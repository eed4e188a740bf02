/- The answers of an inbox are those of the reference. -/
import Derived.Test.YtbofbboogmeneaaInSteps
import Derived.Test.YtbofbboogmeneaaSliceU
namespace Go.Proofs.Ytbofbboogmeneaa
set_option linter.unusedVariables false
set_option linter.unusedSimpArgs false
open Go.RowKit

set_option maxRecDepth 100000 in
set_option maxHeartbeats 1000000 in
theorem sequalS_same (v u : Value) (l : List Str) (w : World) (hr : Reads w v l.length 1 (strV l)) (hs : Reads w u l.length 1 (strV l)) (hl : l.length ≤ 1000) :
    Calls Try.prog 52 #[v, u] w fun e w' => e = .returned (.bool true) ∧ ∃ n, w' = w.drewN n := by
  have HR := Lib.hid hr
  have HS := Lib.hid hs
  obtain ⟨-, ao, c, rfl, -, -, -⟩ := hr
  obtain ⟨-, ao2, c2, rfl, -, -, -⟩ := hs
  go_enter Try.func52, Try.ntmps52
  go_wp2
  go_loopw [13] (fun i w' => ∃ m : Nat, m ≤ l.length ∧ i = .int .i64 m ∧ Hid (∃ n, w' = w.drewN n)) (fun i _ => l.length - (RowKit.intOf i).toNat)
  case atStart => exact ⟨0, by omega, rfl, 0, rfl⟩
  case round =>
    obtain ⟨m, hm, rfl, hw⟩ := hrel
    by_cases hlt : m < l.length
    · obtain ⟨b, o, c', hv, hnc, -, hc⟩ := HR.out.at (by omega)
      obtain ⟨b2, o2, c2', hv2, hnc2, -, hc2⟩ := HS.out.at (by omega)
      cases hv
      cases hv2
      have e1 : w.cell? ⟨b, o + m, none⟩ = some (.string ⟨l[m].toArray⟩) := hc m _ (by simp [hlt])
      have e2 : w.cell? ⟨b2, o2 + m, none⟩ = some (.string ⟨l[m].toArray⟩) := hc2 m _ (by simp [hlt])
      have hcell : wr.cell? ⟨b, o + m, none⟩ = some (.string ⟨l[m].toArray⟩) := by obtain ⟨n, rfl⟩ := hw.out; exact e1
      have hcell2 : wr.cell? ⟨b2, o2 + m, none⟩ = some (.string ⟨l[m].toArray⟩) := by obtain ⟨n, rfl⟩ := hw.out; exact e2
      clear e1 e2 hc hc2
      generalize (⟨l[m].toArray⟩ : ByteArray) = y at *
      go_wp2_with fail
      go_quiet (fail)
      go_wp2
      go_roundw
      case rel => exact ⟨m + 1, by omega, by go_num, by obtain ⟨n, rfl⟩ := hw.out; exact ⟨_, (World.drewN_drewN ..)⟩⟩
      case measure => simp [RowKit.intOf]; omega
    · obtain rfl : m = l.length := by omega
      go_wp2
      go_ret
      exact ⟨rfl, hw.out⟩

section
variable {w00 w0 w : World} {x lv wv : Value} {M : List Let} {Ws : List (ByteArray × Nat)} {V : ByteArray → List VV} {W : Nat → Option ByteArray} {S T R : Nat → Prop}

theorem Inv.namesLen (h : Inv w00 w0 w x lv wv M Ws V W S T R) : (namesOf (M.map ltr) Ws).length ≤ M.length + Ws.length := by
  unfold namesOf
  have h1 := addN_len (Ws.map (·.1)) (addN [] ((M.map ltr).map (·.1)))
  have h2 := addN_len ((M.map ltr).map (·.1)) []
  simp only [List.length_map, List.length_nil] at h1 h2
  omega

theorem Inv.namesMem (h : Inv w00 w0 w x lv wv M Ws V W S T R) (s : Str) : s ∈ namesOf (M.map ltr) Ws ↔ V ⟨s.toArray⟩ ≠ [] ∨ idsOf Ws ⟨s.toArray⟩ ≠ [] := by
  unfold namesOf
  rw [addN_mem, addN_mem, Ne, h.empty, ← Ne, trOf_mem, idsOf_ne]
  constructor
  · rintro ((h1 | ⟨n, h1, rfl⟩) | ⟨n, h1, rfl⟩)
    · cases h1
    · rw [mk_toList]
      obtain ⟨y, hy, rfl⟩ := List.mem_map.1 h1
      obtain ⟨z, hz, rfl⟩ := List.mem_map.1 hy
      exact .inl ⟨z, hz, rfl⟩
    · rw [mk_toList]
      obtain ⟨y, hy, rfl⟩ := List.mem_map.1 h1
      exact .inr ⟨y, hy, rfl⟩
  · rintro (⟨y, h1, h2⟩ | ⟨y, h1, h2⟩)
    · exact .inl (.inr ⟨y.1, List.mem_map.2 ⟨ltr y, List.mem_map.2 ⟨y, h1, rfl⟩, rfl⟩, by rw [h2]; exact toList_mk s⟩)
    · exact .inr ⟨y.1, List.mem_map.2 ⟨y, h1, rfl⟩, by rw [h2]; exact toList_mk s⟩

theorem Inv.names (h : Inv w00 w0 w x lv wv M Ws V W S T R) (hM : M.length ≤ 200) (hW : Ws.length ≤ 200) :
    Calls Try.prog 24 #[x] w fun e w' => ∃ v, e = .returned v ∧ Reads w' v (namesOf (M.map ltr) Ws).length 1 (strV (namesOf (M.map ltr) Ws)) ∧ Below w.heap.size w w' := by
  refine (inames_any x V (idsOf Ws) W S w h.box.box.rep (M.map (·.1) ++ Ws.map (·.1)) (by simp; omega) (fun n hn => ?_) (fun n hn => ?_)).mono ?_
  · have : n.size ≤ 300 := by
      rcases List.mem_append.1 hn with h1 | h1
      · obtain ⟨y, hy, rfl⟩ := List.mem_map.1 h1; exact (h.vals y hy).2.2
      · obtain ⟨y, hy, rfl⟩ := List.mem_map.1 h1; exact h.waits y hy
    unfold maxLen; omega
  · rw [Ne, h.empty, ← Ne, trOf_mem, idsOf_ne] at hn
    rcases hn with ⟨y, h1, rfl⟩ | ⟨y, h1, rfl⟩
    · exact List.mem_append.2 (.inl (List.mem_map.2 ⟨y, h1, rfl⟩))
    · exact List.mem_append.2 (.inr (List.mem_map.2 ⟨y, h1, rfl⟩))
  · rintro e w' ⟨v, ss, he, hr, hb, hs, hm⟩
    have hn1 : (namesOf (M.map ltr) Ws).Pairwise (· < ·) := addN_sorted _ _ (addN_sorted _ _ List.Pairwise.nil)
    have : ss = namesOf (M.map ltr) Ws := sorted_unique hs hn1 (fun s => (hm s).trans (h.namesMem s).symm)
    subst this
    exact ⟨v, he, hr, hb⟩

theorem Inv.rnames (h : Inv w00 w0 w x lv wv M Ws V W S T R) (hM : M.length ≤ 200) (hW : Ws.length ≤ 200) :
    Calls Try.prog 27 #[.agg #[lv, wv]] w fun e w' => ∃ v, e = .returned v ∧ Reads w' v (namesOf (M.map ltr) Ws).length 1 (strV (namesOf (M.map ltr) Ws)) ∧ Below w.heap.size w w' :=
  rnames_any lv wv (M.map ltr) Ws R w h.lrow h.wrow (by simp; omega) (by omega)

theorem Inv.counts (h : Inv w00 w0 w x lv wv M Ws V W S T R) (name : ByteArray) :
    Calls Try.prog 17 #[x, .string name] w fun e w' => e = .returned (.int .i64 ((M.map ltr).filter (fun y => decide (y.1 = name))).length) ∧ w = w' := by
  have := icount_any x name V (idsOf Ws) W S w h.box.box.rep
  rwa [h.count name] at this

theorem Inv.rcounts (h : Inv w00 w0 w x lv wv M Ws V W S T R) (hM : M.length ≤ 200) (name : ByteArray) :
    Calls Try.prog 50 #[.agg #[lv, wv], .string name] w fun e w' => e = .returned (.int .i64 ((M.map ltr).filter (fun y => decide (y.1 = name))).length) ∧ Below w.heap.size w w' :=
  rcount_any lv wv (M.map ltr) R name w h.lrow (by simp; omega) h.rows.slices.2

theorem Inv.waiting (h : Inv w00 w0 w x lv wv M Ws V W S T R) (name : ByteArray) :
    Calls Try.prog 14 #[x, .string name] w fun e w' => ∃ v, e = .returned v ∧ Reads w' v (idsOf Ws name).length 1 (u64V (idsOf Ws name)) ∧ Below w.heap.size w w' :=
  (iwaiting_any x name V (idsOf Ws) W S w h.box.box.rep).mono fun e w' ⟨v, he, ho, hb⟩ => ⟨v, he, reads_of_owns ho, hb⟩

theorem Inv.rwaiting (h : Inv w00 w0 w x lv wv M Ws V W S T R) (hW : Ws.length ≤ 200) (name : ByteArray) :
    Calls Try.prog 51 #[.agg #[lv, wv], .string name] w fun e w' => ∃ v, e = .returned v ∧ Reads w' v (idsOf Ws name).length 1 (u64V (idsOf Ws name)) ∧ Below w.heap.size w w' :=
  rwaiting_any lv wv Ws R name w h.wrow (by omega) h.rows.slices.1
end
end Go.Proofs.Ytbofbboogmeneaa
