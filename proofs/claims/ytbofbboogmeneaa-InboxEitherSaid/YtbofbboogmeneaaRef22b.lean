/- The reference of an inbox: who waits. -/
import Derived.Test.YtbofbboogmeneaaRef22
import Derived.Test.YtbofbboogmeneaaSliceU
namespace Go.Proofs.Ytbofbboogmeneaa
set_option linter.unusedVariables false
set_option linter.unusedSimpArgs false
open Go.RowKit

theorem str_ne {a b : ByteArray} (h : ¬ a = b) : (¬ a.toList = b.toList) ∧ (a.toList == b.toList) = false := by
  have h1 : ¬ a.toList = b.toList := fun e => h (by
    have h2 := ba_beq a b
    rw [beq_toListBytes, e] at h2
    simpa using h2)
  exact ⟨h1, by simpa using h1⟩

set_option maxRecDepth 100000 in
set_option maxHeartbeats 1000000 in
theorem rwaits_any (lv wv : Value) (Ws : List (ByteArray × Nat)) (R : Nat → Prop) (id : Nat) (w : World) (h : WRow w wv Ws R) (hL : Ws.length ≤ 1000) (hw : ∃ a n c, lv = .slice a n c) :
    Calls Try.prog 64 #[.agg #[lv, wv], .int .u64 id] w fun e w' => e = .returned (.int .i64 (placeZ (Ws.map (·.2)) id)) ∧ Below w.heap.size w w' := by
  obtain ⟨la, ln, lc, rfl⟩ := hw
  obtain ⟨wa, wc, rfl⟩ := slice_form h
  have H := Lib.hid h
  clear h
  have HIT : Hid (∀ (m : Nat) (hm : m < Ws.length), Ws[m].2 = id → (∀ j (hj : j < m), (Ws[j]'(by omega)).2 ≠ id) → placeZ (Ws.map (·.2)) id = (m : Int)) := fun m hm he hl => placeZ_hit (by simpa using hm) (by simpa using he) (fun j hj => by simpa using hl j hj)
  have MISS : Hid ((∀ j (hj : j < Ws.length), Ws[j].2 ≠ id) → placeZ (Ws.map (·.2)) id = -1) := fun hl => placeZ_miss (fun j hj => by simpa using hl j (by simpa using hj))
  generalize placeZ (Ws.map (·.2)) id = pz at *
  have HBX : Hid ((w.alloc (.cells #[.slice la ln lc, .slice wa Ws.length wc] 53)).heap[w.heap.size]? = some (.cells #[.slice la ln lc, .slice wa Ws.length wc] 53 (0, 0))) := heap_alloc_new w _
  have HBel : Hid (Below w.heap.size w (w.alloc (.cells #[.slice la ln lc, .slice wa Ws.length wc] 53))) := (Below.refl _ _).alloc (Nat.le_refl _) _
  go_enter Try.func64, Try.ntmps64
  go_wp2
  generalize w.alloc (.cells #[.slice la ln lc, .slice wa Ws.length wc] 53) = wd at *
  go_loop [5] (fun i => ∃ m : Nat, m ≤ Ws.length ∧ i = .int .i64 m ∧ Hid (∀ j (hj : j < Ws.length), j < m → Ws[j].2 ≠ id)) (fun i => Ws.length - (RowKit.intOf i).toNat)
  case atStart => exact ⟨0, by omega, rfl, fun j _ h => by omega⟩
  case round =>
    obtain ⟨m, hm, rfl, HLOW⟩ := hrel
    have hx1 := (cells2 HBX.out).2
    by_cases hlt : m < Ws.length
    · obtain ⟨b, o, c, he, hcap, hb, hcell⟩ := WRow.cells (H.out.frame (w' := wd) (fun k _ hk => HBel.out.block k hk)) (by omega)
      obtain ⟨rfl, rfl⟩ : wa = some ⟨b, o, none⟩ ∧ wc = c := by cases he; exact ⟨rfl, rfl⟩
      have hc := (hcell m hlt).2
      by_cases hk : Ws[m].2 = id
      · have HE : Hid (pz = (m : Int)) := HIT.out m hlt hk (fun j hj => HLOW.out j (by omega) hj)
        rw [hk] at hc
        clear hcell he hk
        go_wp2
        go_ret
        exact ⟨congrArg (fun x => Ending.returned (.int .i64 x)) HE.out.symm, HBel.out⟩
      · have hne : ((Ws[m].2 : Int) == (id : Int)) = false := by rw [beq_eq_false_iff_ne]; omega
        have HN : Hid (∀ j (hj : j < Ws.length), j < m + 1 → Ws[j].2 ≠ id) := fun j hj hjm => by
          rcases Nat.lt_or_ge j m with h | h
          · exact HLOW.out j hj h
          · have : j = m := by omega
            subst this; exact hk
        clear hcell he hk
        generalize Ws[m].2 = key at *
        go_wp2
        go_round
        case rel => exact ⟨m + 1, by omega, by go_num, HN⟩
        case measure => simp [RowKit.intOf]; omega
    · have HE : Hid (pz = -1) := MISS.out (fun j hj => HLOW.out j hj (by omega))
      go_wp2
      go_ret
      exact ⟨congrArg (fun x => Ending.returned (.int .i64 x)) HE.out.symm, HBel.out⟩

def idsOf (Ws : List (ByteArray × Nat)) (name : ByteArray) : List Nat := (Ws.filter (fun x => decide (x.1 = name))).map (·.2)

theorem idsOf_take (Ws : List (ByteArray × Nat)) (name : ByteArray) (m : Nat) (hm : m < Ws.length) : idsOf (Ws.take (m + 1)) name = idsOf (Ws.take m) name ++ if Ws[m].1 = name then [Ws[m].2] else [] := by
  unfold idsOf
  rw [List.take_succ_eq_append_getElem hm, List.filter_append, List.map_append]
  congr 1
  by_cases hk : Ws[m].1 = name <;> simp [List.filter_cons, hk]
theorem idsOf_len (Ws : List (ByteArray × Nat)) (name : ByteArray) : (idsOf Ws name).length ≤ Ws.length := by
  unfold idsOf; rw [List.length_map]; exact List.length_filter_le _ _

set_option maxRecDepth 100000 in
set_option maxHeartbeats 1000000 in
theorem rwaiting_any (lv wv : Value) (Ws : List (ByteArray × Nat)) (R : Nat → Prop) (name : ByteArray) (w : World) (h : WRow w wv Ws R) (hL : Ws.length ≤ 1000) (hw : ∃ a n c, lv = .slice a n c) :
    Calls Try.prog 51 #[.agg #[lv, wv], .string name] w fun e w' => ∃ v, e = .returned v ∧ Reads w' v (idsOf Ws name).length 1 (u64V (idsOf Ws name)) ∧ Below w.heap.size w w' := by
  obtain ⟨la, ln, lc, rfl⟩ := hw
  obtain ⟨wa, wc, rfl⟩ := slice_form h
  have H := Lib.hid h
  clear h
  have HBX : Hid ((w.alloc (.cells #[.slice la ln lc, .slice wa Ws.length wc] 53)).heap[w.heap.size]? = some (.cells #[.slice la ln lc, .slice wa Ws.length wc] 53 (0, 0))) := heap_alloc_new w _
  have HBel : Hid (Below w.heap.size w (w.alloc (.cells #[.slice la ln lc, .slice wa Ws.length wc] 53))) := (Below.refl _ _).alloc (Nat.le_refl _) _
  have HSZ : Hid (w.heap.size + 1 ≤ (w.alloc (.cells #[.slice la ln lc, .slice wa Ws.length wc] 53)).heap.size) := by simp [Hid]
  have HLE : Hid (∀ m, m ≤ Ws.length → (idsOf (Ws.take m) name).length ≤ m) := fun m hm => Nat.le_trans (idsOf_len _ _) (by rw [List.length_take]; omega)
  go_enter Try.func51, Try.ntmps51
  go_wp2
  generalize w.alloc (.cells #[.slice la ln lc, .slice wa Ws.length wc] 53) = wd at *
  go_loopw [5, 6] (fun out i w' => ∃ m : Nat, m ≤ Ws.length ∧ i = .int .i64 m ∧ Hid (Row w' 27 1 out (idsOf (Ws.take m) name).length (u64V (idsOf (Ws.take m) name)) (fun b => w.heap.size + 1 ≤ b)) ∧ Hid (Below (w.heap.size + 1) wd w')) (fun _ i _ => Ws.length - (RowKit.intOf i).toNat)
  case atStart => exact ⟨0, by omega, rfl, Row.nil _ _ _ _, Below.refl _ _⟩
  case round =>
    obtain ⟨m, hm, rfl, HROW, HB2⟩ := hrel
    have HBX2 := Lib.hid ((HB2.out.block _ (by omega)).trans HBX.out)
    have HBW := Lib.hid (HBel.out.trans (HB2.out.mono (by omega)))
    have hx1 := (cells2 HBX2.out).2
    obtain ⟨oa, oc, rfl⟩ := slice_form HROW.out
    by_cases hlt : m < Ws.length
    · obtain ⟨b, o, c, he, hcap, hb, hcell⟩ := WRow.cells (H.out.frame (w' := wr) (fun k _ hk => HBW.out.block k hk)) (by omega)
      obtain ⟨rfl, rfl⟩ : wa = some ⟨b, o, none⟩ ∧ wc = c := by cases he; exact ⟨rfl, rfl⟩
      have hc0 := (hcell m hlt).1
      have hc1 := (hcell m hlt).2
      have hle := HLE.out m hm
      have HTK := Lib.hid (idsOf_take Ws name m hlt)
      clear hcell he
      generalize hids : idsOf (Ws.take m) name = ids at *
      generalize Ws[m].2 = id at *
      generalize Ws[m].1 = key at *
      clear hids
      by_cases hk : key = name
      · subst hk
        have HT2 : Hid (idsOf (Ws.take (m + 1)) key = ids ++ [id]) := by rw [Hid, HTK.out, if_pos rfl]
        clear HTK
        have HONE : Hid (Reads (wr.alloc (.cells #[.int .u64 id] 27)) (.slice (some ⟨wr.heap.size, 0, none⟩) 1 1) 1 1 [.int .u64 id]) := reads_one _ _ _
        have HRA := Lib.hid (HROW.out.frame (w' := wr.alloc (.cells #[.int .u64 id] 27)) (fun k _ hk => Below.heap_alloc _ _ _ hk))
        have HBA := Lib.hid (HB2.out.alloc (by have := HB2.out.size; have := HSZ.out; omega) (.cells #[.int .u64 id] 27))
        go_wp2_with (at_builtin; refine wpList_row elemU64 rfl rfl (S := fun b => w.heap.size + 1 ≤ b) (v := .slice oa ids.length oc) (n := ids.length) (xs := u64V ids) rfl HRA.out (y := .slice (some ⟨wr.heap.size, 0, none⟩) 1 1) (m := 1) (news := [.int .u64 id]) rfl HONE.out (one_of rfl) (by unfold maxLen; omega) (by omega) ?_; intro v' w' hr hc)
        have HR3 := Lib.hid hr
        have HC3 := Lib.hid hc
        clear hr hc
        go_wp2
        go_roundw
        case rel =>
          refine ⟨m + 1, by omega, by go_num, ?_, ?_⟩
          · rw [HT2.out, u64V_snoc, List.length_append]
            refine HR3.out.mono (fun b hb => ?_)
            rcases hb with h | h
            · exact h
            · have := HBA.out.size; have := HSZ.out; omega
          · exact HBA.out.trans (HC3.out.toBelow (by have := HBA.out.size; have := HSZ.out; omega) (fun n hn h => by omega))
        case measure => simp [RowKit.intOf]; omega
      · obtain ⟨hne, hne2⟩ := str_ne hk
        have HT2 : Hid (idsOf (Ws.take (m + 1)) name = ids) := by rw [Hid, HTK.out, if_neg hk, List.append_nil]
        clear HTK hk
        go_wp2
        go_roundw
        case rel => exact ⟨m + 1, by omega, by go_num, by rw [HT2.out]; exact HROW.out, HB2.out⟩
        case measure => simp [RowKit.intOf]; omega
    · obtain rfl : m = Ws.length := by omega
      have HRR := Lib.hid HROW.out.reads
      clear HROW
      rw [List.take_length] at HRR ⊢
      go_wp2
      go_ret
      exact ⟨_, rfl, HRR.out, HBW.out⟩
end Go.Proofs.Ytbofbboogmeneaa
