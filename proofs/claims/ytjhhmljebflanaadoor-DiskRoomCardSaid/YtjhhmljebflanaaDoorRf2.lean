/- The reference of a disk: without, Names, Read. -/
import Derived.Test.YtjhhmljebflanaaDoorRf
import Derived.Test.YtjhhmljebflanaaDoorDNamed
namespace Go.Proofs.YtjhhmljebflanaaDoor
set_option linter.unusedVariables false
set_option linter.unusedSimpArgs false
open Go.RowKit

def outR (R : List RF) (n : ByteArray) : List RF := R.filter fun r => decide (r.f.name ≠ n)
theorem outR_succ {R : List RF} {n : ByteArray} {m : Nat} (h : m < R.length) : outR (R.take (m + 1)) n = outR (R.take m) n ++ if R[m].f.name = n then [] else [R[m]] := by
  unfold outR
  rw [List.take_succ_eq_append_getElem h, List.filter_append]
  congr 1
  by_cases h1 : R[m].f.name = n
  · simp [h1]
  · simp [h1]
theorem outR_len (R : List RF) (n : ByteArray) : (outR R n).length ≤ R.length := List.length_filter_le _ _
theorem outR_mem {R : List RF} {n : ByteArray} {r : RF} (h : r ∈ outR R n) : r ∈ R := (List.mem_filter.1 h).1

set_option maxRecDepth 100000 in
set_option maxHeartbeats 1000000 in
theorem rwithout_any (v : Value) (R : List RF) (T : Nat → Prop) (n : ByteArray) (w : World) (h : RLi w v R T) (hL : R.length ≤ 100000) :
    Calls Tryd.prog 49 #[v, .string n] w fun e w' => ∃ v', e = .returned v' ∧ RLi w' v' (outR R n) (fun k => T k ∨ w.heap.size ≤ k) ∧ Below w.heap.size w w' := by
  obtain ⟨la, lc, rfl⟩ := slice_form h.row
  have H := Lib.hid h
  clear h
  go_enter Tryd.func49, Tryd.ntmps49
  go_wp2
  go_loopw [5, 6] (fun out i w' => ∃ m : Nat, m ≤ R.length ∧ i = .int .i64 m ∧ Hid (Row w' 78 3 out (outR (R.take m) n).length ((outR (R.take m) n).flatMap rcells) (fun k => w.heap.size ≤ k)) ∧ Hid (Below w.heap.size w w')) (fun _ i _ => R.length - (RowKit.intOf i).toNat)
  case atStart => exact ⟨0, by omega, rfl, Row.nil _ _ _ _, Below.refl _ _⟩
  case round =>
    obtain ⟨m, hm, rfl, HO, HB⟩ := hrel
    by_cases hlt : m < R.length
    · obtain ⟨b, o, c, he, hcap, hb, hcell⟩ := (H.out.below HB.out).cells (by omega)
      obtain ⟨rfl, rfl⟩ : la = some ⟨b, o, none⟩ ∧ lc = c := by cases he; exact ⟨rfl, rfl⟩
      obtain ⟨hc0, hc1, hc2⟩ := hcell m hlt
      have HS := Lib.hid (outR_succ (n := n) hlt)
      have HLL : Hid ((outR (R.take m) n).length ≤ 100000) := by
        have := outR_len (R.take m) n
        rw [List.length_take] at this
        show _ ≤ _
        omega
      by_cases hk : R[m].f.name = n
      · rw [if_pos hk, List.append_nil] at HS
        rw [hk] at hc0
        clear hcell he hk
        go_wp2
        go_roundw
        case rel => exact ⟨m + 1, by omega, by go_num, by rw [Hid, HS.out]; exact HO.out, HB⟩
        case measure => simp [RowKit.intOf]; omega
      · rw [if_neg hk] at HS
        obtain ⟨hne, hne2⟩ := str_ne hk
        have HCE : Hid (rcells R[m] = [.string R[m].f.name, .slice R[m].a R[m].f.b.length R[m].c, .int .i64 R[m].f.d]) := rfl
        have HFM : Hid ((outR (R.take m) n ++ [R[m]]).flatMap rcells = (outR (R.take m) n).flatMap rcells ++ [.string R[m].f.name, .slice R[m].a R[m].f.b.length R[m].c, .int .i64 R[m].f.d]) := by simp [Hid]
        have HLN : Hid ((outR (R.take m) n ++ [R[m]]).length = (outR (R.take m) n).length + 1) := by simp [Hid]
        rw [← HS.out] at HFM HLN
        clear hcell he hk HS HCE
        generalize R[m].f.name = key at *
        generalize R[m].a = ra at *
        generalize R[m].c = rc at *
        generalize R[m].f.b.length = rl at *
        generalize R[m].f.d = rd at *
        have hll := HLL.out
        obtain ⟨L, hL2⟩ : ∃ L, L = outR (R.take m) n := ⟨_, rfl⟩
        rw [← hL2] at HO HFM HLN hll
        have hbl := HB.out.size
        go_wp2_with (refine wpList_row elemR rfl rfl (S := fun k => w.heap.size ≤ k) (n := L.length) (xs := L.flatMap rcells) rfl (HO.out.frame (fun k _ hk => Below.heap_alloc _ _ _ hk)) (y := .slice (some ⟨wr.heap.size, 0, none⟩) 1 1) (m := 1) (news := [.string key, .slice ra rl rc, .int .i64 rd]) rfl (Reads.single (heap_alloc_new wr _)) (by intro u hu; simp only [List.mem_cons, List.not_mem_nil, or_false] at hu; rcases hu with rfl | rfl | rfl <;> rfl) (by unfold maxLen; omega) (by omega) ?_; intro v5 w5 hr5 hch5)
        go_roundw
        case rel =>
          refine ⟨m + 1, by omega, by go_num, ?_, (HB.out.alloc hbl _).trans (hch5.toBelow (by simp <;> omega) (fun n hn h => by omega))⟩
          rw [Hid, HFM.out, HLN.out]
          exact hr5.mono (fun k hk => by rcases hk with hk | hk; exact hk; simp only [World.size_alloc] at hk; omega)
        case measure => simp [RowKit.intOf]; omega
    · obtain rfl : m = R.length := by omega
      rw [List.take_length] at HO
      go_wp2
      go_ret
      exact ⟨_, rfl, ⟨HO.out.mono (fun k hk => .inr hk), fun r hr => ⟨((H.out.below HB.out).byt r (outR_mem hr)).1.mono (fun k hk => .inl hk), ((H.out.below HB.out).byt r (outR_mem hr)).2⟩⟩, HB.out⟩

theorem elemStr : ElemOf Tryd.prog 56 9 (.string ⟨#[]⟩) 1 16 := ⟨Tryd.underlying56, by kernel_rfl, rfl, by decide⟩
def namesR (R : List RF) : List Value := R.map fun r => .string r.f.name
theorem namesR_succ {R : List RF} {m : Nat} (h : m < R.length) : namesR (R.take (m + 1)) = namesR (R.take m) ++ [.string R[m].f.name] := by
  unfold namesR
  rw [List.take_succ_eq_append_getElem h, List.map_append]; rfl

set_option maxRecDepth 100000 in
set_option maxHeartbeats 1000000 in
theorem rnames_any (room plan : Int) (down : Bool) (v : Value) (R : List RF) (T : Nat → Prop) (w : World) (h : RLi w v R T) (hL : R.length ≤ 100000) :
    Calls Tryd.prog 37 #[rdisk room v plan down] w fun e w' => ∃ v', e = .returned v' ∧ Row w' 9 1 v' R.length (namesR R) (fun k => w.heap.size ≤ k) ∧ Below w.heap.size w w' := by
  obtain ⟨la, lc, rfl⟩ := slice_form h.row
  have H := Lib.hid h
  clear h
  have HBX : Hid ((w.alloc (.cells #[.int .i64 room, .slice la R.length lc, .int .i64 plan, .bool down] 46)).heap[w.heap.size]? = some (.cells #[.int .i64 room, .slice la R.length lc, .int .i64 plan, .bool down] 46 (0, 0))) := heap_alloc_new w _
  have HBel : Hid (Below w.heap.size w (w.alloc (.cells #[.int .i64 room, .slice la R.length lc, .int .i64 plan, .bool down] 46))) := (Below.refl _ _).alloc (Nat.le_refl _) _
  have HSZ : Hid ((w.alloc (.cells #[.int .i64 room, .slice la R.length lc, .int .i64 plan, .bool down] 46)).heap.size = w.heap.size + 1) := World.size_alloc _ _
  go_enter Tryd.func37, Tryd.ntmps37
  go_wp2
  generalize w.alloc (.cells #[.int .i64 room, .slice la R.length lc, .int .i64 plan, .bool down] 46) = wd at *
  go_loopw [3, 4] (fun out i w' => ∃ m : Nat, m ≤ R.length ∧ i = .int .i64 m ∧ Hid (Row w' 9 1 out m (namesR (R.take m)) (fun k => wd.heap.size ≤ k)) ∧ Hid (Below wd.heap.size wd w')) (fun _ i _ => R.length - (RowKit.intOf i).toNat)
  case atStart => exact ⟨0, by omega, rfl, Row.nil _ _ _ _, Below.refl _ _⟩
  case round =>
    obtain ⟨m, hm, rfl, HO, HB⟩ := hrel
    have HBL := Lib.hid (HBel.out.trans (HB.out.mono (B' := w.heap.size) (by rw [HSZ.out]; omega)))
    have HBX2 := Lib.hid ((HB.out.block _ (lt_of_heap HBX.out)).trans HBX.out)
    have hx1 := (cells4 HBX2.out).2.1
    by_cases hlt : m < R.length
    · obtain ⟨b, o, c, he, hcap, hb, hcell⟩ := (H.out.below HBL.out).cells (by omega)
      obtain ⟨rfl, rfl⟩ : la = some ⟨b, o, none⟩ ∧ lc = c := by cases he; exact ⟨rfl, rfl⟩
      have hc0 := (hcell m hlt).1
      have HS := Lib.hid (namesR_succ hlt)
      clear hcell he
      generalize R[m].f.name = key at *
      have hbl := HB.out.size
      go_wp2_with (refine wpList_row elemStr rfl rfl (S := fun k => wd.heap.size ≤ k) (n := m) (xs := namesR (R.take m)) rfl (HO.out.frame (fun k _ hk => Below.heap_alloc _ _ _ hk)) (y := .slice (some ⟨wr.heap.size, 0, none⟩) 1 1) (m := 1) (news := [.string key]) rfl (reads_one wr _ _) (one_of rfl) (by unfold maxLen; omega) (by omega) ?_; intro v5 w5 hr5 hch5)
      go_roundw
      case rel =>
        refine ⟨m + 1, by omega, by go_num, ?_, (HB.out.alloc hbl _).trans (hch5.toBelow (by simp <;> omega) (fun n hn h => by omega))⟩
        rw [Hid, HS.out]
        exact hr5.mono (fun k hk => by rcases hk with hk | hk; exact hk; simp only [World.size_alloc] at hk; omega)
      case measure => simp [RowKit.intOf]; omega
    · obtain rfl : m = R.length := by omega
      rw [List.take_length] at HO
      have hsz := HSZ.out
      go_wp2
      go_ret
      exact ⟨_, rfl, HO.out.mono (fun k hk => by omega), HBL.out⟩

theorem findD_hit {R : List RF} {n : ByteArray} {m : Nat} (hm : m < R.length) (h : R[m].f.name = n) (hl : ∀ j (hj : j < m), (R[j]'(by omega)).f.name ≠ n) : findD (R.map RF.f) n = some R[m].f := by
  induction R generalizing m with
  | nil => simp at hm
  | cons r l ih =>
    rw [List.map_cons, findD]
    cases m with
    | zero => simp only [List.getElem_cons_zero] at h; rw [if_pos h]; rfl
    | succ m =>
      have h0 := hl 0 (by omega)
      simp only [List.getElem_cons_zero] at h0
      rw [if_neg h0]
      exact ih (m := m) (by simpa using hm) (by simpa using h) (fun j hj => by have := hl (j + 1) (by omega); rwa [List.getElem_cons_succ] at this)
theorem findD_miss {R : List RF} {n : ByteArray} (hl : ∀ j (hj : j < R.length), R[j].f.name ≠ n) : findD (R.map RF.f) n = none := by
  rw [findD_none]
  intro h
  rw [List.map_map] at h
  obtain ⟨r, hr, he⟩ := List.mem_map.1 h
  obtain ⟨j, hj, rfl⟩ := List.mem_iff_getElem.1 hr
  exact hl j hj he
/-- A name is there for the first time, or not at all. -/
theorem first_name (R : List RF) (n : ByteArray) : (∀ j (hj : j < R.length), R[j].f.name ≠ n) ∨ ∃ (i : Nat) (hi : i < R.length), R[i].f.name = n ∧ ∀ j (hj : j < i), (R[j]'(by omega)).f.name ≠ n := by
  rcases first_hit R (fun r => decide (r.f.name = n)) with h | ⟨i, hi, h1, h2⟩
  · exact .inl (fun j hj => by simpa using h R[j] (List.getElem_mem hj))
  · exact .inr ⟨i, hi, by simpa using h1, fun j hj => by simpa using h2 j hj⟩

set_option maxRecDepth 100000 in
set_option maxHeartbeats 1000000 in
theorem rread_any (room plan : Int) (down : Bool) (v : Value) (R : List RF) (T : Nat → Prop) (n : ByteArray) (w : World) (h : RLi w v R T) (hL : R.length ≤ 100000) :
    Calls Tryd.prog 35 #[rdisk room v plan down, .string n] w fun e w' => ∃ a c, e = .returned (.tuple #[.slice a (readD ⟨room, R.map RF.f, plan, down⟩ n).1.length c, .int .i64 (readD ⟨room, R.map RF.f, plan, down⟩ n).2]) ∧
      Row w' 5 1 (.slice a (readD ⟨room, R.map RF.f, plan, down⟩ n).1.length c) (readD ⟨room, R.map RF.f, plan, down⟩ n).1.length (byts (readD ⟨room, R.map RF.f, plan, down⟩ n).1) T ∧ Below w.heap.size w w' := by
  obtain ⟨la, lc, rfl⟩ := slice_form h.row
  have H := Lib.hid h
  have HBX : Hid ((w.alloc (.cells #[.int .i64 room, .slice la R.length lc, .int .i64 plan, .bool down] 46)).heap[w.heap.size]? = some (.cells #[.int .i64 room, .slice la R.length lc, .int .i64 plan, .bool down] 46 (0, 0))) := heap_alloc_new w _
  have HBel : Hid (Below w.heap.size w (w.alloc (.cells #[.int .i64 room, .slice la R.length lc, .int .i64 plan, .bool down] 46))) := (Below.refl _ _).alloc (Nat.le_refl _) _
  have HFI := Lib.hid (rfind_any room plan down _ R T n _ (h.below HBel.out) hL)
  have HFN := Lib.hid (first_name R n)
  clear h
  obtain ⟨hx0, hx1, hx2, hx3⟩ := cells4 HBX.out
  cases down with
  | true =>
    have HV : Hid (readD ⟨room, R.map RF.f, plan, true⟩ n = ([], 10)) := rfl
    rw [HV.out]
    go_enter Tryd.func35, Tryd.ntmps35
    go_wp2
    go_ret2
    exact ⟨none, 0, rfl, Row.nil _ _ _ _, HBel.out⟩
  | false =>
    have HV : Hid (readD ⟨room, R.map RF.f, plan, false⟩ n = match findD (R.map RF.f) n with | some f => (f.b, 0) | none => ([], 6)) := rfl
    obtain ⟨rd, hrd⟩ : ∃ rd, rd = readD ⟨room, R.map RF.f, plan, false⟩ n := ⟨_, rfl⟩
    rw [← hrd] at HV ⊢
    clear hrd
    go_enter Tryd.func35, Tryd.ntmps35
    go_wp2_with fail
    generalize w.alloc (.cells #[.int .i64 room, .slice la R.length lc, .int .i64 plan, .bool false] 46) = wd at *
    refine HFI.out.mono ?_
    rintro e w1 ⟨rfl, hb1⟩
    have HB1 := Lib.hid (HBel.out.trans (hb1.mono HBel.out.size))
    have HX1 := Lib.hid ((hb1.block _ (lt_of_heap HBX.out)).trans HBX.out)
    have hy1 := (cells4 HX1.out).2.1
    clear hb1 HFI hx0 hx1 hx2 hx3
    rcases HFN.out with hmiss | ⟨i, hi, hn, hlow⟩
    · rw [posR_miss hmiss]
      have HMS := Lib.hid (show rd = ([], 6) by rw [HV.out, findD_miss hmiss])
      clear hmiss HFN HV
      go_wp2
      go_ret2
      rw [HMS.out]
      exact ⟨none, 0, rfl, Row.nil _ _ _ _, HB1.out⟩
    · rw [posR_hit hi hn hlow]
      have HHT := Lib.hid (show rd = (R[i].f.b, 0) by rw [HV.out, findD_hit hi hn hlow])
      obtain ⟨b, o, c, he, hcap, hb, hcell⟩ := (H.out.below HB1.out).cells (by omega)
      obtain ⟨rfl, rfl⟩ : la = some ⟨b, o, none⟩ ∧ lc = c := by cases he; exact ⟨rfl, rfl⟩
      have hc := (hcell i hi).2.1
      have HOK := Lib.hid ((H.out.below HB1.out).byt R[i] (List.getElem_mem hi)).1
      clear hcell he hn hlow HFN HV
      generalize R[i] = r at *
      obtain ⟨rl, hrl⟩ : ∃ rl, rl = r.f.b.length := ⟨_, rfl⟩
      rw [← hrl] at hc
      have HRL := Lib.hid hrl
      clear hrl
      go_wp2
      go_ret2
      rw [HHT.out]
      exact ⟨r.a, r.c, congrArg (fun x => Ending.returned (.tuple #[.slice r.a x r.c, .int .i64 0])) HRL.out, HOK.out, HB1.out⟩
end Go.Proofs.YtjhhmljebflanaaDoor
