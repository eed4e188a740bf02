/- Two equal lists of strings, compared.
The law's same of layer 9: a disk has the files of the reference. -/
import Derived.Test.YtgdmdbdljmlkkaaGreatDoorRel2
import Derived.Test.YtgdmdbdljmlkkaaGreatDoorDConcat
import Derived.Test.YtgdmdbdljmlkkaaGreatDoorScR2
namespace Go.Proofs.YtgdmdbdljmlkkaaGreatDoor
set_option linter.unusedVariables false
set_option linter.unusedSimpArgs false
open Go.RowKit

theorem stringVs_eq (R : List RF) : namesR R = (R.map fun r => r.f.name).map Value.string := by
  unfold namesR; rw [List.map_map]; rfl

set_option maxRecDepth 100000 in
set_option maxHeartbeats 1000000 in
theorem sequal_any (a1 a2 : Option Addr) (c1 c2 : Nat) (l : List ByteArray) (w : World) (h1 : Reads w (.slice a1 l.length c1) l.length 1 (l.map Value.string)) (h2 : Reads w (.slice a2 l.length c2) l.length 1 (l.map Value.string)) (hl : l.length ≤ 100000) :
    Calls Tryz.prog 48 #[.slice a1 l.length c1, .slice a2 l.length c2] w fun e w' => e = .returned (.bool true) ∧ Below w.heap.size w w' := by
  have HC : Hid (∀ (j : Nat) (hj : j < l.length), ∃ b o b' o', a1 = some ⟨b, o, none⟩ ∧ a2 = some ⟨b', o', none⟩ ∧ l.length ≤ c1 ∧ l.length ≤ c2 ∧ b < w.heap.size ∧ b' < w.heap.size ∧ w.cell? ⟨b, o + j, none⟩ = some (.string l[j]) ∧ w.cell? ⟨b', o' + j, none⟩ = some (.string l[j])) := by
    intro j hj
    obtain ⟨b, o, c', hv, hle, hb, hc⟩ := h1.at (by omega)
    cases hv
    obtain ⟨b', o', c'', hv, hle', hb', hc'⟩ := h2.at (by omega)
    cases hv
    refine ⟨b, o, b', o', rfl, rfl, hle, hle', hb, hb', hc j _ ?_, hc' j _ ?_⟩
    · rw [List.getElem?_map, List.getElem?_eq_getElem hj]; rfl
    · rw [List.getElem?_map, List.getElem?_eq_getElem hj]; rfl
  clear h1 h2
  go_enter Tryz.func48, Tryz.ntmps48
  go_wp2_with fail
  go_loopw [13] (fun i w' => ∃ m : Nat, m ≤ l.length ∧ i = .int .i64 m ∧ Hid (Below w.heap.size w w')) (fun i _ => l.length - (RowKit.intOf i).toNat)
  case atStart => exact ⟨0, by omega, rfl, Below.refl _ _⟩
  case round =>
    obtain ⟨m, hm, rfl, HB⟩ := hrel
    by_cases hlt : m < l.length
    · obtain ⟨b, o, b', o', rfl, rfl, hle, hle', hb, hb', k1, k2⟩ := HC.out m hlt
      have hc1 := (HB.out.cell (p := ⟨b, o + m, none⟩) hb).trans k1
      have hc2 := (HB.out.cell (p := ⟨b', o' + m, none⟩) hb').trans k2
      clear k1 k2
      generalize l[m] = s at *
      go_wp2_with fail
      go_quiet (fail)
      have HBN := Lib.hid (show Below w.heap.size w (wr.drewN nq) from ⟨HB.out.os, HB.out.tape, HB.out.output, HB.out.size, HB.out.block⟩)
      clear hc1 hc2 hb hb'
      go_wp2
      go_roundw
      case rel => exact ⟨m + 1, by omega, by go_num, HBN⟩
      case measure => simp [RowKit.intOf]; omega
    · obtain rfl : m = l.length := by omega
      go_wp2
      go_ret
      exact ⟨rfl, HB.out⟩

theorem bel_step {w0 a b : World} (h : Hid (Below w0.heap.size w0 a)) (hb : Below a.heap.size a b) : Hid (Below w0.heap.size w0 b) := h.out.trans (hb.mono h.out.size)
end Go.Proofs.YtgdmdbdljmlkkaaGreatDoor
namespace Go.Proofs.YtgdmdbdljmlkkaaGreatDoor
set_option linter.unusedVariables false
set_option linter.unusedSimpArgs false
open Go.RowKit

set_option maxRecDepth 100000 in
set_option maxHeartbeats 4000000 in
theorem scsame_any (x : Value) (D : DS) (S : Nat → Prop) (room plan : Int) (down : Bool) (v : Value) (R : List RF) (T : Nat → Prop) (w : World) (h : DRep w x D S) (hr : RLi w v R T) (hrel : Rel D ⟨room, R.map RF.f, plan, down⟩)
    (hs : sumD D.files ≤ 100000) (hL : R.length ≤ 5000) (hnm : ∀ f ∈ D.files, f.name.size ≤ maxLen) :
    Calls Tryz.prog 30 #[x, rdisk room v plan down] w fun e w' => e = .returned (.bool true) ∧ Below w.heap.size w w' := by
  obtain ⟨la, lc, rfl⟩ := slice_form hr.row
  obtain ⟨NL, hNL⟩ : ∃ NL : List ByteArray, NL = R.map fun r => r.f.name := ⟨_, rfl⟩
  have hnlen : NL.length = R.length := by rw [hNL, List.length_map]
  have hlen : D.files.length ≤ 100000 := by have := hrel.len; simp only [List.length_map] at this; omega
  have hsum : sumD D.files = sumR R := by rw [sumR_f]; exact hrel.sum
  have hBX : (w.alloc (.cells #[.int .i64 room, .slice la R.length lc, .int .i64 plan, .bool down] 32)).heap[w.heap.size]? = some (.cells #[.int .i64 room, .slice la R.length lc, .int .i64 plan, .bool down] 32 (0, 0)) := heap_alloc_new w _
  have HBX := Lib.hid hBX
  have HBel : Hid (Below w.heap.size w (w.alloc (.cells #[.int .i64 room, .slice la R.length lc, .int .i64 plan, .bool down] 32))) := (Below.refl _ _).alloc (Nat.le_refl _) _
  have hD := h.frame (fun k _ hk => HBel.out.block k hk)
  have hR := hr.below HBel.out
  clear h hr hBX
  generalize hwd : w.alloc (.cells #[.int .i64 room, .slice la R.length lc, .int .i64 plan, .bool down] 32) = wd at *
  have HR := Lib.hid hR
  have HLIST : Hid (∀ w', Hid (Below wd.heap.size wd w') → Calls Tryz.prog 49 #[x] w' fun e w'' => ∃ a c, e = .returned (.slice a NL.length c) ∧ Reads w'' (.slice a NL.length c) NL.length 1 (NL.map Value.string) ∧ Below w'.heap.size w' w'') := fun w' hb => by
    refine (list_any x D S w' (hD.frame (fun k _ hk => hb.out.block k hk)) hlen hnm).mono ?_
    rintro e w'' ⟨v1, ss, rfl, hr1, hb1, hso, hme⟩
    obtain rfl := rel_names hrel hso hme
    obtain ⟨a1, c1, rfl⟩ := slice_form hr1
    have h1 := hr1.reads
    have e1 : ((R.map RF.f).map fun f => f.name.toList).length = NL.length := by simp [hNL]
    have e2 : ((R.map RF.f).map fun f => f.name.toList).map encStr = NL.map Value.string := by
      rw [hNL, List.map_map, List.map_map, List.map_map]
      refine List.map_congr_left (fun r _ => ?_)
      show encStr r.f.name.toList = Value.string r.f.name
      unfold encStr
      rw [mk_toList]
    simp only [e1, e2] at h1
    rw [show (({ room := room, files := List.map RF.f R, plan := plan, down := down } : DS).files.map fun f => f.name.toList).length = NL.length from e1]
    exact ⟨a1, c1, rfl, h1, hb1⟩
  have HNAMES : Hid (∀ w', Hid (Below wd.heap.size wd w') → Calls Tryz.prog 50 #[rdisk room (.slice la R.length lc) plan down] w' fun e w'' => ∃ a c, e = .returned (.slice a NL.length c) ∧ Reads w'' (.slice a NL.length c) NL.length 1 (NL.map Value.string) ∧ Below w'.heap.size w' w'') := fun w' hb => by
    refine (rnames_any room plan down _ R T w' (hR.below hb.out) (by omega)).mono ?_
    rintro e w'' ⟨v1, rfl, hr1, hb1⟩
    obtain ⟨a1, c1, rfl⟩ := slice_form hr1
    have h1 := hr1.reads
    rw [stringVs_eq, ← hNL, ← hnlen] at h1
    rw [← hnlen]
    exact ⟨a1, c1, rfl, h1, hb1⟩
  have HDOWN : Hid (∀ w', Hid (Below wd.heap.size wd w') → Calls Tryz.prog 63 #[x] w' fun e w'' => e = .returned (.bool down) ∧ w'' = w') := fun w' hb => by
    have := down_any x D S w' (hD.frame (fun k _ hk => hb.out.block k hk))
    rwa [hrel.down] at this
  have HRD : Hid (∀ (m : Nat) (hm : m ≤ R.length) (hlt : m < R.length) w', Hid (Below wd.heap.size wd w') → Calls Tryz.prog 57 #[x, .string R[m].f.name] w' fun e w'' => ∃ a cd, ∃ lr : List UInt8, ∃ c, e = .returned (.tuple #[.slice a lr.length c, .int .i64 cd]) ∧ (down = false → cd = 0 ∧ lr = R[m].f.b) ∧ Reads w'' (.slice a lr.length c) lr.length 1 (byts lr) ∧ Below w'.heap.size w' w'') := fun m hm hlt w' hb => by
    have h1 := read_any x R[m].f.name D S w' (hD.frame (fun k _ hk => hb.out.block k hk)) (by omega)
    refine h1.mono ?_
    rintro e w'' ⟨v1, rfl, hr1, hb1⟩
    obtain ⟨a1, c1, rfl⟩ := slice_form hr1
    refine ⟨a1, _, _, c1, rfl, fun hd => ?_, hr1.reads, hb1⟩
    have hmem : R[m].f ∈ (R.map RF.f) := List.mem_map_of_mem (List.getElem_mem hlt)
    have hfd : findD (R.map RF.f) R[m].f.name = some R[m].f := (mem_iff_findD (sorted_nodup hrel.so) R[m].f).1 hmem
    rw [rel_read hrel]
    unfold readD
    rw [if_neg (by show ¬ down = true; rw [hd]; decide), hfd]
    exact ⟨rfl, rfl⟩
  have HRB : Hid (∀ (m : Nat) (hlt : m < R.length), R[m].f.b.length ≤ 100000) := fun m hlt => by
    have h1 := len_le_sum (List.mem_map_of_mem (f := RF.f) (List.getElem_mem hlt))
    have h2 := sumR_f R
    omega
  have HNLEN : Hid (NL.length ≤ 100000) := show _ ≤ _ by omega
  have HKS : Hid (∀ w', Hid (Below wd.heap.size wd w') → (w'.cell? ⟨w.heap.size, 0, none⟩ = some (.int .i64 room) ∧ w'.cell? ⟨w.heap.size, 1, none⟩ = some (.slice la R.length lc) ∧ w'.cell? ⟨w.heap.size, 2, none⟩ = some (.int .i64 plan) ∧ w'.cell? ⟨w.heap.size, 3, none⟩ = some (.bool down))) := fun w' hb =>
    cells4 ((hb.out.block _ (lt_of_heap HBX.out)).trans HBX.out)
  have HB0 : Hid (Below wd.heap.size wd wd.drew) := (Below.refl _ _).drew
  have HB00 : Hid (Below wd.heap.size wd wd) := Below.refl _ _
  clear hD hR hrel hNL hnlen hsum
  go_enter Tryz.func30, Tryz.ntmps30
  go_upto_region 1 with fail
  try rw [hwd]
  clear hwd
  go_region_held3 (fun w' => w'.cell? ⟨w.heap.size, 0, none⟩ = some (.int .i64 room) ∧ w'.cell? ⟨w.heap.size, 1, none⟩ = some (.slice la R.length lc) ∧ w'.cell? ⟨w.heap.size, 2, none⟩ = some (.int .i64 plan) ∧ w'.cell? ⟨w.heap.size, 3, none⟩ = some (.bool down)) (exact HKS.out _ (by assumption))
    (first
    | (go_at_call 49; refine (HLIST.out _ (by assumption)).mono ?_; rintro e w1 ⟨a1, c1, rfl, hr1, hb1⟩
       have HB1 := bel_step (by assumption) hb1
       have HR1 := Lib.hid hr1
       clear hb1 hr1)
    | (go_at_call 50; refine (HNAMES.out _ (by assumption)).mono ?_; rintro e w2 ⟨a2, c2, rfl, hr2, hb2⟩
       have HB2 := bel_step (by assumption) hb2
       have HR1b := Lib.hid (HR1.out.later hb2)
       have HR2 := Lib.hid hr2
       clear hb2 hr2)
    | (go_at_call 48; refine (sequal_any _ _ _ _ NL _ HR1b.out HR2.out HNLEN.out).mono ?_; rintro e w3 ⟨rfl, hb3⟩
       have HB3 := bel_step HB2 hb3
       clear hb3)
    | (go_at_call 63; refine (HDOWN.out _ (by assumption)).mono ?_; rintro e w6 ⟨rfl, rfl⟩)
    | fail)
  all_goals
    clear HB1 HB2 HR1 HR1b HR2 HLIST HNAMES HDOWN HB0 HB00
    have HB6 := HB3
    obtain ⟨hx0, hx1, hx2, hx3⟩ := HKS.out _ HB3
    go_wp2_with fail
    go_loopw [25] (fun i w' => ∃ m : Nat, m ≤ R.length ∧ i = .int .i64 m ∧ Hid (Below wd.heap.size wd w')) (fun i _ => R.length - (RowKit.intOf i).toNat)
    case atStart => exact ⟨0, by omega, rfl, HB6⟩
    case round =>
      obtain ⟨m, hm, rfl, HB⟩ := hrel
      by_cases hlt : m < R.length
      · obtain ⟨b, o, c, he, hcap, hb, hcell⟩ := (HR.out.below HB.out).cells (by omega)
        obtain ⟨rfl, rfl⟩ : la = some ⟨b, o, none⟩ ∧ lc = c := by cases he; exact ⟨rfl, rfl⟩
        obtain ⟨hc0, hc1, hc2⟩ := hcell m hlt
        have HRDm := Lib.hid (HRD.out m hm hlt)
        have hrb := HRB.out m hlt
        have HRr : Hid (Reads wr (.slice R[m].a R[m].f.b.length R[m].c) R[m].f.b.length 1 (byts R[m].f.b)) := (HR.out.below HB.out).byt R[m] (List.getElem_mem hlt) |>.1.reads
        clear hcell he hx0 hx1 hx2 hx3
        generalize R[m].f.name = key at *
        generalize R[m].a = ra at *
        generalize R[m].c = rc at *
        generalize R[m].f.b = rb at *
        generalize R[m].f.d = rd at *
        have hsz := HB.out.size
        have HBA : Hid (Below wd.heap.size wd (wr.alloc (.cells #[.string key, .slice ra rb.length rc, .int .i64 rd] 120))) := HB.out.alloc hsz _
        have HRA : Hid (Reads (wr.alloc (.cells #[.string key, .slice ra rb.length rc, .int .i64 rd] 120)) (.slice ra rb.length rc) rb.length 1 (byts rb)) := HRr.out.later ((Below.refl _ _).alloc (Nat.le_refl _) _)
        have HFA : Hid ((wr.alloc (.cells #[.string key, .slice ra rb.length rc, .int .i64 rd] 120)).heap[wr.heap.size]? = some (.cells #[.string key, .slice ra rb.length rc, .int .i64 rd] 120 (0, 0))) := heap_alloc_new _ _
        go_upto_region 6 with fail
        generalize wr.alloc (.cells #[.string key, .slice ra rb.length rc, .int .i64 rd] 120) = wa at *
        clear hc0 hc1 hc2
        obtain ⟨hy0, hy1, hy2⟩ := cells3 HFA.out
        go_wp2_with fail
        refine (HRDm.out _ HBA).mono ?_
        rintro e w7 ⟨a7, cd, lr, c7, rfl, hdd, hr7, hb7⟩
        have HB7 := bel_step HBA hb7
        have HR7 := Lib.hid hr7
        have HR8 := Lib.hid (HRA.out.later hb7)
        have HF7 := Lib.hid ((hb7.block _ (lt_of_heap HFA.out)).trans HFA.out)
        clear hr7 hb7 hy0 hy1 hy2 HFA
        obtain ⟨hy0, hy1, hy2⟩ := cells3 HF7.out
        obtain ⟨hx0, hx1, hx2, hx3⟩ := HKS.out _ HB7
        cases down with
        | true =>
          clear hdd
          go_wp2_with fail
          go_roundw
          case rel => exact ⟨m + 1, by omega, by go_num, HB7⟩
          case measure => simp [RowKit.intOf]; omega
        | false =>
          obtain ⟨rfl, rfl⟩ := hdd rfl
          have h9 := bequal_any a7 ra c7 rc lr lr w7 HR7.out HR8.out hrb hrb
          have hde : decide (lr = lr) = true := decide_eq_true (Eq.refl lr)
          rw [hde] at h9
          have H9 := Lib.hid h9
          clear h9 hde hdd
          go_wp2_with fail
          refine H9.out.mono ?_
          rintro e w9 ⟨rfl, hb9⟩
          have HB9 := bel_step HB7 hb9
          clear hb9
          go_wp2
          go_roundw
          case rel => exact ⟨m + 1, by omega, by go_num, HB9⟩
          case measure => simp [RowKit.intOf]; omega
      · obtain rfl : m = R.length := by omega
        have HBE := Lib.hid (HBel.out.trans (HB.out.mono HBel.out.size))
        go_wp2
        go_ret
        exact ⟨rfl, HBE.out⟩
end Go.Proofs.YtgdmdbdljmlkkaaGreatDoor
