/- The law's records: all records of the segments of a disk. -/
import Derived.Test.YtgdmdbdljmlkkaaGreatDoorSplit
import Derived.Test.YtgdmdbdljmlkkaaGreatDoorWal3
import Derived.Test.YtgdmdbdljmlkkaaGreatDoorWRecs
import Derived.Test.YtgdmdbdljmlkkaaGreatDoorSegList
import Derived.Test.YtgdmdbdljmlkkaaGreatDoorDList
namespace Go.Proofs.YtgdmdbdljmlkkaaGreatDoor
set_option linter.unusedVariables false
set_option linter.unusedSimpArgs false
open Go.RowKit

theorem refL_same {a b : List ByteArray} (h : ∀ x, x ∈ a ↔ x ∈ b) : refL a = refL b := by
  refine inc_ext (inc_refL a) (inc_refL b) (fun x => ?_)
  rw [mem_refL, mem_refL]
  unfold numsL
  simp only [List.mem_map, List.mem_filter, h]
theorem nodup_len {α : Type} [DecidableEq α] : ∀ {l L : List α}, l.Nodup → (∀ x ∈ l, x ∈ L) → l.length ≤ L.length
  | [], _, _, _ => Nat.zero_le _
  | a :: l, L, hn, hs => by
    obtain ⟨h1, h2⟩ := List.nodup_cons.1 hn
    have h3 := nodup_len (L := L.erase a) h2 (fun x hx => (List.mem_erase_of_ne (fun e => h1 (by rw [← e]; exact hx))).2 (hs x (by simp [hx])))
    have h4 := List.length_erase_of_mem (hs a (by simp))
    have h5 := List.length_pos_of_mem (hs a (by simp))
    rw [List.length_cons]; omega
abbrev mkS (ss : List (List UInt8)) : List ByteArray := ss.map fun s => ⟨s.toArray⟩
theorem mkS_V (ss : List (List UInt8)) : strsV (mkS ss) = ss.map Go.Proofs.encStr := by unfold strsV; rw [List.map_map]; rfl
theorem mkS_mem {ss : List (List UInt8)} {L : List ByteArray} (h : ∀ s : List UInt8, s ∈ ss ↔ ⟨s.toArray⟩ ∈ L) (x : ByteArray) : x ∈ mkS ss ↔ x ∈ L := by
  constructor
  · intro hx
    obtain ⟨s, hs, rfl⟩ := List.mem_map.1 hx
    exact (h s).1 hs
  · intro hx
    refine List.mem_map.2 ⟨x.data.toList, (h _).2 ?_, ?_⟩
    · have e : (⟨x.data.toList.toArray⟩ : ByteArray) = x := by simp
      rwa [e]
    · simp
theorem mkS_len {ss : List (List UInt8)} {L : List ByteArray} (hp : ss.Pairwise (· < ·)) (h : ∀ s : List UInt8, s ∈ ss ↔ ⟨s.toArray⟩ ∈ L) : ss.length ≤ L.length := by
  have hn : ss.Nodup := hp.imp (fun h e => by subst e; exact List.lt_irrefl _ h)
  have := nodup_len (l := ss) (L := L.map fun b => b.data.toList) hn (fun x hx => List.mem_map.2 ⟨_, (h x).1 hx, by simp⟩)
  simpa using this

/-- All records of the segments, as the program reads them. -/
def recsD (D : DS) : List (List UInt8) := (refL (D.files.map DF.name)).flatMap fun n => (splitB (readD D (nameI n)).1).1
theorem readD_len (D : DS) (n : ByteArray) : (readD D n).1.length ≤ sumD D.files := by
  unfold readD
  split
  · exact Nat.zero_le _
  · split
    · rename_i f hf
      exact len_le_sum (findD_name hf).2
    · exact Nat.zero_le _
theorem rx_one {X : List RX} {B : Nat} {W : World} (h : ∀ x ∈ X, RdX B x W) : ∀ u ∈ X.map RX.v, u.oneCell' = true := by
  intro u hu
  obtain ⟨x, hx, rfl⟩ := List.mem_map.1 hu
  obtain ⟨-, a, c, hv, -⟩ := (h x hx).reads
  rw [hv]; rfl
def RecsP (w : World) (D : DS) : Ending → World → Prop := fun e w' => ∃ (v : Value) (X : List RX), e = .returned v ∧ Row w' 72 1 v X.length (X.map RX.v) (fun k => w.heap.size ≤ k) ∧ (∀ x ∈ X, RdX w.heap.size x w') ∧ X.map RX.l = recsD D ∧ X.length ≤ 20000000 ∧ Below w.heap.size w w'

set_option maxRecDepth 100000 in
set_option maxHeartbeats 2000000 in
theorem records_any (x : Value) (D : DS) (S : Nat → Prop) (w : World) (h : DRep w x D S) (ht : Tab w) (hl : D.files.length ≤ 1000) (hs : sumD D.files ≤ 100000) (hnm : ∀ f ∈ D.files, f.name.size ≤ maxLen) :
    Calls Tryz.prog 22 #[x] w (RecsP w D) := by
  have HD := Lib.hid h.tight
  have HT := Lib.hid ht
  have HNM := Lib.hid hnm
  have HLI := Lib.hid (list_any x D S w h (by omega) hnm)
  obtain ⟨bx, bm, col, pv, rfl, -⟩ := h
  clear ht hnm
  go_enter Tryz.func22, Tryz.ntmps22
  go_wp2_with fail
  refine HLI.out.mono ?_
  rintro e w1 ⟨v, ss, rfl, hrow, hb1, hpw, hmem⟩
  have hsl := mkS_len hpw hmem
  rw [List.length_map] at hsl
  have hrl : refL (mkS ss) = refL (D.files.map DF.name) := refL_same (mkS_mem hmem)
  have HSG := Lib.hid (seglist_any v (mkS ss) w1 (by rw [mkS_V, List.length_map]; exact hrow.reads) (by rw [List.length_map]; omega))
  rw [hrl] at HSG
  have HB1 := Lib.hid hb1
  have hll : (refL (D.files.map DF.name)).length ≤ 1000 := by have := refL_length (D.files.map DF.name); rw [List.length_map] at this; omega
  clear hrow hb1 hpw hmem hrl HLI
  obtain ⟨L, hL⟩ : ∃ L, L = refL (D.files.map DF.name) := ⟨_, rfl⟩
  have HL : Hid (recsD D = L.flatMap fun n => (splitB (readD D (nameI n)).1).1) := by rw [hL]; rfl
  rw [← hL] at HSG hll
  clear hL
  go_wp2_with fail
  refine HSG.out.mono ?_
  rintro e w2 ⟨v2, rfl, hr2, hb2⟩
  have HR2 := Lib.hid hr2
  have HB2 := Lib.hid (HB1.out.trans (hb2.mono HB1.out.size))
  obtain ⟨-, va, vc, hv2, -⟩ := hr2
  subst hv2
  clear hb2 HSG hsl
  go_wp2_with fail
  go_loopw [3, 16] (fun out i w' => ∃ (m : Nat) (X : List RX), m ≤ L.length ∧ i = .int .i64 m ∧ Hid (Row w' 72 1 out X.length (X.map RX.v) (fun k => w2.heap.size ≤ k)) ∧ Hid (∀ x ∈ X, RdX w2.heap.size x w') ∧ Hid (X.map RX.l = (L.take m).flatMap fun n => (splitB (readD D (nameI n)).1).1) ∧ X.length ≤ 12500 * m ∧ Hid (Below w2.heap.size w2 w')) (fun _ i _ => L.length - (RowKit.intOf i).toNat)
  case atStart => exact ⟨0, [], by omega, rfl, Row.nil _ _ _ _, by simp [Hid], by simp [Hid], by simp, Below.refl _ _⟩
  case round =>
    obtain ⟨m, X, hm, rfl, HO, HX, HE, hxl, HB⟩ := hrel
    have HBW := Lib.hid (HB2.out.trans (HB.out.mono HB2.out.size))
    by_cases hlt : m < L.length
    · obtain ⟨b, o, c', hv, hle, hb, hc⟩ := (HR2.out.later HB.out).at (by omega)
      obtain ⟨rfl, rfl⟩ : va = some ⟨b, o, none⟩ ∧ vc = c' := by cases hv; exact ⟨rfl, rfl⟩
      have hcm : wr.cell? ⟨b, o + m, none⟩ = some (.int .i64 L[m]) := hc m _ (by simp [hlt])
      have HEN : Hid ((L.take (m + 1)).flatMap (fun n => (splitB (readD D (nameI n)).1).1) = ((L.take m).flatMap fun n => (splitB (readD D (nameI n)).1).1) ++ (splitB (readD D (nameI L[m])).1).1) := by rw [Hid, List.take_succ_eq_append_getElem hlt, List.flatMap_append]; simp
      generalize L[m] = n at *
      have hrd := readD_len D (nameI n)
      clear hv hc
      go_wp2_with fail
      refine (segName_any n wr (tab_below HT.out HBW.out)).mono ?_
      rintro e w3 ⟨rfl, hb3⟩
      have HB3 := Lib.hid (HB.out.trans (hb3.mono HB.out.size))
      have HO3 := Lib.hid (HO.out.frame (fun k _ hk => hb3.block k hk))
      have HX3 : Hid (∀ x ∈ X, RdX w2.heap.size x w3) := fun x hx => Row.frame (HX.out x hx) (fun k _ hk => hb3.block k hk)
      have HD3 := Lib.hid (HD.out.frame (fun k hk _ => (HBW.out.trans (hb3.mono HBW.out.size)).block k hk.2))
      clear hb3 HB HO HX HBW hcm hb
      go_wp2_with fail
      refine (read_any _ (nameI n) D _ w3 HD3.out (by omega)).mono ?_
      rintro e w4 ⟨v4, rfl, hr4, hb4⟩
      have HB4 := Lib.hid (HB3.out.trans (hb4.mono HB3.out.size))
      have HO4 := Lib.hid (HO3.out.frame (fun k _ hk => hb4.block k hk))
      have HX4 : Hid (∀ x ∈ X, RdX w2.heap.size x w4) := fun x hx => Row.frame (HX3.out x hx) (fun k _ hk => hb4.block k hk)
      obtain ⟨l, hlq⟩ : ∃ l, l = (readD D (nameI n)).1 := ⟨_, rfl⟩
      rw [← hlq] at hr4 HEN hrd
      obtain ⟨-, a4, c4, hv4, -⟩ := id hr4.reads
      subst hv4
      have HR4 := Lib.hid hr4.reads
      generalize (readD D (nameI n)).2 = cd at *
      clear hb4 hr4 hlq HB3 HO3 HX3 HD3
      go_wp2_with fail
      refine (split_any a4 c4 l w4 HR4.out (by omega)).mono ?_
      rintro e w5 ⟨a5, c5, X5, rfl, hr5, hx5, he5, hl5, hb5⟩
      have hs4 := HB4.out.size
      have HB5 := Lib.hid (HB4.out.trans (hb5.mono HB4.out.size))
      have HO5 := Lib.hid (Row.typed (HO4.out.frame (fun k _ hk => hb5.block k hk)))
      have HX5 : Hid (∀ x ∈ X ++ X5, RdX w2.heap.size x w5) := fun x hx => by
        rcases List.mem_append.1 hx with hx | hx
        · exact Row.frame (HX4.out x hx) (fun k _ hk => hb5.block k hk)
        · exact Row.mono (hx5 x hx) (fun k hk => by omega)
      have HN5 := Lib.hid hr5.reads
      have HO1 := Lib.hid (rx_one hx5)
      have HE5 : Hid ((X ++ X5).map RX.l = (L.take (m + 1)).flatMap fun n => (splitB (readD D (nameI n)).1).1) := by rw [Hid, HEN.out, List.map_append, HE.out, he5]
      generalize (splitB l).2 = cq at *
      clear hr5 hx5 he5 hb5 HB4 HO4 HX4 HE HEN HR4
      go_wp2_with (
        refine wpList_row elemRec rfl rfl (S := fun k => w2.heap.size ≤ k ∧ Typed w5 72 k) (n := X.length) (xs := X.map RX.v) rfl HO5.out (y := .slice a5 X5.length c5) (m := X5.length) (news := X5.map RX.v) rfl HN5.out HO1.out (by unfold maxLen; omega) (by omega) ?_
        intro v6 w6 hr6 hc6)
      have hs5 := HB5.out.size
      have HB6 := Lib.hid (HB5.out.trans (hc6.toBelow hs5 (fun n hn h => by omega)))
      have HO6 : Hid (Row w6 72 1 v6 (X ++ X5).length ((X ++ X5).map RX.v) (fun k => w2.heap.size ≤ k)) := by
        rw [Hid, List.length_append, List.map_append]
        exact hr6.mono (fun k hk => by omega)
      have HX6 : Hid (∀ x ∈ X ++ X5, RdX w2.heap.size x w6) := fun x hx => Row.keepT (HX5.out x hx) (fun k h1 ⟨cs, h2⟩ h3 => hc6.block k h3 (fun ⟨_, cs', h⟩ => by rw [h2] at h; simp at h))
      clear hr6 hc6 HB5 HO5 HX5 HN5 HO1
      go_roundw
      case rel => exact ⟨m + 1, X ++ X5, by omega, by go_num, HO6, HX6, HE5, by rw [List.length_append]; omega, HB6⟩
      case measure => simp [RowKit.intOf]; omega
    · obtain rfl : m = L.length := by omega
      rw [List.take_length] at HE
      go_wp2
      go_ret
      have hs2 := HB2.out.size
      exact ⟨_, X, rfl, HO.out.mono (fun k hk => by omega), fun x hx => Row.mono (HX.out x hx) (fun k hk => by omega), by rw [HE.out, HL.out], by omega, HBW.out⟩
end Go.Proofs.YtgdmdbdljmlkkaaGreatDoor
