/- TrimK: for trimCosts_holds. -/
import Derived.Test.YtgdmdbdljmlkkaaGreatDoorTo01
import Derived.Test.YtgdmdbdljmlkkaaGreatDoorTt31
import Derived.Test.YtgdmdbdljmlkkaaGreatDoorTt34
import Derived.Test.YtgdmdbdljmlkkaaGreatDoorTt19
set_option linter.unusedVariables false
set_option linter.unusedSimpArgs false
namespace Go.Proofs.YtgdmdbdljmlkkaaGreatDoor
open Go.RowKit
set_option maxRecDepth 100000 in
theorem fsize_any (a : Option Addr) (c : Nat) (P : List SL) (w : World) (h : SLs w (.slice a P.length c) P) (hl : P.length ≤ 100) (hs : sumL P ≤ 10000) :
    Calls Tryz.prog 59 #[.slice a P.length c] w fun e w' => e = .returned (.int .i64 ((sumL P + 8 * P.length : Nat) : Int)) ∧ w' = w := by
  have H := Lib.hid h
  clear h
  go_enter Tryz.func59, Tryz.ntmps59
  go_wp2
  go_loop [3, 8] (fun n i => ∃ k : Nat, k ≤ P.length ∧ i = .int .i64 k ∧ n = .int .i64 ((sumL (P.take k) + 8 * k : Nat) : Int)) (fun _ i => P.length - (RowKit.intOf i).toNat)
  case atStart => exact ⟨0, by omega, rfl, rfl⟩
  case round =>
    obtain ⟨k, hk, rfl, rfl⟩ := hrel
    by_cases hlt : k < P.length
    · obtain ⟨b, o, ea, ec, rfl, hle, hbk, hev, hc, hr⟩ := H.out.head hlt
      have hsu := sumL_take hlt
      have hls := sumL_le P (k + 1)
      clear hr hev
      generalize P[k].l.length = pl at *
      have HSU := Lib.hid hsu
      have HX : Hid (pl ≤ 10000 ∧ sumL (P.take k) ≤ 10000) := by rw [Hid]; omega
      generalize sumL (P.take k) = sk at *
      obtain ⟨hx1, hx2⟩ := HX.out
      clear hsu hls
      go_wp2
      go_round
      case rel => exact ⟨k + 1, by omega, by go_num, by have := HSU.out; congr 1; omega⟩
      case measure => simp [RowKit.intOf]; omega
    · obtain rfl : k = P.length := by omega
      rw [List.take_length]
      go_wp2
      go_ret
      exact ⟨rfl, rfl⟩
set_option maxRecDepth 100000 in
theorem tcost_any (a : Option Addr) (c : Nat) (P : List SL) (w : World) (h : SLs w (.slice a P.length c) P) (hl : P.length ≤ 60) (hs : sumL P ≤ 1500) :
    Calls Tryz.prog 58 #[.slice a P.length c] w fun e w' => e = .returned (.int .i64 ((sumL P + 8 * P.length + 8 : Nat) : Int)) ∧ Below w.heap.size w w' := by
  have HMK := Lib.hid (tmarked_any a c P w h (by omega))
  clear h
  go_enter Tryz.func58, Tryz.ntmps58
  go_wp2_with fail
  refine HMK.out.mono ?_
  rintro e w1 ⟨a1, c1, rfl, hsl, hb⟩
  have hln : sumL ((⟨.slice none 0 0, []⟩ : SL) :: P) = sumL P := by simp [sumL]
  have hfs := fsize_any a1 c1 (⟨.slice none 0 0, []⟩ :: P) w1 hsl (by simp; omega) (by omega)
  rw [hln, List.length_cons] at hfs
  have HFS := Lib.hid hfs
  have HB := Lib.hid hb
  have HE : Hid (((sumL P + 8 * (P.length + 1) : Nat) : Int) = ((sumL P + 8 * P.length + 8 : Nat) : Int)) := by rw [Hid]; omega
  clear hsl hb hfs hln HMK
  go_wp2_with fail
  refine HFS.out.mono ?_
  rintro e w2 ⟨rfl, rfl⟩
  rw [HE.out]
  go_wp2
  go_ret
  exact ⟨rfl, HB.out⟩
def usedL (g : Int → List UInt8) (L : List Int) : Nat := (L.map fun n => (g n).length).sum
theorem usedL_take {g : Int → List UInt8} {L : List Int} {k : Nat} (h : k < L.length) : usedL g (L.take (k + 1)) = usedL g (L.take k) + (g L[k]).length := by
  unfold usedL
  rw [List.take_succ_eq_append_getElem h, List.map_append, List.sum_append]; simp
theorem usedL_le (g : Int → List UInt8) (L : List Int) (k : Nat) : usedL g (L.take k) ≤ usedL g L := by
  conv => rhs; rw [← List.take_append_drop k L]
  unfold usedL
  rw [List.map_append, List.sum_append]; omega
theorem usedL_names {D : DS} (hd : D.down = false) {i n : Nat} (h : D.files.map DF.name = namesN i n) (hn : i + n ≤ 99999999) : usedL (contD D) (segsD D) = sumD D.files := by
  unfold usedL sumD
  have e : segsD D = upto i n := by unfold segsD; rw [h, refL_names hn]
  rw [e]
  congr 1
  have hl : D.files.length = n := by have := congrArg List.length h; simpa [namesN_length] using this
  apply List.ext_getElem
  · simp [upto_length, hl]
  · intro k h1 h2
    simp only [List.getElem_map]
    have hk : k < n := by simpa [upto_length] using h1
    have e1 : (upto i n)[k]'(by rw [upto_length]; exact hk) = ((i + k + 1 : Nat) : Int) := by simp [upto]
    have e2 : (D.files[k]'(by omega)).name = nameI ((i + k + 1 : Nat) : Int) := by
      have e3 : (D.files.map DF.name)[k]'(by simp; omega) = (namesN i n)[k]'(by rw [namesN_length]; exact hk) := by simp only [h]
      rw [List.getElem_map] at e3
      rw [e3]; simp [namesN]
    rw [e1]
    have e4 : fnd D (nameI ((i + k + 1 : Nat) : Int)) = some (D.files[k]'(by omega)) := by
      rw [← e2]; exact findD_mem (by rw [h]; exact namesN_nodup hn) (List.getElem_mem (by omega))
    rw [contD_some hd e4]
set_option maxRecDepth 100000 in
set_option maxHeartbeats 2000000 in
theorem tworth_any (x : Value) (D : DS) (S : Nat → Prop) (a : Option Addr) (c : Nat) (P : List SL) (w : World) (h : DRep w x D S) (ht : Tab w) (hD : D.files.length ≤ 1000) (hsum : sumD D.files ≤ 100000) (hnm : ∀ f ∈ D.files, f.name.size ≤ maxLen) (hu : usedL (contD D) (segsD D) ≤ 100000) (hP : SLs w (.slice a P.length c) P) (hl : P.length ≤ 60) (hs : sumL P ≤ 1500) :
    Calls Tryz.prog 60 #[x, .slice a P.length c] w fun e w' => e = .returned (.bool (decide (sumL P + 8 * P.length + 8 < usedL (contD D) (segsD D)))) ∧ Below w.heap.size w w' := by
  have HD := Lib.hid h.tight
  have HT := Lib.hid ht
  have HP := Lib.hid hP
  have HLI := Lib.hid (list_any x D S w h (by omega) hnm)
  have HSUM : Hid (sumD D.files ≤ 1000000000) := by rw [Hid]; omega
  have HDL : Hid (D.files.length ≤ 1000) := hD
  obtain ⟨bx, bm, col, pv, rfl, -⟩ := h
  have HRDA : Hid (∀ (n : Int) (w' : World), Below w.heap.size w w' → Calls Tryz.prog 57 #[.pointer (some ⟨bx, 0, none⟩), .string (nameI n)] w' fun e w2 => ∃ v, e = .returned (.tuple #[v, .int .i64 (readD D (nameI n)).2]) ∧ Row w2 5 1 v (contD D n).length (byts (contD D n)) (fun k => w'.heap.size ≤ k) ∧ Below w'.heap.size w' w2) := fun n w' hb => read_any _ (nameI n) D _ w' (HD.out.frame (fun k hk _ => hb.block k hk.2)) HSUM.out
  have HCOST := Lib.hid (fun (w' : World) (hb : Below w.heap.size w w') => tcost_any a c P w' (HP.out.later hb) hl hs)
  have hpb : (sumL P + 8 * P.length + 8 : Nat) ≤ 100000 := by omega
  generalize (sumL P + 8 * P.length + 8 : Nat) = cst at *
  obtain ⟨ul, hul0⟩ : ∃ ul, ul = usedL (contD D) (segsD D) := ⟨_, rfl⟩
  rw [← hul0]
  have HUL0 := Lib.hid hul0
  rw [← hul0] at hu
  clear ht hD hsum hnm hP HD HP hl hs hul0
  go_enter Tryz.func60, Tryz.ntmps60
  go_wp2_with fail
  refine HLI.out.mono ?_
  rintro e w1 ⟨v, ss, rfl, hrow, hb1, hpw, hmem⟩
  have hsl := mkS_len hpw hmem
  rw [List.length_map] at hsl
  have hrl : refL (mkS ss) = segsD D := refL_same (mkS_mem hmem)
  have hDL := HDL.out
  have HSG := Lib.hid (seglist2_any v (mkS ss) w1 (by rw [mkS_V, List.length_map]; exact hrow.reads) (by rw [List.length_map]; omega))
  rw [hrl] at HSG
  have HB1 := Lib.hid hb1
  have hll : (segsD D).length ≤ 1000 := by have := refL_length (D.files.map DF.name); rw [List.length_map] at this; unfold segsD; omega
  have HUT := Lib.hid (fun (k : Nat) (hk : k < (segsD D).length) => usedL_take (g := contD D) hk)
  have HUL := Lib.hid (fun (k : Nat) => usedL_le (contD D) (segsD D) k)
  rw [← HUL0.out] at HUL
  clear hrow hb1 hpw hmem hrl HLI hsl hDL HDL HSUM
  generalize hg : contD D = g at *
  generalize segsD D = L at *
  clear hg
  go_wp2_with fail
  refine HSG.out.mono ?_
  rintro e w2 ⟨v2, rfl, hr2, -, hb2⟩
  have HR2 := Lib.hid hr2
  have HB2 := Lib.hid (HB1.out.trans (hb2.mono HB1.out.size))
  have hsz2 := HB2.out.size
  obtain ⟨-, va, vc, hv2, -⟩ := id hr2
  subst hv2
  clear hb2 HSG hr2 HB1
  go_wp2_with fail
  go_loopw [5, 16] (fun u i w' => ∃ k : Nat, k ≤ L.length ∧ i = .int .i64 k ∧ u = .int .i64 (usedL g (L.take k) : Nat) ∧ Hid (Below w2.heap.size w2 w')) (fun _ i _ => L.length - (RowKit.intOf i).toNat)
  case atStart => exact ⟨0, by omega, rfl, rfl, Below.refl _ _⟩
  case round =>
    obtain ⟨k, hk, rfl, rfl, HB⟩ := hrel
    by_cases hlt : k < L.length
    · obtain ⟨b, o, c', hv, hle, hb, hc⟩ := (HR2.out.later HB.out).at (by omega)
      obtain ⟨rfl, rfl⟩ : va = some ⟨b, o, none⟩ ∧ vc = c' := by cases hv; exact ⟨rfl, rfl⟩
      have hck : wr.cell? ⟨b, o + k, none⟩ = some (.int .i64 L[k]) := hc k _ (by simp [ints, hlt])
      have hut := HUT.out k hlt
      have hul := HUL.out (k + 1)
      generalize L[k] = n at *
      have HBW := Lib.hid (HB2.out.trans (HB.out.mono HB2.out.size))
      have HNM := Lib.hid (segName_any n wr (tab_below HT.out HBW.out))
      have HRD := Lib.hid (HRDA.out n)
      generalize g n = l at *
      have HUX : Hid (usedL g (L.take (k + 1)) = usedL g (L.take k) + l.length) := hut
      have hx1 : l.length ≤ 100000 := by omega
      have hx2 : usedL g (L.take k) ≤ 100000 := by omega
      generalize usedL g (L.take k) = uk at *
      clear hv hc hut hul
      go_wp2_with fail
      refine HNM.out.mono ?_
      rintro e w3 ⟨rfl, hb3⟩
      have HB3 := Lib.hid (HB.out.trans (hb3.mono HB.out.size))
      have HRE := Lib.hid (HRD.out w3 (HB2.out.trans (HB3.out.mono HB2.out.size)))
      clear hb3 HNM HRD hck
      go_wp2_with fail
      refine HRE.out.mono ?_
      rintro e w4 ⟨v4, rfl, hr4, hb4⟩
      have HB4 := Lib.hid (HB3.out.trans (hb4.mono HB3.out.size))
      obtain ⟨-, a4, c4, hv4, -⟩ := id hr4.reads
      subst hv4
      clear hr4 hb4 HRE
      go_wp2_with fail
      go_roundw
      case rel => exact ⟨k + 1, by omega, by go_num, by have := HUX.out; congr 1; omega, HB4⟩
      case measure => simp [RowKit.intOf]; omega
    · obtain rfl : k = L.length := by omega
      rw [List.take_length, ← HUL0.out]
      have HBW := Lib.hid (HB2.out.trans (HB.out.mono HB2.out.size))
      go_wp2_with fail
      refine (HCOST.out _ HBW.out).mono ?_
      rintro e w5 ⟨rfl, hb5⟩
      have HB5 := Lib.hid (HBW.out.trans (hb5.mono HBW.out.size))
      clear hb5
      go_wp2
      go_ret
      exact ⟨rfl, HB5.out⟩
set_option maxRecDepth 100000 in
theorem rused10_any (room plan : Int) (down : Bool) (v : Value) (R : List RF) (T : Nat → Prop) (w : World) (h : RLi w v R T) (hL : R.length ≤ 1000) (hs : sumR R ≤ 1000000) (hn : ∀ r ∈ R, ∃ k : Nat, 1 ≤ k ∧ k ≤ 99999999 ∧ r.f.name = nameI k) :
    Calls Tryz.prog 61 #[.agg #[.int .i64 room, v, .int .i64 plan, .bool down]] w fun e w' => e = .returned (.int .i64 (sumR R)) ∧ Below w.heap.size w w' := by
  obtain ⟨la, lc, rfl⟩ := slice_form h.row
  have H := Lib.hid h
  have HN := Lib.hid hn
  clear h hn
  have HBX : Hid ((w.alloc (.cells #[.int .i64 room, .slice la R.length lc, .int .i64 plan, .bool down] 32)).heap[w.heap.size]? = some (.cells #[.int .i64 room, .slice la R.length lc, .int .i64 plan, .bool down] 32 (0, 0))) := heap_alloc_new _ _
  have HBel : Hid (Below w.heap.size w (w.alloc (.cells #[.int .i64 room, .slice la R.length lc, .int .i64 plan, .bool down] 32))) := (Below.refl _ _).alloc (Nat.le_refl _) _
  go_enter Tryz.func61, Tryz.ntmps61
  go_wp2
  generalize w.alloc (.cells #[.int .i64 room, .slice la R.length lc, .int .i64 plan, .bool down] 32) = wd at *
  go_loop [3, 4] (fun s i => ∃ m : Nat, m ≤ R.length ∧ i = .int .i64 m ∧ s = .int .i64 (sumR (R.take m) : Nat)) (fun _ i => R.length - (RowKit.intOf i).toNat)
  case atStart => exact ⟨0, by omega, rfl, rfl⟩
  case round =>
    obtain ⟨m, hm, rfl, rfl⟩ := hrel
    have hx1 := (cells4 HBX.out).2.1
    by_cases hlt : m < R.length
    · obtain ⟨b, o, c, he, hcap, hb, hcell⟩ := (H.out.below HBel.out).cells (by omega)
      obtain ⟨rfl, rfl⟩ : la = some ⟨b, o, none⟩ ∧ lc = c := by cases he; exact ⟨rfl, rfl⟩
      have hc := hcell m hlt
      have hsu := sumR_succ hlt
      have hls := sumR_take R (m + 1)
      obtain ⟨kk, hk1, hk2, hk3⟩ := HN.out R[m] (List.getElem_mem hlt)
      obtain ⟨hc0, hc1, -⟩ := hc
      rw [hk3] at hc0
      have HNU : Hid (Calls Tryz.prog 119 #[.string (nameI kk)] wd fun e w' => e = .returned (.tuple #[.int .i64 kk, .bool true]) ∧ wd = w') := by
        have h1 := refNumber_any (nameI kk) wd
        have e1 : numOut (nameI kk).data.toList = .tuple #[.int .i64 kk, .bool true] := by
          unfold numOut
          rw [nameI_num hk1 hk2, decide_eq_true (by omega : 0 < kk)]
        rw [e1] at h1
        exact h1
      clear hcell he hk3
      generalize R[m].a = ra at *
      generalize R[m].c = rc at *
      generalize R[m].f.b.length = rl at *
      generalize nameI kk = nm at *
      go_wp2_with fail
      refine HNU.out.mono ?_
      rintro e w3 ⟨rfl, rfl⟩
      go_wp2
      go_round
      case rel => exact ⟨m + 1, by omega, by go_num, by rw [hsu]; go_num⟩
      case measure => simp [RowKit.intOf]; omega
    · obtain rfl : m = R.length := by omega
      go_wp2
      go_ret
      exact ⟨rfl, HBel.out⟩
set_option maxRecDepth 100000 in
theorem tworth_nil (a : Option Addr) (c : Nat) (P : List SL) (w : World) (hP : SLs w (.slice a P.length c) P) (hl : P.length ≤ 60) (hs : sumL P ≤ 1500) :
    Calls Tryz.prog 60 #[.pointer none, .slice a P.length c] w fun e w' => e = .returned (.bool false) ∧ Below w.heap.size w w' := by
  have HP := Lib.hid hP
  have HCOST := Lib.hid (fun (w' : World) (hb : Below w.heap.size w w') => tcost_any a c P w' (HP.out.later hb) hl hs)
  have hpb : (sumL P + 8 * P.length + 8 : Nat) ≤ 100000 := by omega
  generalize (sumL P + 8 * P.length + 8 : Nat) = cst at *
  have HSG := Lib.hid (seglist2_any (.slice none 0 0) [] w (Reads.nil _ _) (by simp))
  clear hP HP hl hs
  go_enter Tryz.func60, Tryz.ntmps60
  go_wp2_with fail
  refine (list_nil w).mono ?_
  rintro e w1 ⟨rfl, rfl⟩
  go_wp2_with fail
  refine HSG.out.mono ?_
  rintro e w2 ⟨v2, rfl, hr2, -, hb2⟩
  have HB2 := Lib.hid hb2
  obtain ⟨-, va, vc, hv2, -⟩ := id hr2
  subst hv2
  clear hb2 HSG hr2
  rw [show (refL ([] : List ByteArray)).length = 0 from rfl]
  have hc0 : ¬ ((cst : Int) < 0) := by omega
  go_wp2_with fail
  go_loop [5, 16] (fun u i => u = .int .i64 0 ∧ i = .int .i64 0) (fun _ _ => 0)
  case atStart => exact ⟨rfl, rfl⟩
  case round =>
    obtain ⟨rfl, rfl⟩ := hrel
    go_wp2_with fail
    refine (HCOST.out _ HB2.out).mono ?_
    rintro e w5 ⟨rfl, hb5⟩
    have HB5 := Lib.hid (HB2.out.trans (hb5.mono HB2.out.size))
    clear hb5
    go_wp2
    go_ret
    exact ⟨rfl, HB5.out⟩
end Go.Proofs.YtgdmdbdljmlkkaaGreatDoor
