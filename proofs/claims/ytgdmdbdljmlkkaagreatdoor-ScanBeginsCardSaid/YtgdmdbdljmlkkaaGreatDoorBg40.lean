/- Texts for scanBegins_holds, joined: ScanBegins. -/
import Derived.Test.YtgdmdbdljmlkkaaGreatDoorBg36
import Derived.Test.YtgdmdbdljmlkkaaGreatDoorBg38
import Derived.Test.YtgdmdbdljmlkkaaGreatDoorBg39
namespace Go.Proofs.YtgdmdbdljmlkkaaGreatDoor
set_option linter.unusedVariables false
set_option linter.unusedSimpArgs false
open Go.RowKit
/-- The records lie where the disk does not. -/
structure RecsAt (w : World) (S : Nat → Prop) (va : Option Addr) (vc : Nat) (X : List RX) : Prop where
  row : Row w 72 1 (.slice va X.length vc) X.length (X.map RX.v) (fun k => ¬ S k)
  each : ∀ y ∈ X, Row w 5 1 y.v y.l.length (byts y.l) (fun k => ¬ S k)
theorem RecsAt.frame {w w' : World} {S : Nat → Prop} {va : Option Addr} {vc : Nat} {X : List RX} (h : RecsAt w S va vc X) (hc : Chg S w w') : RecsAt w' S va vc X :=
  ⟨h.row.frame (fun k hk hl => hc.block k hl hk), fun y hy => (h.each y hy).frame (fun k hk hl => hc.block k hl hk)⟩
theorem RecsAt.later {w w' : World} {S : Nat → Prop} {va : Option Addr} {vc : Nat} {X : List RX} (h : RecsAt w S va vc X) (hc : Below w.heap.size w w') : RecsAt w' S va vc X :=
  ⟨h.row.frame (fun k hk hl => hc.block k hl), fun y hy => (h.each y hy).frame (fun k hk hl => hc.block k hl)⟩
theorem RecsAt.sls {w : World} {S : Nat → Prop} {va : Option Addr} {vc : Nat} {X : List RX} (h : RecsAt w S va vc X) : SLs w (.slice va (X.map slOf).length vc) (X.map slOf) := by
  rw [List.length_map]
  exact sls_rx (B := 0) h.row (fun x hx => (h.each x hx).mono (fun k _ => Nat.zero_le k))
theorem openP_ok {w w' : World} {x : Value} {S : Nat → Prop} {most : Int} {f : FR} {r : DS × Int} {e : Ending} (h : OpenP w x S most f r e w') (h0 : r.2 = 0) :
    ∃ SS bl ra rc, ∃ X : List RX, e = .returned (.tuple #[.pointer (some ⟨bl, 0, none⟩), .slice ra X.length rc, .int .i64 0]) ∧ DRep w' x r.1 SS ∧ (∀ k, SS k → (S k ∨ w.heap.size ≤ k) ∧ k < w'.heap.size) ∧ Chg S w w' ∧
      w'.heap[bl]? = some (.cells #[.int .i64 (max f.last 1), .int .i64 f.front.length, .int .i64 0, x, .int .i64 most] 148 (0, 0)) ∧ ¬ SS bl ∧ w.heap.size ≤ bl ∧ RecsAt w' (fun k => SS k ∨ k = bl) ra rc X ∧ X.map RX.l = f.recs := by
  obtain ⟨SS, ⟨hd, hss, hc⟩, ⟨h1, rfl⟩ | ⟨-, bl, ra, rc, X, rfl, hblk, hbl, hns, hrow, hrx, hre⟩⟩ := h
  · exact absurd h0 h1
  · exact ⟨SS, bl, ra, rc, X, rfl, hd, hss, hc, hblk, hns, hbl, ⟨hrow.mono (fun k hk h => by rcases h with h | h; exact hk.2.1 h; exact hk.2.2 h), fun y hy => (hrx y hy).mono (fun k hk h => by rcases h with h | h; exact hk.2.1 h; exact hk.2.2 h)⟩, hre⟩
theorem bnd_openD {D : DS} {s n : Nat} (h : Bnd D s n) : Bnd (openS doP D).1 (s + s) (n + 5) := by
  have hf := (findS_small h).1
  unfold openS openG
  split
  · exact h.more (by omega) (by omega)
  · have h1 := bnd_wipe [cutNm, newNm] h
    refine bnd_seqG (h1.more (by omega) (by omega)) ?_
    unfold endG
    have hnm : (nameI (max (findS D).last 1)).size ≤ 300 := by have := nameI_size (max (findS D).last 1); omega
    have hnm2 : (nameI (findS D).last).size ≤ 300 := by have := nameI_size (findS D).last; omega
    split
    · have h2 : Bnd (createD (wipeG doP D [cutNm, newNm]).1 (nameI (max (findS D).last 1))).1 (s + s) (n + 5) := (bnd_create h1 _ hnm).more (by omega) (by omega)
      exact h2
    · have h2 : Bnd (repairG doP (findS D) (wipeG doP D [cutNm, newNm]).1).1 (s + (findS D).front.length) (n + 4) := bnd_repair (nameI (findS D).last) hnm2 (findS D) h1
      have h3 : Bnd (trimG doP (findS D) (repairG doP (findS D) (wipeG doP D [cutNm, newNm]).1).1).1 (s + (findS D).front.length) (n + 4) := bnd_wipe _ h2
      have h4 : Bnd (syncD (trimG doP (findS D) (repairG doP (findS D) (wipeG doP D [cutNm, newNm]).1).1).1 (nameI (max (findS D).last 1))).1 (s + (findS D).front.length) (n + 4) := bnd_sync h3 _
      exact bnd_seqG (h2.more (by omega) (by omega)) (bnd_seqG (h3.more (by omega) (by omega)) (h4.more (by omega) (by omega)))
theorem lclone_any (ao : Option Addr) (n c : Nat) (xs : List Value) (w : World) (h : Reads w (.slice ao n c) n 1 xs) (h1 : ∀ u ∈ xs, u.oneCell' = true) (hn : n ≤ 2000000000) :
    Calls Tryz.prog 43 #[.slice ao n c] w fun e w' => ∃ v', e = .returned v' ∧ Row w' 72 1 v' n xs (fun k => w.heap.size ≤ k) ∧ Below w.heap.size w w' := by
  cases ao with
  | none =>
    obtain ⟨hl, _, _, he, _, hnn, _⟩ := h
    cases he
    obtain ⟨rfl, rfl⟩ := hnn rfl
    obtain rfl : xs = [] := List.eq_nil_of_length_eq_zero (by simpa using hl)
    have he : (binOp .eql 42 (.slice none 0 0) (.slice none 0 0)).run Tryz.prog w = .ok (.bool true) w := by kernel_rfl
    go_enter Tryz.func43, Tryz.ntmps43
    go_wp2
    go_ret
    exact ⟨_, rfl, Row.nil _ _ _ _, Below.refl _ _⟩
  | some ad =>
    have he : ∀ W, (binOp .eql 42 (.slice (some ad) n c) (.slice none 0 0)).run Tryz.prog W = .ok (.bool false) W := fun W => Lib.run_eql_slice_nil W _ _ (some ad) n c 0 0 Tryz.underlying42
    have H := Lib.hid h
    have H1 := Lib.hid h1
    clear h h1
    go_enter Tryz.func43, Tryz.ntmps43
    go_wp2_with (at_builtin; refine wpList_app elemRec rfl rfl (v := .slice (some ⟨w.heap.size, 0, none⟩) 0 0) (n := 0) (xs := []) rfl (base := w.heap.size) (owns_empty _ _ _ _ (Nat.le_refl _) rfl) (y := .slice (some ad) n c) (m := n) (news := xs) rfl (H.out.later ((Below.refl _ _).alloc (Nat.le_refl _) _)) H1.out (by unfold maxLen; omega) (by omega) (by simp) ?_; intro v' w' hr hg _)
    go_ret
    refine ⟨_, rfl, ?_, ?_⟩
    · rw [Nat.zero_add, List.nil_append] at hr
      exact Row.ofOwns hr
    · exact ((Below.refl _ _).alloc (Nat.le_refl _) _).grown hg (by simp) (fun k hk => by cases hk; exact Nat.le_refl _)
/-- The blocks of the two logs, of the list and the box lie apart. -/
def Dis (S T V : Nat → Prop) (bt : Nat) : Prop := (∀ k, S k → ¬ T k ∧ ¬ V k ∧ k ≠ bt) ∧ (∀ k, T k → ¬ V k) ∧ ¬ V bt
set_option maxRecDepth 100000 in
set_option maxHeartbeats 8000000 in
theorem scanBegins_any (m sy : Int) (a0 : Option Addr) (c0 : Nat) (P : List SL) (ka : Option Addr) (kc : Nat) (ks : List Int) (w : World) (hm : 0 ≤ m ∧ m ≤ 255) (hsy : 0 ≤ sy ∧ sy ≤ 255) (h : SLs w (.slice a0 P.length c0) P) (hl : P.length ≤ 5864062014805) (he : ∀ x ∈ P, x.l.length ≤ 9223372036854775807)
    (hk : Reads w (.slice ka ks.length kc) ks.length 1 (ks.map (Value.int .i64))) (hkl : ks.length ≤ 9223372036854775807) (ht : Tab w) :
    Calls Tryz.prog 8 #[.agg #[.int .u8 m, .int .u8 sy], .slice a0 P.length c0, .slice ka ks.length kc] w fun e w' => e = .returned (.bool true) ∧ Below w.heap.size w w' := by
  have H := Lib.hid h
  have HT := Lib.hid ht
  have HHE := Lib.hid he
  have HK0 := Lib.hid hk
  obtain ⟨hm0, hm1⟩ := hm
  obtain ⟨hy0, hy1⟩ := hsy
  have hbx : Hid ((w.alloc (.cells #[.int .u8 m, .int .u8 sy] 69)).heap[w.heap.size]? = some (.cells #[.int .u8 m, .int .u8 sy] 69 (0, 0))) := heap_alloc_new w _
  have HB00 : Hid (Below w.heap.size w (w.alloc (.cells #[.int .u8 m, .int .u8 sy] 69))) := (Below.refl _ _).alloc (Nat.le_refl _) _
  have k0 := cellAt hbx.out 0 rfl
  have k1 := cellAt hbx.out 1 rfl
  clear h ht he hk
  go_enter Tryz.func8, Tryz.ntmps8
  go_upto_region 1 with fail
  generalize hwx : w.alloc (.cells #[.int .u8 m, .int .u8 sy] 69) = wx at *
  go_quiet (fail)
  have HB0 : Hid (Below w.heap.size w (wx.drewN nq)) := ⟨HB00.out.os, HB00.out.tape, HB00.out.output, HB00.out.size, HB00.out.block⟩
  clear hbx k0 k1 hwx HB00
  generalize wx.drewN nq = wq at *
  have HQ := Lib.hid (H.out.later HB0.out)
  have HKQ := Lib.hid (HK0.out.later HB0.out)
  have HTQ := Lib.hid (tab_below HT.out HB0.out)
  have HFE := Lib.hid (rfewL_any _ P wq HQ.out hl HHE.out)
  have HAL := Lib.hid (fun (w' : World) (hb : Below wq.heap.size wq w') => scalive_any w' (tab_below HTQ.out hb))
  clear H HHE HK0 HT
  clear wx
  go_wp2_with fail
  refine HFE.out.mono ?_
  rintro e w1 ⟨⟨b, rfl, hb⟩, hw1⟩
  obtain rfl := hw1.symm
  clear hw1 HFE
  cases b with
  | false =>
    clear hb
    go_wp2_with fail
    refine (HAL.out _ (Below.refl _ _)).mono ?_
    rintro e w1 ⟨rfl, hb⟩
    have HB := Lib.hid (HB0.out.trans (hb.mono HB0.out.size))
    clear hb
    go_wp2
    go_ret
    exact ⟨rfl, HB.out⟩
  | true =>
    obtain ⟨hP60, hsum⟩ := hb rfl
    clear hb hl
    by_cases hk30 : ks.length ≤ 30
    · have hk31 : ¬ 30 < ks.length := by omega
      go_wp2_with fail
      refine (new_any 100000 wq).mono ?_
      rintro e w1 ⟨x, rfl, hd1, hb1⟩
      have hd1' := DRep.tight hd1
      have hbn : Bnd ⟨max 100000 0, [], 0, false⟩ 0 0 := ⟨Nat.le_refl _, Nat.le_refl _, (fun f hf => by cases hf), List.nodup_nil, (by show (0 : Int) ≤ 0 ∧ (0 : Int) ≤ 9223372036854775807; omega)⟩
      have hop := scopen_any x _ _ m w1 hd1' (fun k hk => hk.2) (fun w' hc => tab_below HTQ.out (hb1.trans ((hc.toBelow (B := wq.heap.size) hb1.size (fun k hk h => by have := h.1; omega))))) hbn (by omega) (by omega)
      rw [findS_new, openS_new] at hop
      have HOP := Lib.hid hop
      have HB1 := Lib.hid hb1
      obtain ⟨bx, bm, col, pv, rfl, -⟩ := hd1
      clear hop hd1' hbn hb1 hk31
      go_wp2_with fail
      refine HOP.out.mono ?_
      intro e w2 hop
      obtain ⟨SS, bl, ra, rc, X, rfl, hd2, hss, hc2, hblk, hns, hbl, -, -⟩ := openP_ok hop rfl
      have hb2 : Below wq.heap.size wq w2 := HB1.out.trans (hc2.toBelow (B := wq.heap.size) HB1.out.size (fun k hk h => by have := h.1; omega))
      have hbl2 := lt_of_heap hblk
      have hw1 := HB1.out.size
      have HL0 : Hid (Live8 wq w2 bl bx (segL 100000 m seg0) 100000 m seg0 0 (fun k => SS k ∨ k = bl)) := by
        refine ⟨⟨by rw [segL0]; exact hblk, ?_, .inr rfl⟩, fun k hk => ?_, relL_refl0 100000 m, ?_, hb2, seg0_good m⟩
        · rw [segL0]; exact hd2.mono (fun k hk => ⟨.inl hk, fun e => hns (e ▸ hk)⟩)
        · rcases hk with hk | rfl
          · refine ⟨?_, (hss k hk).2⟩
            rcases (hss k hk).1 with h | h
            · exact h.1
            · omega
          · exact ⟨by omega, hbl2⟩
        · rw [segL0]
          refine ⟨⟨by simp [sumD], by simp, ?_, by simp, by show (0 : Int) ≤ 0 ∧ (0 : Int) ≤ 9223372036854775807; omega⟩, by simp, by simp, by simp⟩
          intro f hf
          rw [List.mem_singleton.1 hf]
          have := nameI_size 1
          show (nameI 1).size ≤ 300
          omega
      have HS2 : Hid (∀ k, (SS k ∨ k = bl) → k < w2.heap.size) := fun k hk => by
        rcases hk with hk | rfl
        · exact (hss k hk).2
        · exact hbl2
      have HB2 := Lib.hid hb2
      have hro := rscopen_any 100000 0 m false (.slice none 0 0) [] (fun _ => False) w2 (RLi.nil _ _) (fun k hk => hk.elim) (by simp) (by simp) (s := 0) ⟨by simp [sumD], by simp, by show (0 : Int) ≤ 0 ∧ (0 : Int) ≤ 9223372036854775807; omega⟩ (by omega)
      rw [List.map_nil, findS_new, openSR_new] at hro
      have HRO := Lib.hid hro
      clear hop hd2 hss hc2 hblk hns hbl hb2 hbl2 hw1 hro HOP
      unfold rdisk at HRO
      go_wp2_with fail
      refine HRO.out.mono ?_
      rintro e w3 ⟨a3, c3, R3, v3, vc3, X3, rfl, hf3, hr3, -, -, -, -, hb3⟩
      have hM : rlogOf (⟨100000, [⟨nameI 1, [], 0⟩], 0, false⟩ : DS) (FR.bad 0) m 0 = segL 100000 m seg0 := by
        unfold rlogOf; rw [if_neg (by simp [FR.bad]), if_pos (show (FR.bad 0).last = 0 from rfl), segL0]
      simp only at hf3
      rw [hM]
      unfold rlog
      have hba : Below w2.heap.size w2 (w3.alloc (.cells (lcells (.slice a3 R3.length c3) (segL 100000 m seg0)) 34)) := hb3.alloc hb3.size _
      have hba3 : Below w3.heap.size w3 (w3.alloc (.cells (lcells (.slice a3 R3.length c3) (segL 100000 m seg0)) 34)) := (Below.refl _ _).alloc (Nat.le_refl _) _
      have hz3 : (w3.alloc (.cells (lcells (.slice a3 R3.length c3) (segL 100000 m seg0)) 34)).heap.size = w3.heap.size + 1 := by simp
      have h23 := hb3.size
      have h02 := HB2.out.size
      have HL4 := Lib.hid (HL0.out.later hba)
      have HR4 : Hid (BegR wq (w3.alloc (.cells (lcells (.slice a3 R3.length c3) (segL 100000 m seg0)) 34)) w3.heap.size m seg0 (fun k => w2.heap.size ≤ k ∧ k < w3.heap.size) a3 c3 R3) :=
        ⟨heap_alloc_new _ _, (hr3.tight.below hba3).mono (fun k hk => ⟨by rcases hk.1 with h | h; exact h.elim; exact h, hk.2⟩), hf3.trans (by rw [show seg0.files = (segD 100000 seg0).files from rfl, segD0]), fun k hk => ⟨by omega, by rw [hz3]; omega, by omega⟩, by omega⟩
      have HD4 : Hid (Dis (fun k => SS k ∨ k = bl) (fun k => w2.heap.size ≤ k ∧ k < w3.heap.size) (fun _ => False) w3.heap.size) := ⟨fun k hk => ⟨fun h => by have := HS2.out k hk; omega, fun h => h, fun e => by have := HS2.out k hk; omega⟩, fun _ _ h => h, fun h => h⟩
      have HW4 : Hid (BegW wq (w3.alloc (.cells (lcells (.slice a3 R3.length c3) (segL 100000 m seg0)) 34)) [] (.slice none 0 0) (fun _ => False)) := ⟨Row.nil _ _ _ _, fun _ h => h.elim, by simp⟩
      clear hf3 hr3 hb3 hM hba hba3 hz3 h23 h02 HL0 HS2 HB2 HRO HB1
      unfold lcells at HL4 HR4 HW4
      go_upto_region 9 with fail
      generalize w3.alloc (.cells #[.int .i64 (segL 100000 m seg0).D.room, .slice a3 R3.length c3, .int .i64 (segL 100000 m seg0).D.plan, .bool (segL 100000 m seg0).D.down, .int .i64 (segL 100000 m seg0).most, .int .i64 (segL 100000 m seg0).n, .int .i64 (segL 100000 m seg0).size, .int .i64 (segL 100000 m seg0).waiting] 34) = w4 at *
      generalize w3.heap.size = bt at *
      generalize (fun k => w2.heap.size ≤ k ∧ k < bt) = T0 at *
      generalize (fun k => SS k ∨ k = bl) = S0 at *
      go_wp2_with fail
      go_loopw [62, 16, 17] (fun i want du w' => ∃ (k : Nat) (s : Seg) (L : LS) (S T V : Nat → Prop) (a : Option Addr) (c : Nat) (R : List RF) (W : List SL) (wa : Option Addr) (wc d : Nat), k ≤ P.length ∧ i = .int .i64 k ∧ want = .slice wa W.length wc ∧ du = .int .i64 d ∧ Hid (Live8 wq w' bl bx L 100000 m s k S) ∧ Hid (BegR wq w' bt m s T a c R) ∧ Hid (BegW wq w' W (.slice wa W.length wc) V) ∧ Hid (BegS m s W k (sumL (P.take k)) d) ∧ Hid (Dis S T V bt)) (fun i _ _ _ => P.length - (RowKit.intOf i).toNat)
      case atStart => exact ⟨0, seg0, _, S0, T0, _, a3, c3, R3, [], none, 0, 0, by omega, rfl, rfl, rfl, HL4, HR4, HW4, by have := BegS.zero m; simpa [Hid, sumL] using this, HD4⟩
      case round =>
        obtain ⟨k, s, L, S, T, V, a, c, R, W, wa, wc, du, hkP, rfl, rfl, rfl, HL, HR, HW, HS, HD⟩ := hrel
        by_cases hlt : k < P.length
        · obtain ⟨b, o, ea, ec, rfl, hle, hbl, hev, hc, hr⟩ := (HQ.out.later HL.out.bel).head hlt
          have hxl := sumL_at hlt
          have hi0 := HS.out.run.i0
          have hipre := HS.out.run.pre
          have hilen := HS.out.run.len
          have hsk := sumL_le P k
          have hwl := HS.out.wl
          have HST := Lib.hid (sumL_take hlt)
          have HEV : Hid (Reads wq (.slice ea P[k].l.length ec) P[k].l.length 1 (byts P[k].l)) := by
            have := HQ.out.each P[k] (List.getElem_mem hlt)
            rwa [hev] at this
          have hcode := stepS_code m s P[k].l
          obtain ⟨M, hM⟩ : ∃ M, M = segL 100000 m s := ⟨_, rfl⟩
          have hrp := rput_seg (room := 100000) HS.out.run (by omega) (by omega) (.slice a R.length c) R T ea ec P[k].l wr HR.out.lst HR.out.rf hr (by omega) (by omega)
          rw [← hM] at hrp
          have HRP := Lib.hid hrp
          have HBX := HR.out.box
          rw [← hM] at HBX
          have HBX2 := Lib.hid HBX
          have HLP := Lib.hid (fun (w3 : World) (L3 : LS) (S3 : Nat → Prop) (h3 : Live8 wq w3 bl bx L3 100000 m s k S3) => h3.put HTQ.out (by omega) (by omega) ea ec P[k].l (HEV.out.later h3.bel) (by omega) (by omega) (by omega))
          have hpl : P[k].l.length ≤ 2000 := by omega
          have HSN : Hid (takes m P[k].l = false → BegS m (stepS m s P[k].l).1 W (k + 1) (sumL (P.take (k + 1))) du) := fun ht => by rw [HST.out]; exact HS.out.no (by omega) hpl ht
          have HSY : Hid (∀ x : SL, x.l = P[k].l → takes m P[k].l = true → BegS m (stepS m s P[k].l).1 (W ++ [x]) (k + 1) (sumL (P.take (k + 1))) du) := fun x hx ht => by rw [HST.out]; exact HS.out.yes (by omega) hx hpl ht
          have HCD := Lib.hid hcode
          generalize hsg : stepS m s P[k].l = sc at *
          obtain ⟨s', cd⟩ := sc
          simp only at HRP HLP HSN HSY HCD
          generalize hbb : sumL (P.take (k + 1)) = b1 at *
          have HB1S : Hid (sumL (P.take (k + 1)) = b1) := hbb
          generalize hplv : P[k].l = pl at *
          have HSK : Hid (∀ j, S j → j < wr.heap.size) := fun j hj => (HL.out.sub j hj).2
          have HVK : Hid (∀ j, V j → j < wr.heap.size) := fun j hj => (HW.out.sub j hj).2
          obtain ⟨x0, x1, x2, x3, x4, x5, x6, x7⟩ := cells8w HBX2.out
          clear hrp HBX hr hi0 hipre hilen hsk hev hcode hsg hbb hplv hxl hpl HST hM
          unfold rlog at HRP
          go_wp2_with fail
          refine HRP.out.mono ?_
          rintro e w2 ⟨v2, R2, rfl, hf2, hr2, hb2⟩
          obtain ⟨a2, c2, rfl⟩ := slice_form hr2.row
          obtain ⟨M2, hM2⟩ : ∃ M2, M2 = segL 100000 m s' := ⟨_, rfl⟩
          have HM2 := Lib.hid hM2
          rw [show (segL 100000 m s').D.files = s'.files from rfl] at hf2
          rw [← hM2]
          have HZ2 := Lib.hid ((hb2.block bt (lt_of_heap HBX2.out)).trans HBX2.out)
          have HF2 := Lib.hid hf2
          have HR2 := Lib.hid hr2
          have HB2 := Lib.hid hb2
          clear x0 x1 x2 x3 x4 x5 x6 x7 hM2 hf2 hr2 hb2 HRP
          obtain ⟨z0, z1, z2, z3, z4, z5, z6, z7⟩ := cells8w HZ2.out
          have q0 := freeAt HZ2.out 0
          have q1 := freeAt HZ2.out 1
          have q2 := freeAt HZ2.out 2
          have q3 := freeAt HZ2.out 3
          have q4 := freeAt HZ2.out 4
          have q5 := freeAt HZ2.out 5
          have q6 := freeAt HZ2.out 6
          have q7 := freeAt HZ2.out 7
          go_upto_region 15 with fail
          obtain ⟨hr3, hc3⟩ := HR.out.set HM2.out HF2.out HR2.out HB2.out rfl
          generalize (((((((((w2.setCell ⟨bt, 0, none⟩ (.int .i64 M2.D.room)).setCell ⟨bt, 1, none⟩ (.slice a2 R2.length c2)).setCell ⟨bt, 2, none⟩ (.int .i64 M2.D.plan)).setCell ⟨bt, 3, none⟩ (.bool M2.D.down)).setCell ⟨bt, 4, none⟩ (.int .i64 M2.most)).setCell ⟨bt, 5, none⟩ (.int .i64 M2.n)).setCell ⟨bt, 6, none⟩ (.int .i64 M2.size)).setCell ⟨bt, 7, none⟩ (.int .i64 M2.waiting))) = w3 at *
          have HR3 := Lib.hid hr3
          have HL3 := Lib.hid (HL.out.off hc3 (fun j _ hj => by have e : j = bt := hj; subst e; exact ⟨HR.out.bt0, fun h => (HD.out.1 _ h).2.2 rfl⟩))
          have HW3 := Lib.hid (HW.out.off hc3 (fun j _ hj => by have e : j = bt := hj; subst e; exact HD.out.2.2))
          have hsz2 := HB2.out.size
          obtain ⟨T2, hT2⟩ : ∃ T2 : Nat → Prop, T2 = fun k => (T k ∨ wr.heap.size ≤ k) ∧ k < w2.heap.size := ⟨_, rfl⟩
          have HD3 : Hid (Dis S T2 V bt) := by
            rw [hT2]
            refine ⟨fun j hj => ⟨fun h => ?_, (HD.out.1 j hj).2.1, (HD.out.1 j hj).2.2⟩, fun j hj h => ?_, HD.out.2.2⟩
            · rcases h.1 with h1 | h1
              · exact (HD.out.1 j hj).1 h1
              · have := HSK.out j hj; omega
            · rcases hj.1 with h1 | h1
              · exact HD.out.2.1 j h1 h
              · have := HVK.out j h; omega
          rw [← hT2] at HR3
          have HPU := Lib.hid (HLP.out w3 L S HL3.out)
          clear z0 z1 z2 z3 z4 z5 z6 z7 q0 q1 q2 q3 q4 q5 q6 q7 hr3 hc3 hT2 HLP HL HR HW HD HZ2 HB2 HF2 HR2 HM2 HBX2 hsz2 HSK HVK
          go_wp2_with fail
          refine HPU.out.mono ?_
          rintro e w4 ⟨L4, S4, rfl, hl4, hc4, hs4⟩
          have HL4 := Lib.hid hl4
          have HR4 := Lib.hid (HR3.out.off hc4 (fun j _ hj => ⟨(HD3.out.1 j hj).1, (HD3.out.1 j hj).2.2⟩))
          have HW4 := Lib.hid (HW3.out.off hc4 (fun j _ hj => (HD3.out.1 j hj).2.1))
          have hbt3 : bt < w3.heap.size := lt_of_heap HR3.out.box
          have HD4 : Hid (Dis S4 T2 V bt) := by
            refine ⟨fun j hj => ?_, HD3.out.2⟩
            rcases hs4 j hj with h | h
            · exact HD3.out.1 j h
            · exact ⟨fun e => by have := (HR3.out.sT j e).2.1; omega, fun e => by have := (HW3.out.sub j e).2; omega, fun e => by omega⟩
          clear hl4 hc4 hs4 HPU HL3 HR3 HW3 HD3 hbt3
          by_cases hcd : cd = 0
          case' pos =>
            subst hcd
            have HS5 := Lib.hid (HSY.out ⟨.slice ea pl.length ec, pl⟩ rfl (HCD.out.1 rfl))
            have hz0 := HL4.out.bel.size
            clear HSN HSY HCD HS
            go_upto_region 17 with (
              refine wpList_row elemRec rfl rfl (S := V) (n := W.length) (xs := W.map SL.v) rfl (HW4.out.row.frame (fun k _ hk => Below.heap_alloc _ _ _ hk)) (y := .slice (some ⟨w4.heap.size, 0, none⟩) 1 1) (m := 1) (news := [.slice ea pl.length ec]) rfl (reads_one w4 _ _) (one_of rfl) (by unfold maxLen; omega) (by omega) ?_
              intro v5 w5 hr5 hc5)
            obtain ⟨wa5, wc5, rfl⟩ := slice_form hr5
            have hc45 : Chg V w4 w5 := (Chg.ofBelow ((Below.refl _ _).alloc (Nat.le_refl _) _)).trans hc5 (fun n hn => .inl hn)
            have HL5 := Lib.hid (HL4.out.off hc45 (fun j _ hj => ⟨(HW4.out.sub j hj).1, fun e => (HD4.out.1 j e).2.1 hj⟩))
            have HR5 := Lib.hid (HR4.out.off hc45 (fun j _ hj => ⟨fun e => HD4.out.2.1 j e hj, fun e => HD4.out.2.2 (e ▸ hj)⟩))
            obtain ⟨V5, hV5⟩ : ∃ V5 : Nat → Prop, V5 = fun j => (V j ∨ w4.heap.size < j) ∧ j < w5.heap.size := ⟨_, rfl⟩
            have HW5 : Hid (BegW wq w5 (W ++ [(⟨.slice ea pl.length ec, pl⟩ : SL)]) (.slice wa5 (W ++ [(⟨.slice ea pl.length ec, pl⟩ : SL)]).length wc5) V5) := by
              refine ⟨?_, fun j hj => ?_, fun x hx => ?_⟩
              · rw [List.length_append, List.map_append, hV5]
                refine hr5.tight.mono (fun j hj => ⟨?_, hj.2⟩)
                rcases hj.1 with h | h
                · exact .inl h
                · simp only [World.size_alloc] at h
                  exact .inr (by omega)
              · rw [hV5] at hj
                rcases hj.1 with h | h
                · exact ⟨(HW4.out.sub j h).1, hj.2⟩
                · exact ⟨by omega, hj.2⟩
              · rcases List.mem_append.1 hx with hx | hx
                · exact HW4.out.each x hx
                · rw [List.mem_singleton.1 hx]; exact HEV.out
            have HD5 : Hid (Dis S4 T2 V5 bt) := by
              rw [hV5]
              refine ⟨fun j hj => ⟨(HD4.out.1 j hj).1, fun e => ?_, (HD4.out.1 j hj).2.2⟩, fun j hj e => ?_, fun e => ?_⟩
              · rcases e.1 with h | h
                · exact (HD4.out.1 j hj).2.1 h
                · have := (HL4.out.sub j hj).2; omega
              · rcases e.1 with h | h
                · exact HD4.out.2.1 j hj h
                · have := (HR4.out.sT j hj).2.1; omega
              · rcases e.1 with h | h
                · exact HD4.out.2.2 h
                · have := lt_of_heap HR4.out.box; omega
            have HLW : Hid ((W ++ [(⟨.slice ea pl.length ec, pl⟩ : SL)]).length = W.length + 1) := by simp [Hid]
            rw [← HLW.out]
            generalize W ++ [(⟨.slice ea pl.length ec, pl⟩ : SL)] = W5 at *
            clear hr5 hc5 hc45 hV5 HL4 HR4 HW4 HD4 hz0 HLW
          case' neg =>
            have hcb : (cd == 0) = false := by simpa using hcd
            have hcb2 : decide (cd = 0) = false := decide_eq_false hcd
            have HS5 := Lib.hid (HSN.out (by
              cases hq : takes m pl with
              | false => rfl
              | true => exact absurd (HCD.out.2 hq) hcd))
            clear HSN HSY HCD HS
            obtain ⟨w5, hw5⟩ : ∃ w5, w5 = w4 := ⟨_, rfl⟩
            obtain ⟨V5, hV5⟩ : ∃ V5, V5 = V := ⟨_, rfl⟩
            obtain ⟨W5, hW5⟩ : ∃ W5, W5 = W := ⟨_, rfl⟩
            obtain ⟨wa5, hwa5⟩ : ∃ wa5, wa5 = wa := ⟨_, rfl⟩
            obtain ⟨wc5, hwc5⟩ : ∃ wc5, wc5 = wc := ⟨_, rfl⟩
            subst hw5 hV5 hW5 hwa5 hwc5
            have HL5 := HL4
            have HR5 := HR4
            have HW5 := HW4
            have HD5 := HD4
            clear HL4 HR4 HW4 HD4
            go_upto_region 17 with fail
          all_goals
            have hi5 := HS5.out.run.i0
            have hp5 := HS5.out.run.pre
            have hl5 := HS5.out.run.len
            have hsk := sumL_le P (k + 1)
            have HBK : Hid (b1 ≤ 1500) := by rw [HB1S.out] at hsk; rw [Hid]; omega
            by_cases hks : (k : Int) = sy
            · have hq1 : ((k : Int) == sy) = true := by simpa using hks
              have hq2 : decide ((k : Int) = sy) = true := decide_eq_true hks
              obtain ⟨M5, hM5⟩ : ∃ M, M = segL 100000 m s' := ⟨_, rfl⟩
              have hbk := HBK.out
              have hfl : R2.length = s'.pre.length + 1 := by
                have := congrArg List.length HR5.out.rf
                rw [List.length_map, files_len] at this
                exact this
              have hsr : sumR R2 ≤ 1000000000 := by
                rw [sumR_f, HR5.out.rf, seg_sum]; omega
              have hrs := rsyncL_any (segL 100000 m s') (.slice a2 R2.length c2) R2 T2 w5 HR5.out.lst HR5.out.rf (by omega) (by show (0 : Int) ≤ 0 ∧ (0 : Int) ≤ 9223372036854775807; omega) hsr
              rw [synG_seg (by omega), ← hM5] at hrs
              have HRS := Lib.hid hrs
              have hbx5 := HR5.out.box
              rw [← hM5] at hbx5
              have HBX5 := Lib.hid hbx5
              obtain ⟨x0, x1, x2, x3, x4, x5, x6, x7⟩ := cells8w HBX5.out
              obtain ⟨s7, hs7⟩ : ∃ s7 : Seg, s7 = { s' with wt := 0 } := ⟨_, rfl⟩
              have HS7 := Lib.hid HS5.out.sync
              change Hid (BegS m { s' with wt := 0 } W5 (k + 1) b1 W5.length) at HS7
              rw [← hs7] at HRS HS7
              have HSS7 := Lib.hid hs7
              have HSK : Hid (∀ j, S4 j → j < w5.heap.size) := fun j hj => (HL5.out.sub j hj).2
              have HVK : Hid (∀ j, V5 j → j < w5.heap.size) := fun j hj => (HW5.out.sub j hj).2
              clear hM5 hfl hsr hrs hbx5 hi5 hp5 hl5 hsk hs7 hks HS5 hbk
              unfold rlog at HRS
              go_wp2_with fail
              refine HRS.out.mono ?_
              rintro e w6 ⟨v6, R6, rfl, hf6, hr6, hb6⟩
              obtain ⟨a6, c6, rfl⟩ := slice_form hr6.row
              obtain ⟨M6, hM6⟩ : ∃ M, M = segL 100000 m s7 := ⟨_, rfl⟩
              have HM6 := Lib.hid hM6
              rw [show (segL 100000 m s7).D.files = s7.files from rfl] at hf6
              rw [← hM6]
              have HZ6 := Lib.hid ((hb6.block bt (lt_of_heap HBX5.out)).trans HBX5.out)
              have HF6 := Lib.hid hf6
              have HR6 := Lib.hid hr6
              have HB6 := Lib.hid hb6
              clear x0 x1 x2 x3 x4 x5 x6 x7 hM6 hf6 hr6 hb6 HRS
              obtain ⟨z0, z1, z2, z3, z4, z5, z6, z7⟩ := cells8w HZ6.out
              have q0 := freeAt HZ6.out 0
              have q1 := freeAt HZ6.out 1
              have q2 := freeAt HZ6.out 2
              have q3 := freeAt HZ6.out 3
              have q4 := freeAt HZ6.out 4
              have q5 := freeAt HZ6.out 5
              have q6 := freeAt HZ6.out 6
              have q7 := freeAt HZ6.out 7
              go_upto_region 19 with fail
              obtain ⟨hr7, hc7⟩ := HR5.out.set HM6.out HF6.out HR6.out HB6.out rfl
              generalize (((((((((w6.setCell ⟨bt, 0, none⟩ (.int .i64 M6.D.room)).setCell ⟨bt, 1, none⟩ (.slice a6 R6.length c6)).setCell ⟨bt, 2, none⟩ (.int .i64 M6.D.plan)).setCell ⟨bt, 3, none⟩ (.bool M6.D.down)).setCell ⟨bt, 4, none⟩ (.int .i64 M6.most)).setCell ⟨bt, 5, none⟩ (.int .i64 M6.n)).setCell ⟨bt, 6, none⟩ (.int .i64 M6.size)).setCell ⟨bt, 7, none⟩ (.int .i64 M6.waiting))) = w7 at *
              have HR7 := Lib.hid hr7
              have HL7 := Lib.hid (HL5.out.off hc7 (fun j _ hj => by have e : j = bt := hj; subst e; exact ⟨HR5.out.bt0, fun h => (HD5.out.1 _ h).2.2 rfl⟩))
              have HW7 := Lib.hid (HW5.out.off hc7 (fun j _ hj => by have e : j = bt := hj; subst e; exact HD5.out.2.2))
              obtain ⟨T7, hT7⟩ : ∃ T7 : Nat → Prop, T7 = fun k => (T2 k ∨ w5.heap.size ≤ k) ∧ k < w6.heap.size := ⟨_, rfl⟩
              have HD7 : Hid (Dis S4 T7 V5 bt) := by
                rw [hT7]
                refine ⟨fun j hj => ⟨fun h => ?_, (HD5.out.1 j hj).2.1, (HD5.out.1 j hj).2.2⟩, fun j hj h => ?_, HD5.out.2.2⟩
                · rcases h.1 with h1 | h1
                  · exact (HD5.out.1 j hj).1 h1
                  · have := HSK.out j hj; omega
                · rcases hj.1 with h1 | h1
                  · exact HD5.out.2.1 j h1 h
                  · have := HVK.out j h; omega
              rw [← hT7] at HR7
              have HSYN := Lib.hid (HL7.out.sync HTQ.out)
              rw [← HSS7.out] at HSYN
              clear z0 z1 z2 z3 z4 z5 z6 z7 q0 q1 q2 q3 q4 q5 q6 q7 hr7 hc7 hT7 HL5 HR5 HW5 HD5 HZ6 HB6 HF6 HR6 HM6 HBX5 HSK HVK
              go_wp2_with fail
              refine HSYN.out.mono ?_
              rintro e w8 ⟨L8, S8, rfl, hl8, hc8, hs8⟩
              have HL8 : Hid (Live8 wq w8 bl bx L8 100000 m s7 (k + 1) S8) := hl8
              have HR8 := Lib.hid (HR7.out.off hc8 (fun j _ hj => ⟨(HD7.out.1 j hj).1, (HD7.out.1 j hj).2.2⟩))
              have HW8 := Lib.hid (HW7.out.off hc8 (fun j _ hj => (HD7.out.1 j hj).2.1))
              have hbt7 : bt < w7.heap.size := lt_of_heap HR7.out.box
              have HD8 : Hid (Dis S8 T7 V5 bt) := by
                refine ⟨fun j hj => ?_, HD7.out.2⟩
                rcases hs8 j hj with h | h
                · exact HD7.out.1 j h
                · exact ⟨fun e => by have := (HR7.out.sT j e).2.1; omega, fun e => by have := (HW7.out.sub j e).2; omega, fun e => by omega⟩
              clear hl8 hc8 hs8 HSYN HL7 HR7 HW7 HD7 hbt7
              go_wp2_with fail
              go_roundw
              case rel => exact ⟨k + 1, s7, L8, S8, T7, V5, a6, c6, R6, W5, wa5, wc5, W5.length, by omega, by go_num, rfl, rfl, HL8, HR8, HW8, by rw [Hid, HB1S.out]; exact HS7.out, HD8⟩
              case measure => simp [RowKit.intOf]; omega
            · have hq1 : ((k : Int) == sy) = false := by simpa using hks
              have hq2 : decide ((k : Int) = sy) = false := decide_eq_false hks
              clear hi5 hp5 hl5 hsk hks
              go_wp2_with fail
              go_roundw
              case rel => exact ⟨k + 1, s', L4, S4, T2, V5, a2, c2, R2, W5, wa5, wc5, du, by omega, by go_num, rfl, rfl, HL5, HR5, HW5, by rw [Hid, HB1S.out]; exact HS5.out, HD5⟩
              case measure => simp [RowKit.intOf]; omega
        · obtain rfl : k = P.length := by omega
          rw [List.take_length] at HS
          have hnum := HL.out.good.num
          have hlen := HS.out.run.len
          have hal8 := framesB_len8 s.all
          have hwl := HS.out.wl
          have hWl : W.length = s.all.length := by
            have := congrArg List.length HS.out.all
            rwa [List.length_map] at this
          have hsumD : sumD L.D.files ≤ 2000 := by
            have h1 : sumD L.D.files = sumD (segD 100000 s).files := HL.out.rel.rel.sum
            have h2 : sumD (segD 100000 s).files = (framesB s.all).length := seg_sum s
            omega
          have hb60 : L.D.files.length ≤ 61 := by have := HL.out.bnd.d.len; omega
          have hbd : Bnd L.D 2000 61 := ⟨hsumD, hb60, HL.out.bnd.d.nm, HL.out.bnd.d.nd, HL.out.bnd.d.plan⟩
          have HBD := Lib.hid hbd
          have hbl : bl < wr.heap.size := lt_of_heap HL.out.log.blk
          have HCR := Lib.hid (crash_any (.pointer (some ⟨bx, 0, none⟩)) ka kc ks L.D (fun k => S k ∧ k ≠ bl) wr HL.out.log.dsk (by omega) (fun g hg => by have := hbd.nm g hg; unfold maxLen; omega) (HKQ.out.later HL.out.bel) (by omega) (fun ad had hpos hS => by
            have h1 := (HL.out.sub _ hS.1).1
            obtain ⟨b, o, c', hv, -, hlt, -⟩ := HKQ.out.at hpos
            injection hv with h2 h3 h4
            rw [had] at h2
            injection h2 with h2
            rw [h2] at h1
            have h5 : b < wq.heap.size := hlt
            have h6 : wq.heap.size ≤ b := h1
            omega))
          have HRM : Hid (rdisk (segL 100000 m s).D.room (.slice a R.length c) (segL 100000 m s).D.plan (segL 100000 m s).D.down = .agg #[.int .i64 100000, .slice a R.length c, .int .i64 0, .bool false]) := rfl
          have HWL := Lib.hid hWl
          have hsz1 := HL.out.bel.size
          clear hnum hal8 hsumD hb60 hbd hWl hlt
          go_wp2_with fail
          refine HCR.out.mono ?_
          rintro e w2 ⟨ss, ⟨hp1, hp2⟩, rfl, hd2, hc2⟩
          have hrel3 : Rel (crashN L.D ss ks ss.length) ⟨100000, crashF s.files ks, 0, false⟩ := rel_crash HL.out.rel.rel hp1 hp2 ks
          obtain ⟨j, j1, j2, j3, j4, j5, j6, j7, j8⟩ := begins_plain (room := 100000) HL.out.good HS.out.ne ks (by omega) hrel3
          have hb3 : Bnd (crashN L.D ss ks ss.length) 2000 61 := bnd_crash HBD.out ss ks _
          have HREL3 := Lib.hid hrel3
          have HB3 := Lib.hid hb3
          generalize crashN L.D ss ks ss.length = D3 at *
          have hc2S : Chg S wr w2 := hc2.mono (fun k hk => hk.1)
          have HR2 := Lib.hid (HR.out.off hc2S (fun k _ hk => ⟨(HD.out.1 k hk).1, (HD.out.1 k hk).2.2⟩))
          have HW2 := Lib.hid (HW.out.off hc2S (fun k _ hk => (HD.out.1 k hk).2.1))
          have HB2 : Hid (Below wq.heap.size wq w2) := HL.out.bel.trans (hc2S.toBelow (B := wq.heap.size) HL.out.bel.size (fun k hk h => by have := (HL.out.sub k h).1; omega))
          have HD2 := Lib.hid hd2
          have HJ1 := Lib.hid j1
          have HJ2 := Lib.hid j2
          have HJ3 := Lib.hid j3
          have HJ4 := Lib.hid j4
          have HJ5 := Lib.hid j5
          have HJ6 := Lib.hid j6
          have HJ7 := Lib.hid j7
          have HJ8 := Lib.hid j8
          have hs2 := hc2.size
          have HSW : Hid (∀ k, S k → wq.heap.size ≤ k ∧ k < w2.heap.size) := fun k hk => ⟨(HL.out.sub k hk).1, by have := (HL.out.sub k hk).2; omega⟩
          have HRC := Lib.hid (rcrash_any 100000 0 false (.slice a R.length c) R T ka kc ks w2 HR2.out.lst (by have h1 := congrArg List.length HR.out.rf; rw [List.length_map, files_len] at h1; have := HS.out.run.pre; omega) (HKQ.out.later HB2.out) (by omega))
          obtain ⟨z0, z1, z2, z3, z4, z5, z6, z7⟩ := cells8w HR2.out.box
          have y0 : w2.cell? ⟨bt, 0, none⟩ = some (.int .i64 100000) := z0
          have y2 : w2.cell? ⟨bt, 2, none⟩ = some (.int .i64 0) := z2
          have y3 : w2.cell? ⟨bt, 3, none⟩ = some (.bool false) := z3
          clear z0 z2 z3 z4 z5 z6 z7 hp1 hp2 hd2 hc2 hc2S hrel3 hb3 j1 j2 j3 j4 j5 j6 j7 j8 HCR
          unfold rdisk at HRC
          go_wp2_with fail
          refine HRC.out.mono ?_
          rintro e w3 ⟨v3', rfl, hr3, hb3⟩
          have hrt := hr3.tight
          obtain ⟨ar, cr, rfl⟩ := slice_form hrt.row
          have hfs : (crashR R ks).map RF.f = crashF s.files ks := by rw [crashR_f, HR.out.rf]
          have hcl : (crashR R ks).length = (crashR R ks).length := rfl
          have hsumF : sumD (crashF s.files ks) ≤ 2000 := by have h1 := HREL3.out.sum; have h2 := HB3.out.sum; have h3 : sumD D3.files = sumD (crashF s.files ks) := h1; omega
          have hlenF : (crashF s.files ks).length ≤ 61 := by have h1 := HREL3.out.len; have h2 := HB3.out.len; have h3 : D3.files.length = (crashF s.files ks).length := h1; omega
          have hRl : (crashR R ks).length ≤ 61 := by have := congrArg List.length hfs; rw [List.length_map] at this; omega
          have hro := rscopen_any 100000 0 m false _ (crashR R ks) _ w3 hrt (fun k hk => hk.2) (by omega) (fun r hr => by
            have h1 := len_le_sum (List.mem_map_of_mem (f := RF.f) hr)
            rw [hfs] at h1; omega) (s := 2000) ⟨by rw [hfs]; exact hsumF, by rw [hfs]; show (crashF s.files ks).length ≤ 1000; omega, by show (0 : Int) ≤ 0 ∧ (0 : Int) ≤ 9223372036854775807; omega⟩ (by omega)
          rw [hfs, ← rel_find HREL3.out] at hro
          have HRO := Lib.hid hro
          have HOE := Lib.hid (rel_openS HREL3.out).1
          have HRT := Lib.hid hrt
          have HBW3 := Lib.hid hb3
          clear hr3 hb3 hrt hfs hcl hsumF hlenF hRl hro y0 y2 y3 z1 HRC HR
          unfold rdisk at HRO
          go_wp2_with fail
          refine HRO.out.mono ?_
          rintro e w4 ⟨a4, c4, R4, v4, vc4, X4, rfl, hf4, hr4, hrow4, hx4, hxl4, hxn4, hb4⟩
          rw [← HOE.out, HJ6.out] at hxl4
          rw [← HOE.out, HJ6.out]
          have hrecs : rrecsOf (findS D3) 0 = (findS D3).recs := by
            unfold rrecsOf
            rw [if_neg (by rw [HJ4.out]; decide), if_neg (by rw [HJ5.out]; omega), if_neg (by decide)]
          rw [hrecs] at hxl4
          generalize rlogOf (openS doR ⟨100000, crashF s.files ks, 0, false⟩).1 (findS D3) m 0 = ML at *
          unfold rlog
          have hb4a : Below w4.heap.size w4 (w4.alloc (.cells #[.int .i64 ML.D.room, .slice a4 R4.length c4, .int .i64 ML.D.plan, .bool ML.D.down, .int .i64 ML.most, .int .i64 ML.n, .int .i64 ML.size, .int .i64 ML.waiting] 34)) := (Below.refl _ _).alloc (Nat.le_refl _) _
          have hb34 : Below w3.heap.size w3 (w4.alloc (.cells #[.int .i64 ML.D.room, .slice a4 R4.length c4, .int .i64 ML.D.plan, .bool ML.D.down, .int .i64 ML.most, .int .i64 ML.n, .int .i64 ML.size, .int .i64 ML.waiting] 34)) := hb4.trans (hb4a.mono hb4.size)
          have hb24 : Below w2.heap.size w2 (w4.alloc (.cells #[.int .i64 ML.D.room, .slice a4 R4.length c4, .int .i64 ML.D.plan, .bool ML.D.down, .int .i64 ML.most, .int .i64 ML.n, .int .i64 ML.size, .int .i64 ML.waiting] 34)) := HBW3.out.trans (hb34.mono HBW3.out.size)
          have HX4 : Hid (Row (w4.alloc (.cells #[.int .i64 ML.D.room, .slice a4 R4.length c4, .int .i64 ML.D.plan, .bool ML.D.down, .int .i64 ML.most, .int .i64 ML.n, .int .i64 ML.size, .int .i64 ML.waiting] 34)) 72 1 (.slice v4 X4.length vc4) X4.length (X4.map SL.v) (fun k => w3.heap.size ≤ k)) := hrow4.frame (fun k _ hk => hb4a.block k hk)
          have HRL5 := Lib.hid (HRT.out.below hb34)
          have HX4R := Lib.hid hx4
          have HXL4 := Lib.hid hxl4
          have HXN4 := Lib.hid hxn4
          have HB5 := Lib.hid (HB2.out.trans (hb24.mono HB2.out.size))
          have HD5 := Lib.hid (HD2.out.frame (fun k _ hk => hb24.block k hk))
          have HW5 := Lib.hid (HW2.out.off (Chg.ofBelow hb24 : Chg (fun _ => False) _ _) (fun _ _ h => h.elim))
          have HSZ : Hid (∀ k, S k → k < (w4.alloc (.cells #[.int .i64 ML.D.room, .slice a4 R4.length c4, .int .i64 ML.D.plan, .bool ML.D.down, .int .i64 ML.most, .int .i64 ML.n, .int .i64 ML.size, .int .i64 ML.waiting] 34)).heap.size) := fun k hk => by have h1 := (HSW.out k hk).2; have h2 := hb24.size; omega
          have HS3 : Hid (w2.heap.size ≤ w3.heap.size) := HBW3.out.size
          clear hf4 hr4 hrow4 hx4 hxl4 hxn4 hb4 hb4a hb34 hb24 hrecs HRO HRT HBW3 HD2 HW2 HB2 HR2
          go_upto_region 24 with fail
          generalize w4.alloc (.cells #[.int .i64 ML.D.room, .slice a4 R4.length c4, .int .i64 ML.D.plan, .bool ML.D.down, .int .i64 ML.most, .int .i64 ML.n, .int .i64 ML.size, .int .i64 ML.waiting] 34) = w5 at *
          have HOP2 := Lib.hid (scopen_any (.pointer (some ⟨bx, 0, none⟩)) D3 (fun k => S k ∧ k ≠ bl) m w5 HD5.out (fun k hk => HSZ.out k hk.1) (fun w' hc => tab_below HTQ.out (HB5.out.trans (hc.toBelow (B := wq.heap.size) HB5.out.size (fun k hk h => by have := (HSW.out k h.1).1; omega)))) HB3.out (by omega) (by omega))
          clear HD5
          go_wp2_with fail
          refine HOP2.out.mono ?_
          intro e w6 hop
          obtain ⟨SS2, bl2, ra2, rc2, X5, rfl, hd6, hss6, hc6, hbk6, hns6, hbl6, hrc6, hre6⟩ := openP_ok hop HJ6.out
          have hc6S : Chg S w5 w6 := hc6.mono (fun k hk => hk.1)
          have HB6 : Hid (Below wq.heap.size wq w6) := HB5.out.trans (hc6S.toBelow (B := wq.heap.size) HB5.out.size (fun k hk h => by have := (HSW.out k h).1; omega))
          have HW6 := Lib.hid (HW5.out.off hc6S (fun k _ hk => (HD.out.1 k hk).2.1))
          have hb5q := HB5.out.size
          have HL6 : Hid (Live8 wq w6 bl2 bx ⟨max (findS D3).last 1, (findS D3).front.length, 0, m, (openS doP D3).1⟩ 100000 m ⟨s.i0, s.pre, s.cur.take j, 0⟩ 70 (fun k => SS2 k ∨ k = bl2)) := by
            have hbo := bnd_openD HB3.out
            have hn := HJ7.out.n
            have hfr := (findS_small HB3.out).1
            have hi0 := HS.out.run.i0
            have hpr := HS.out.run.pre
            refine ⟨⟨hbk6, hd6.mono (fun k hk => ⟨.inl hk, fun e => hns6 (e ▸ hk)⟩), .inr rfl⟩, fun k hk => ?_, HJ7.out, ⟨hbo.more (by omega) (by omega), ?_, ?_, ?_⟩, HB6.out, HJ8.out⟩
            · rcases hk with hk | rfl
              · refine ⟨?_, (hss6 k hk).2⟩
                rcases (hss6 k hk).1 with h | h
                · exact (HSW.out k h.1).1
                · omega
              · exact ⟨by omega, lt_of_heap hbk6⟩
            · rw [HJ5.out]; show 1 ≤ max (((s.i0 + s.pre.length + 1 : Nat) : Int)) 1 ∧ max (((s.i0 + s.pre.length + 1 : Nat) : Int)) 1 ≤ _; omega
            · show (0 : Int) ≤ ((findS D3).front.length : Int) ∧ ((findS D3).front.length : Int) ≤ _; omega
            · show (0 : Int) ≤ 0 ∧ (0 : Int) ≤ _; omega
          have HG5 : Hid (SLs w6 (.slice ra2 X5.length rc2) (X5.map slOf)) := by have := hrc6.sls; rwa [List.length_map] at this
          have HG4 : Hid (SLs w6 (.slice v4 X4.length vc4) X4) := by
            refine ⟨(HX4.out.frame (w' := w6) (fun k hk hl => hc6S.block k hl (fun h => by have := (HSW.out k h).2; have := HS3.out; omega))).reads, fun x hx => HX4R.out x hx w6 (rdr_of (HRL5.out.frame (w' := w6) (fun k hk hl => hc6S.block k hl (fun h => ?_))))⟩
            rcases hk.1 with h1 | h1
            · exact (HD.out.1 k h).1 h1
            · have := (HSW.out k h).2; omega
          have hXl : X5.length = s.pre.flatten.length + (s.cur.take j).length := by
            have := congrArg List.length hre6
            rw [List.length_map, HJ1.out, List.length_append] at this
            exact this
          have hcj : (s.cur.take j).length = j := by rw [List.length_take]; have := HJ2.out; omega
          have hsal : s.all.length = s.pre.flatten.length + s.cur.length := by unfold Seg.all; rw [List.length_append]
          have hdu := HS.out.dur
          have hWn := HWL.out
          have hj2 := HJ2.out
          have hj3 := HJ3.out
          have hx1 : du ≤ X5.length := by omega
          have hx2 : X5.length ≤ W.length := by omega
          have HE5 : Hid ((X5.map slOf).map SL.l = (W.take X5.length).map SL.l) := by
            rw [Hid, List.map_map, List.map_take, HS.out.all, hXl, hcj]
            show X5.map RX.l = _
            rw [hre6, HJ1.out]
            unfold Seg.all
            rw [List.take_append, List.take_of_length_le (l := s.pre.flatten) (by omega), show s.pre.flatten.length + j - s.pre.flatten.length = j by omega]
          have HE4 : Hid ((X5.map slOf).map SL.l = X4.map SL.l) := by
            rw [Hid, List.map_map, HXL4.out]; exact hre6
          have HN5 : Hid ((X5.map slOf).length ≤ 1000000000) := by rw [Hid, List.length_map]; omega
          obtain ⟨wb, wo, hwv⟩ : ∃ ao c, Value.slice wa W.length wc = .slice ao W.length c ∧ W.length ≤ c := by
            obtain ⟨-, ao, c, h1, h2, -⟩ := HW6.out.row.reads
            exact ⟨ao, c, h1, h2⟩
          have hwc : W.length ≤ wc := by
            have h1 := hwv.1
            injection h1 with h2 h3 h4
            omega
          have HGW : Hid (SLs w6 (.slice wa X5.length wc) (W.take X5.length)) := by
            have hlt : (W.take X5.length).length = X5.length := by rw [List.length_take, Nat.min_eq_left hx2]
            refine ⟨?_, fun x hx => (HW6.out.each x (List.mem_of_mem_take hx)).later HB6.out⟩
            rw [hlt, List.map_take]
            exact HW6.out.row.reads.take X5.length hx2
          have HRC6 := Lib.hid hrc6
          have hz0 : (0 : Int) ≤ (X5.length : Int) := by omega
          have hz1 : (X5.length : Int) ≤ (wc : Int) := by omega
          have d1 : decide (X5.length < du) = false := decide_eq_false (by omega)
          have d2 : decide (W.length < X5.length) = false := decide_eq_false (by omega)
          have d3 : ¬ X5.length < du := by omega
          have d4 : ¬ W.length < X5.length := by omega
          have HX5N : Hid (X5.length ≤ 1000000) := by rw [Hid]; omega
          have HSNE : Hid (∀ r ∈ (⟨s.i0, s.pre, s.cur.take j, 0⟩ : Seg).all, r ≠ []) := fun r hr => by
            rcases List.mem_append.1 hr with h | h
            · exact HS.out.ne r (List.mem_append_left _ h)
            · exact HS.out.ne r (List.mem_append_right _ (List.mem_of_mem_take h))
          have HXA : Hid (X5.map RX.l = (⟨s.i0, s.pre, s.cur.take j, 0⟩ : Seg).all) := by rw [Hid, hre6, HJ1.out]; rfl
          have HPR : Hid (s.i0 + s.pre.length + 2 ≤ 1000 ∧ (framesB (⟨s.i0, s.pre, s.cur.take j, 0⟩ : Seg).all).length ≤ 2000) := by
            have h1 := HS.out.run.i0
            have h2 := HS.out.run.pre
            refine ⟨by omega, ?_⟩
            have h4 : framesB s.cur = framesB (s.cur.take j) ++ framesB (s.cur.drop j) := by rw [← framesB_append, List.take_append_drop]
            have h5 := congrArg List.length h4
            rw [List.length_append] at h5
            have h3 : (framesB s.all).length = (framesB s.pre.flatten).length + (framesB s.cur).length := by unfold Seg.all; rw [framesB_append, List.length_append]
            show (framesB (s.pre.flatten ++ s.cur.take j)).length ≤ 2000
            rw [framesB_append, List.length_append]; omega
          obtain ⟨s2, hs2e⟩ : ∃ s2 : Seg, s2 = ⟨s.i0, s.pre, s.cur.take j, 0⟩ := ⟨_, rfl⟩
          have HS2P : Hid (s2.i0 + s2.pre.length + 2 ≤ 1000 ∧ (framesB s2.all).length ≤ 2000) := by rw [hs2e]; exact HPR.out
          rw [← hs2e] at HL6 HSNE HXA
          generalize (⟨max (findS D3).last 1, (findS D3).front.length, 0, m, (openS doP D3).1⟩ : LS) = L6 at *
          clear hwv hwc hx1 hx2 hj2 hj3 hWn hdu hsal hcj hXl hop hd6 hss6 hc6 hbk6 hns6 hbl6 hrc6 hre6 hc6S hb5q HPR hs2e HOP2 hs2 hwl hlen hsz1
          clear HJ1 HJ2 HJ3 HJ4 HJ5 HJ6 HJ7 HJ8 HOE HREL3 HB3 HX4R HXL4 HRL5 HX4 HW5 HBD HW HL HD HS HWL
          go_wp2_with fail
          refine (rsameL_any _ _ (X5.map slOf) (W.take X5.length) w6 HG5.out HGW.out HE5.out HN5.out).mono ?_
          rintro e w7 ⟨rfl, hb7⟩
          have HB7 := Lib.hid hb7
          clear hb7
          go_wp2_with fail
          refine (rsameL_any _ _ (X5.map slOf) X4 w7 (HG5.out.later HB7.out) (HG4.out.later HB7.out) HE4.out HN5.out).mono ?_
          rintro e w8 ⟨rfl, hb8⟩
          have HB8 := belh_step (w0 := w6) HB7 hb8
          clear hb8 d1 d2 d3 d4 hz0 hz1
          by_cases hP0 : P = []
          · have hp0 : ((P.length : Int) == 0) = true := by rw [hP0]; rfl
            have HB68 := Lib.hid (HB6.out.trans (HB8.out.mono HB6.out.size))
            go_wp2_with fail
            refine (HAL.out w8 HB68.out).mono ?_
            rintro e w9 ⟨rfl, hb9⟩
            have HB9 := Lib.hid (HB0.out.trans ((HB68.out.trans (hb9.mono HB68.out.size)).mono HB0.out.size))
            clear hb9
            go_wp2
            go_ret
            exact ⟨rfl, HB9.out⟩
          · have hpl := List.length_pos_iff.2 hP0
            have hp0 : ((P.length : Int) == 0) = false := by simp; exact hP0
            have hB68 := HB6.out.trans (HB8.out.mono HB6.out.size)
            obtain ⟨b, o, ea, ec, rfl, hle, hbl0, hev, hc, hr⟩ := (HQ.out.later hB68).head hpl
            rw [Nat.add_zero] at hc
            have hxl := sumL_at hpl
            have hq2 := HS2P.out.2
            have HL8 := Lib.hid (HL6.out.later HB8.out)
            have HRC8 := Lib.hid (HRC6.out.later HB8.out)
            have hcode := stepS_code m s2 P[0].l
            have hallx := stepS_all m s2 P[0].l
            have hstl := stepS_len m s2 P[0].l
            have HPU := Lib.hid (HL8.out.put HTQ.out (by omega) (by omega) ea ec P[0].l hr (by omega) HS2P.out.1 (by omega))
            have HEV : Hid (Reads wq (.slice ea P[0].l.length ec) P[0].l.length 1 (byts P[0].l)) := by
              have := HQ.out.each P[0] (List.getElem_mem hpl)
              rwa [hev] at this
            have HC8 : Hid (∀ w', Below wq.heap.size wq w' → w'.cell? ⟨b, o, none⟩ = some (.slice ea P[0].l.length ec)) := fun w' hb => by
              obtain ⟨b', o', ea', ec', h1, h2, h3, h4, h5, h6⟩ := (HQ.out.later hb).head hpl
              rw [Nat.add_zero] at h5
              cases h1
              rw [hev] at h4
              injection h4 with h8 h9 h10
              rw [h8, h10]; exact h5
            generalize stepS m s2 P[0].l = sc at *
            obtain ⟨s3, cd⟩ := sc
            simp only at hcode hallx hstl HPU
            generalize hplv : P[0].l = pl at *
            have HCD := Lib.hid hcode
            have HAX := Lib.hid hallx
            have HSTL : Hid ((framesB s3.all).length ≤ 6000) := by rw [Hid]; omega
            clear hr hev hxl hq2 hcode hallx hstl hplv hB68 HL6 HRC6
            go_wp2_with fail
            refine HPU.out.mono ?_
            rintro e w9 ⟨L9, S9, rfl, hl9, hc9, hs9⟩
            have HL9 := Lib.hid hl9
            have HRC9 := Lib.hid (HRC8.out.frame hc9)
            clear hl9 hc9 hs9 HPU HRC8 HL8
            by_cases hcd : cd = 0
            · subst hcd
              rw [if_pos (HCD.out.1 rfl)] at HAX
              have hsum9 : sumD L9.D.files ≤ 6000 := by
                have h1 : sumD L9.D.files = sumD (segD 100000 s3).files := HL9.out.rel.rel.sum
                have h2 : sumD (segD 100000 s3).files = (framesB s3.all).length := seg_sum s3
                have := HSTL.out
                omega
              have hlk := look_any (.pointer (some ⟨bx, 0, none⟩)) L9.D _ w9 HL9.out.log.dsk (tab_below HTQ.out HL9.out.bel) (by have := HL9.out.bnd.d.len; omega) (by omega) (fun g hg => by have := HL9.out.bnd.d.nm g hg; unfold maxLen; omega)
              have hne3 : ∀ r ∈ s3.all, r ≠ [] := fun r hr => by
                rw [HAX.out] at hr
                rcases List.mem_append.1 hr with h | h
                · exact HSNE.out r h
                · rw [List.mem_singleton.1 h]
                  exact (of_decide_eq_true (HCD.out.1 rfl)).1
              have hfs := find_seg HL9.out.rel.rel HL9.out.good hne3
              have HFS := Lib.hid hfs
              have HLK := Lib.hid hlk
              have HB9 := Lib.hid HL9.out.bel
              clear hsum9 hlk hne3 hfs HL9
              generalize findS L9.D = f9 at *
              go_wp2_with fail
              refine HLK.out.mono ?_
              rintro e w10 ⟨hb10, ⟨h1, -⟩ | ⟨h1, ra9, rc9, X9, rfl, hrow9, hx9, hre9⟩⟩
              · exact absurd HFS.out.1 h1
              have HB10 := Lib.hid (HB9.out.trans (hb10.mono HB9.out.size))
              have HG9 : Hid (SLs w10 (.slice ra9 X9.length rc9) (X9.map slOf)) := by have := sls_rx hrow9 hx9; rwa [Hid]
              have HG5' : Hid (SLs w10 (.slice ra2 X5.length rc2) (X5.map slOf)) := by have := (HRC9.out.later hb10).sls; rwa [List.length_map] at this
              have HE9 : Hid ((X9.map slOf).map SL.l = (X5.map slOf ++ [(⟨.slice ea pl.length ec, pl⟩ : SL)]).map SL.l) := by
                rw [Hid, List.map_map, List.map_append, List.map_map]
                show X9.map RX.l = X5.map RX.l ++ [pl]
                rw [hre9, HFS.out.2, HAX.out, HXA.out]
              have HN9 : Hid ((X9.map slOf).length ≤ 1000000000) := by
                have h2 := congrArg List.length HE9.out
                have h3 := HX5N.out
                simp only [List.length_map, List.length_append, List.length_cons, List.length_nil] at h2
                rw [Hid, List.length_map]; omega
              have HAL10 : Hid (∀ w', Hid (Below w10.heap.size w10 w') → Calls Tryz.prog 25 #[] w' fun e w'' => e = .returned (.bool true) ∧ Below w'.heap.size w' w'') := fun w' hb => HAL.out w' (HB10.out.trans (hb.out.mono HB10.out.size))
              have HX5R : Hid (∀ u ∈ X5.map RX.v, u.oneCell' = true) := rx_one (B := 0) (W := w10) (fun x hx => ((HRC9.out.later hb10).each x hx).mono (fun k _ => Nat.zero_le k))
              have HCLN : Hid (∀ w', Hid (Below w10.heap.size w10 w') → Calls Tryz.prog 43 #[.slice ra2 X5.length rc2] w' fun e w'' => ∃ v', e = .returned v' ∧ Row w'' 72 1 v' X5.length (X5.map RX.v) (fun k => w'.heap.size ≤ k) ∧ Below w'.heap.size w' w'') := fun w' hb =>
                lclone_any _ _ _ _ w' ((HRC9.out.later hb10).row.reads.later hb.out) HX5R.out (by have := HX5N.out; omega)
              have HKC : Hid (∀ w', Hid (Below w10.heap.size w10 w') → w'.cell? ⟨b, o, none⟩ = some (.slice ea pl.length ec)) := fun w' hb => HC8.out w' (HB10.out.trans (hb.out.mono HB10.out.size))
              have HMX : Hid (X5.length + 1 ≤ maxLen ∧ (X5.length + 1) * 24 ≤ 140737488355328) := by have := HX5N.out; unfold maxLen; rw [Hid]; omega
              have HB00' : Hid (Below w10.heap.size w10 w10.drew) := (Below.refl _ _).drew
              have hi0 : (0 : Int) < (P.length : Int) := by omega
              clear hb10 h1 hrow9 hx9 hre9 HRC9 HC8 HLK HFS HAX HCD HSTL hc
              go_upto_region 30 with fail
              go_region_held3 (fun w' => w'.cell? ⟨b, o, none⟩ = some (.slice ea pl.length ec)) (exact HKC.out _ (by assumption))
                (first
                | (go_at_call 25; refine (HAL10.out _ (by assumption)).mono ?_; rintro e wa1 ⟨rfl, hba⟩
                   have HBa := belh_step (w0 := w10) (by assumption) hba
                   have HBal : Hid (Below w10.heap.size w10 (wa1.alloc (.cells #[.slice ea pl.length ec] 72))) := HBa.out.alloc HBa.out.size _
                   clear hba)
                | (go_at_call 43; refine (HCLN.out _ (by assumption)).mono ?_; rintro e wc1 ⟨vq, rfl, hrq, hbq⟩
                   have HBc := belh_step (w0 := w10) (by assumption) hbq
                   have HBcl : Hid (Below w10.heap.size w10 (wc1.alloc (.cells #[.slice ea pl.length ec] 72))) := HBc.out.alloc HBc.out.size _
                   have hszc : w10.heap.size ≤ wc1.heap.size := HBc.out.size
                   have hsza : w10.heap.size ≤ wa1.heap.size := HBa.out.size
                   have HRQ : Hid (Row wc1 72 1 vq X5.length (X5.map RX.v) (fun k => w10.heap.size ≤ k)) := hrq.mono (fun k hk => by have hk' := hk; (try simp only [World.size_alloc] at hk'); omega)
                   have HRQa : Hid (Row (wc1.alloc (.cells #[.slice ea pl.length ec] 72)) 72 1 vq X5.length (X5.map RX.v) (fun k => w10.heap.size ≤ k)) := HRQ.out.frame (fun k _ hk => Below.heap_alloc wc1 _ _ hk)
                   first
                   | (have HY : Hid (Reads wc1 (.slice (some ⟨wa1.heap.size, 0, none⟩) 1 1) 1 1 [.slice ea pl.length ec]) := (reads_one wa1 _ _).later hbq)
                   | skip
                   clear hrq hbq)
                | (first
                   | (refine step_rowW elemRec (by rfl) rfl (S := fun k => w10.heap.size ≤ k) (v := vq) (n := X5.length) (xs := X5.map RX.v) rfl HRQa.out (y := .slice (some ⟨wc1.heap.size, 0, none⟩) 1 1) (m := 1) (news := [.slice ea pl.length ec]) rfl (reads_one wc1 _ _) (one_of rfl) HMX.out.1 HMX.out.2 ?_; intro v11 w11 hr11 hc11
                      have HB11 : Hid (Below w10.heap.size w10 w11) := HBcl.out.trans (hc11.toBelow (B := w10.heap.size) HBcl.out.size (fun k hk h => by omega)))
                   | (refine step_rowW elemRec (by rfl) rfl (S := fun k => w10.heap.size ≤ k) (v := vq) (n := X5.length) (xs := X5.map RX.v) rfl HRQ.out (y := .slice (some ⟨wa1.heap.size, 0, none⟩) 1 1) (m := 1) (news := [.slice ea pl.length ec]) rfl HY.out (one_of rfl) HMX.out.1 HMX.out.2 ?_; intro v11 w11 hr11 hc11
                      have HB11 : Hid (Below w10.heap.size w10 w11) := HBc.out.trans (hc11.toBelow (B := w10.heap.size) HBc.out.size (fun k hk h => by omega)));
                   have HSM : Hid (Calls Tryz.prog 21 #[.slice ra9 X9.length rc9, v11] w11 fun e w'' => e = .returned (.bool true) ∧ Below w11.heap.size w11 w'') := rsameL_any _ _ (X9.map slOf) (X5.map slOf ++ [(⟨.slice ea pl.length ec, pl⟩ : SL)]) w11 (HG9.out.later HB11.out) ⟨by
                     rw [List.length_append, List.length_map, List.map_append, List.map_map]
                     exact hr11.reads, fun x hx => by
                     rcases List.mem_append.1 hx with hx | hx
                     · exact (HG5'.out.later HB11.out).each x hx
                     · rw [List.mem_singleton.1 hx]
                       exact HEV.out.later (HB10.out.trans (HB11.out.mono HB10.out.size))⟩ HE9.out HN9.out
                   clear hr11 hc11)
                | (go_at_call 21; refine HSM.out.mono ?_; rintro e w12 ⟨rfl, hb12⟩
                   have HB12 := belh_step (w0 := w10) HB11 hb12
                   clear hb12))
              all_goals
                go_wp2
                go_ret
                exact ⟨rfl, HB0.out.trans ((HB10.out.trans (HB12.out.mono HB10.out.size)).mono HB0.out.size)⟩
            · have hcb : (cd == 0) = false := by simpa using hcd
              have hcb2 : (cd != 0) = true := by simpa using hcd
              have HB9 := Lib.hid HL9.out.bel
              clear hcd HCD HAX hc
              go_wp2_with fail
              refine (HAL.out w9 HB9.out).mono ?_
              rintro e w10 ⟨rfl, hb10⟩
              have HB10 := Lib.hid (HB0.out.trans ((HB9.out.trans (hb10.mono HB9.out.size)).mono HB0.out.size))
              clear hb10
              go_wp2
              go_ret
              exact ⟨rfl, HB10.out⟩
    · have hk31 : 30 < ks.length := by omega
      clear hk30
      go_wp2_with fail
      refine (HAL.out _ (Below.refl _ _)).mono ?_
      rintro e w1 ⟨rfl, hb⟩
      have HB := Lib.hid (HB0.out.trans (hb.mono HB0.out.size))
      clear hb
      go_wp2
      go_ret
      exact ⟨rfl, HB.out⟩
end Go.Proofs.YtgdmdbdljmlkkaaGreatDoor
