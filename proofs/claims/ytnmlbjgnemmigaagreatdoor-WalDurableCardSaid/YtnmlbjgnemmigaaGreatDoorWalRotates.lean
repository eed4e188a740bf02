/- The law WalRotates returns true. -/
import Derived.Test.YtnmlbjgnemmigaaGreatDoorRefSeg
namespace Go.Proofs.YtnmlbjgnemmigaaGreatDoor
set_option linter.unusedVariables false
set_option linter.unusedSimpArgs false
open Go.RowKit

theorem crashF_sum : ∀ (fs : List DF) (ks : List Int), sumD (crashF fs ks) ≤ sumD fs
  | [], ks => by simp [crashF]
  | f :: fs, ks => by
    have ih := crashF_sum fs (ks.drop 1)
    have e : crashF (f :: fs) ks = crashF [f] ks ++ crashF fs (ks.drop 1) := crashF_append [f] fs ks
    have h1 : (cutF f ks[0]?).b.length ≤ f.b.length := by unfold cutF; exact List.length_take_le' ..
    rw [e]
    have e2 : crashF [f] ks = [cutF f ks[0]?] := rfl
    rw [e2]
    simp only [sumD, List.map_append, List.sum_append, List.map_cons, List.map_nil, List.sum_cons, List.sum_nil] at ih ⊢
    omega
theorem crash_sum {D F : DS} (h : Rel D F) {ss : List (List UInt8)} (h1 : ss.Pairwise (· < ·)) (h2 : ∀ x : List UInt8, x ∈ ss ↔ ⟨x.toArray⟩ ∈ D.files.map DF.name) : sumD (crashN D ss [] ss.length).files ≤ sumD F.files := by
  rw [(rel_crash h h1 h2 []).sum]
  exact crashF_sum _ _

/-- The reference's log in a block of its own. -/
structure RefAt (w0 w : World) (bt : Nat) (room most : Int) (s : Seg) (n size wt mo rm : Int) (a : Option Addr) (ln c : Nat) (pl : Int) (dn : Bool) : Prop where
  blk : w.heap[bt]? = some (.cells #[.int .i64 rm, .slice a ln c, .int .i64 pl, .bool dn, .int .i64 mo, .int .i64 n, .int .i64 size, .int .i64 wt] 37 (0, 0))
  eq : ∃ R : List RF, R.length = ln ∧ R.map RF.f = s.files ∧ RLi w (.slice a ln c) R (fun k => w0.heap.size ≤ k ∧ k ≠ bt) ∧ rlog (.slice a ln c) (segL room most s) = .agg #[.int .i64 rm, .slice a ln c, .int .i64 pl, .bool dn, .int .i64 mo, .int .i64 n, .int .i64 size, .int .i64 wt]
  num : n = ((s.i0 + s.pre.length + 1 : Nat) : Int)
theorem refAt_of {w0 w : World} {room most : Int} {s : Seg} {v : Value} {R : List RF} (hf : R.map RF.f = s.files) (hr : RLi w v R (fun k => w0.heap.size ≤ k)) :
    ∃ n size wt mo rm a c pl dn, rlog v (segL room most s) = .agg #[.int .i64 rm, .slice a R.length c, .int .i64 pl, .bool dn, .int .i64 mo, .int .i64 n, .int .i64 size, .int .i64 wt] ∧ v = .slice a R.length c ∧ n = ((s.i0 + s.pre.length + 1 : Nat) : Int) := by
  obtain ⟨a, c, rfl⟩ := slice_form hr.row
  exact ⟨_, _, _, _, _, a, c, _, _, rfl, rfl, rfl⟩

set_option maxRecDepth 100000 in
set_option maxHeartbeats 4000000 in
theorem ref_store {w0 w3 : World} {bt : Nat} {room most : Int} {s : Seg} {n size wt mo rm : Int} {a : Option Addr} {ln c : Nat} {pl : Int} {dn : Bool} {R : List RF} {T : Nat → Prop} {x0 x1 x2 x3 x4 x5 x6 x7 : Value} (hx : w3.heap[bt]? = some (.cells #[x0, x1, x2, x3, x4, x5, x6, x7] 37 (0, 0))) (hl : R.length = ln) (hf : R.map RF.f = s.files)
    (hr : RLi w3 (.slice a ln c) R T) (hT : ∀ k, T k → w0.heap.size ≤ k ∧ k ≠ bt) (hag : rlog (.slice a ln c) (segL room most s) = .agg #[.int .i64 rm, .slice a ln c, .int .i64 pl, .bool dn, .int .i64 mo, .int .i64 n, .int .i64 size, .int .i64 wt]) (hn : n = ((s.i0 + s.pre.length + 1 : Nat) : Int)) (hb : Below w0.heap.size w0 w3) (hbt : w0.heap.size ≤ bt) :
    RefAt w0 ((((((((w3.setCell ⟨bt, 0, none⟩ (.int .i64 rm)).setCell ⟨bt, 1, none⟩ (.slice a ln c)).setCell ⟨bt, 2, none⟩ (.int .i64 pl)).setCell ⟨bt, 3, none⟩ (.bool dn)).setCell ⟨bt, 4, none⟩ (.int .i64 mo)).setCell ⟨bt, 5, none⟩ (.int .i64 n)).setCell ⟨bt, 6, none⟩ (.int .i64 size)).setCell ⟨bt, 7, none⟩ (.int .i64 wt)) bt room most s n size wt mo rm a ln c pl dn ∧ Below w0.heap.size w0 ((((((((w3.setCell ⟨bt, 0, none⟩ (.int .i64 rm)).setCell ⟨bt, 1, none⟩ (.slice a ln c)).setCell ⟨bt, 2, none⟩ (.int .i64 pl)).setCell ⟨bt, 3, none⟩ (.bool dn)).setCell ⟨bt, 4, none⟩ (.int .i64 mo)).setCell ⟨bt, 5, none⟩ (.int .i64 n)).setCell ⟨bt, 6, none⟩ (.int .i64 size)).setCell ⟨bt, 7, none⟩ (.int .i64 wt)) := by
  have hno : ¬ T bt := fun h => (hT bt h).2 rfl
  have H0 : (w3.setCell ⟨bt, 0, none⟩ (.int .i64 rm)).heap[bt]? = some (.cells #[.int .i64 rm, x1, x2, x3, x4, x5, x6, x7] 37 (0, 0)) := heap_store hx 0 (.int .i64 rm)
  have H1 : ((w3.setCell ⟨bt, 0, none⟩ (.int .i64 rm)).setCell ⟨bt, 1, none⟩ (.slice a ln c)).heap[bt]? = some (.cells #[.int .i64 rm, .slice a ln c, x2, x3, x4, x5, x6, x7] 37 (0, 0)) := heap_store H0 1 (.slice a ln c)
  have H2 : (((w3.setCell ⟨bt, 0, none⟩ (.int .i64 rm)).setCell ⟨bt, 1, none⟩ (.slice a ln c)).setCell ⟨bt, 2, none⟩ (.int .i64 pl)).heap[bt]? = some (.cells #[.int .i64 rm, .slice a ln c, .int .i64 pl, x3, x4, x5, x6, x7] 37 (0, 0)) := heap_store H1 2 (.int .i64 pl)
  have H3 : ((((w3.setCell ⟨bt, 0, none⟩ (.int .i64 rm)).setCell ⟨bt, 1, none⟩ (.slice a ln c)).setCell ⟨bt, 2, none⟩ (.int .i64 pl)).setCell ⟨bt, 3, none⟩ (.bool dn)).heap[bt]? = some (.cells #[.int .i64 rm, .slice a ln c, .int .i64 pl, .bool dn, x4, x5, x6, x7] 37 (0, 0)) := heap_store H2 3 (.bool dn)
  have H4 : (((((w3.setCell ⟨bt, 0, none⟩ (.int .i64 rm)).setCell ⟨bt, 1, none⟩ (.slice a ln c)).setCell ⟨bt, 2, none⟩ (.int .i64 pl)).setCell ⟨bt, 3, none⟩ (.bool dn)).setCell ⟨bt, 4, none⟩ (.int .i64 mo)).heap[bt]? = some (.cells #[.int .i64 rm, .slice a ln c, .int .i64 pl, .bool dn, .int .i64 mo, x5, x6, x7] 37 (0, 0)) := heap_store H3 4 (.int .i64 mo)
  have H5 : ((((((w3.setCell ⟨bt, 0, none⟩ (.int .i64 rm)).setCell ⟨bt, 1, none⟩ (.slice a ln c)).setCell ⟨bt, 2, none⟩ (.int .i64 pl)).setCell ⟨bt, 3, none⟩ (.bool dn)).setCell ⟨bt, 4, none⟩ (.int .i64 mo)).setCell ⟨bt, 5, none⟩ (.int .i64 n)).heap[bt]? = some (.cells #[.int .i64 rm, .slice a ln c, .int .i64 pl, .bool dn, .int .i64 mo, .int .i64 n, x6, x7] 37 (0, 0)) := heap_store H4 5 (.int .i64 n)
  have H6 : (((((((w3.setCell ⟨bt, 0, none⟩ (.int .i64 rm)).setCell ⟨bt, 1, none⟩ (.slice a ln c)).setCell ⟨bt, 2, none⟩ (.int .i64 pl)).setCell ⟨bt, 3, none⟩ (.bool dn)).setCell ⟨bt, 4, none⟩ (.int .i64 mo)).setCell ⟨bt, 5, none⟩ (.int .i64 n)).setCell ⟨bt, 6, none⟩ (.int .i64 size)).heap[bt]? = some (.cells #[.int .i64 rm, .slice a ln c, .int .i64 pl, .bool dn, .int .i64 mo, .int .i64 n, .int .i64 size, x7] 37 (0, 0)) := heap_store H5 6 (.int .i64 size)
  have H7 : ((((((((w3.setCell ⟨bt, 0, none⟩ (.int .i64 rm)).setCell ⟨bt, 1, none⟩ (.slice a ln c)).setCell ⟨bt, 2, none⟩ (.int .i64 pl)).setCell ⟨bt, 3, none⟩ (.bool dn)).setCell ⟨bt, 4, none⟩ (.int .i64 mo)).setCell ⟨bt, 5, none⟩ (.int .i64 n)).setCell ⟨bt, 6, none⟩ (.int .i64 size)).setCell ⟨bt, 7, none⟩ (.int .i64 wt)).heap[bt]? = some (.cells #[.int .i64 rm, .slice a ln c, .int .i64 pl, .bool dn, .int .i64 mo, .int .i64 n, .int .i64 size, .int .i64 wt] 37 (0, 0)) := heap_store H6 7 (.int .i64 wt)
  have HR := ((((((((hr).store (p := ⟨bt, 0, none⟩) hno (.int .i64 rm)).store (p := ⟨bt, 1, none⟩) hno (.slice a ln c)).store (p := ⟨bt, 2, none⟩) hno (.int .i64 pl)).store (p := ⟨bt, 3, none⟩) hno (.bool dn)).store (p := ⟨bt, 4, none⟩) hno (.int .i64 mo)).store (p := ⟨bt, 5, none⟩) hno (.int .i64 n)).store (p := ⟨bt, 6, none⟩) hno (.int .i64 size)).store (p := ⟨bt, 7, none⟩) hno (.int .i64 wt)
  have HB := ((((((((hb).setCell (p := ⟨bt, 0, none⟩) hbt (.int .i64 rm)).setCell (p := ⟨bt, 1, none⟩) hbt (.slice a ln c)).setCell (p := ⟨bt, 2, none⟩) hbt (.int .i64 pl)).setCell (p := ⟨bt, 3, none⟩) hbt (.bool dn)).setCell (p := ⟨bt, 4, none⟩) hbt (.int .i64 mo)).setCell (p := ⟨bt, 5, none⟩) hbt (.int .i64 n)).setCell (p := ⟨bt, 6, none⟩) hbt (.int .i64 size)).setCell (p := ⟨bt, 7, none⟩) hbt (.int .i64 wt)
  exact ⟨⟨H7, ⟨R, hl, hf, HR.mono hT, hag⟩, hn⟩, HB⟩

set_option maxRecDepth 100000 in
set_option maxHeartbeats 8000000 in
theorem walRotates_any (m : Nat) (hm : m < 256) (a : Option Addr) (c : Nat) (P : List SL) (w : World) (h : SLs w (.slice a P.length c) P) (hl : P.length ≤ 5864062014805) (he : ∀ x ∈ P, x.l.length ≤ 9223372036854775807) (ht : Tab w) :
    Calls Tryz.prog 4 #[.int .u8 m, .slice a P.length c] w fun e w' => e = .returned (.bool true) ∧ Below w.heap.size w w' := by
  have H := Lib.hid h
  have HT := Lib.hid ht
  have HFE := Lib.hid (rfewL_any _ P w h hl he)
  clear h ht he
  go_enter Tryz.func4, Tryz.ntmps4
  go_wp2_with fail
  refine HFE.out.mono ?_
  rintro e w1 ⟨⟨b, rfl, hb⟩, hw1⟩
  obtain rfl := hw1.symm
  clear hw1 HFE
  cases b with
  | false =>
    clear hb
    go_wp2_with fail
    refine (alive_any w HT.out).mono ?_
    rintro e w1 ⟨rfl, hb⟩
    have HB := Lib.hid hb
    clear hb
    go_wp2
    go_ret
    exact ⟨rfl, HB.out⟩
  | true =>
    obtain ⟨hP60, hsum⟩ := hb rfl
    clear hb hl
    have HRUN := Lib.hid (runI_take (m : Int) P (by omega) (by omega))
    go_wp2_with fail
    refine (live8_start 100000 m w (by omega)).mono ?_
    rintro e w1 ⟨bx, bl, L0, S0, rfl, hl0⟩
    have HL0 := Lib.hid hl0
    clear hl0
    go_wp2_with fail
    go_loopw [35] (fun i w' => ∃ (k : Nat) (L : LS) (S : Nat → Prop), k ≤ P.length ∧ i = .int .i64 k ∧ Hid (Live8 w w' bl bx L 100000 m (runS m seg0 ((P.take k).map SL.l)) k S)) (fun i _ => P.length - (RowKit.intOf i).toNat)
    case atStart => exact ⟨0, L0, S0, by omega, rfl, HL0⟩
    case round =>
      obtain ⟨k, L, S, hk, rfl, HL⟩ := hrel
      by_cases hlt : k < P.length
      · obtain ⟨b, o, ea, ec, rfl, hle, hbl, -, hc, hr⟩ := (H.out.later HL.out.bel).head hlt
        have hxl := sumL_at hlt
        have HI := Lib.hid (HRUN.out k hk)
        have hi0 := HI.out.i0
        have hipre := HI.out.pre
        have hilen := HI.out.len
        have hsk := sumL_le P k
        have HST := Lib.hid (runS_take hlt (m : Int) seg0)
        have HPU := Lib.hid (HL.out.put HT.out (by omega) (by omega) ea ec P[k].l hr (by omega) (by omega) (by omega))
        rw [← HST.out] at HPU
        generalize P[k].l = pl at *
        clear hr hi0 hipre hilen hsk
        go_wp2_with fail
        refine HPU.out.mono ?_
        rintro e w2 ⟨L2, S2, rfl, hl2, -, -⟩
        have HL2 := Lib.hid hl2
        clear hl2 HPU HL
        go_wp2
        go_roundw
        case rel => exact ⟨k + 1, L2, S2, by omega, by go_num, HL2⟩
        case measure => simp [RowKit.intOf]; omega
      · obtain rfl : k = P.length := by omega
        rw [List.take_length] at HL
        have HI := Lib.hid (HRUN.out P.length (Nat.le_refl _))
        rw [List.take_length] at HI
        clear hlt hk HL0
        go_wp2_with fail
        have HN := Lib.hid (rnewL_any 100000 m wr)
        rw [show max (100000 : Int) 0 = 100000 from rfl] at HN
        refine HN.out.mono ?_
        rintro e w2 ⟨v, R, rfl, hf, hr2, hb2⟩
        have HL2 := Lib.hid (HL.out.later hb2)
        have hs2 := HL.out.bel.size
        obtain ⟨n1, z1, t1, o1, rm1, a1, c1, pl1, dn1, hag, rfl, hn1⟩ := refAt_of (w0 := wr) (room := 100000) (most := m) hf hr2
        rw [hag]
        have HF2 := Lib.hid hf
        have HR2 := Lib.hid hr2
        have HAG := Lib.hid hag
        have HN1 := Lib.hid hn1
        have HBW := Lib.hid hb2
        have hsb := hb2.size
        clear hf hr2 hag hn1 hb2 HN HL2
        go_upto_region 12 with fail
        have HX3 : Hid ((w2.alloc (.cells #[.int .i64 rm1, .slice a1 R.length c1, .int .i64 pl1, .bool dn1, .int .i64 o1, .int .i64 n1, .int .i64 z1, .int .i64 t1] 37)).heap[w2.heap.size]? = some (.cells #[.int .i64 rm1, .slice a1 R.length c1, .int .i64 pl1, .bool dn1, .int .i64 o1, .int .i64 n1, .int .i64 z1, .int .i64 t1] 37 (0, 0))) := heap_alloc_new _ _
        have HRA3 : Hid (RefAt wr (w2.alloc (.cells #[.int .i64 rm1, .slice a1 R.length c1, .int .i64 pl1, .bool dn1, .int .i64 o1, .int .i64 n1, .int .i64 z1, .int .i64 t1] 37)) w2.heap.size 100000 m seg0 n1 z1 t1 o1 rm1 a1 R.length c1 pl1 dn1) := ⟨HX3.out, ⟨R, rfl, HF2.out, (HR2.out.tight.below ((Below.refl _ _).alloc (Nat.le_refl _) _)).mono (fun k hk => ⟨hk.1, by have := hk.2; omega⟩), HAG.out⟩, HN1.out⟩
        have HB3 : Hid (Below wr.heap.size wr (w2.alloc (.cells #[.int .i64 rm1, .slice a1 R.length c1, .int .i64 pl1, .bool dn1, .int .i64 o1, .int .i64 n1, .int .i64 z1, .int .i64 t1] 37))) := HBW.out.alloc hsb _
        generalize w2.alloc (.cells #[.int .i64 rm1, .slice a1 R.length c1, .int .i64 pl1, .bool dn1, .int .i64 o1, .int .i64 n1, .int .i64 z1, .int .i64 t1] 37) = w3 at *
        have HBT : Hid (wr.heap.size ≤ w2.heap.size) := hsb
        generalize w2.heap.size = bt at *
        clear HX3 HF2 HR2 HAG HN1 HBW
        obtain ⟨wl, hwl⟩ : ∃ wl : World, wl = wr := ⟨_, rfl⟩
        subst hwl
        go_wp2_with fail
        go_loopw [48] (fun i w' => ∃ (k : Nat) (n size wt mo rm : Int) (a : Option Addr) (ln c : Nat) (pl : Int) (dn : Bool), k ≤ P.length ∧ i = .int .i64 k ∧ Hid (RefAt wl w' bt 100000 m (runS m seg0 ((P.take k).map SL.l)) n size wt mo rm a ln c pl dn) ∧ Hid (Below wl.heap.size wl w')) (fun i _ => P.length - (RowKit.intOf i).toNat)
        case atStart => exact ⟨0, _, _, _, _, _, _, _, _, _, _, by omega, rfl, HRA3, HB3⟩
        case round =>
          obtain ⟨k, n2, z2, t2, o2, rm2, a2, ln2, c2, pl2, dn2, hk, rfl, HRA, HBA⟩ := hrel
          have HBWA := Lib.hid (HL.out.bel.trans (HBA.out.mono HL.out.bel.size))
          by_cases hlt : k < P.length
          · obtain ⟨b, o, ea, ec, rfl, hle, hbl, -, hc, hr⟩ := (H.out.later HBWA.out).head hlt
            have hxl := sumL_at hlt
            have HIK := Lib.hid (HRUN.out k hk)
            have hilen := HIK.out.len
            have hsk := sumL_le P k
            have HST := Lib.hid (runS_take hlt (m : Int) seg0)
            obtain ⟨R3, hRl, hRf, hRr, heq⟩ := HRA.out.eq
            have hpu := rput_seg (room := 100000) HIK.out (by omega) (by omega) (.slice a2 ln2 c2) R3 _ ea ec P[k].l wr hRr hRf hr (by omega) (by omega)
            rw [heq] at hpu
            have HPU := Lib.hid hpu
            obtain ⟨x0, x1, x2, x3, x4, x5, x6, x7⟩ := cells8w HRA.out.blk
            generalize P[k].l = pl at *
            clear hr hilen hsk hpu hRl hRf hRr heq
            go_wp2_with fail
            refine HPU.out.mono ?_
            rintro e w4 ⟨v', R4, rfl, hf4, hr4, hb4⟩
            obtain ⟨n4, z4, t4, o4, rm4, a4, c4, pl4, dn4, hag4, rfl, hn4⟩ := refAt_of (w0 := wl) (room := 100000) (most := m) (s := (stepS m (runS m seg0 ((P.take k).map SL.l)) pl).1) hf4 (hr4.mono (fun x hx => by have := HBA.out.size; rcases hx with h | h; exact h.1; omega))
            rw [hag4]
            have HX4 := Lib.hid ((hb4.block _ (lt_of_heap HRA.out.blk)).trans HRA.out.blk)
            have hbtl := lt_of_heap HRA.out.blk
            have hws := HBA.out.size
            have HRS := Lib.hid (ref_store HX4.out rfl hf4 hr4 (fun x hx => by rcases hx with h | h; exact h; exact ⟨by omega, by omega⟩) hag4 hn4 (HBA.out.trans (hb4.mono HBA.out.size)) HBT.out)
            rw [← HST.out] at HRS
            clear hf4 hr4 hb4 hag4 hn4 HPU HBA HBWA hbtl hws HRA x0 x1 x2 x3 x4 x5 x6 x7
            generalize (stepS m (runS m seg0 ((P.take k).map SL.l)) pl).2 = code at *
            obtain ⟨x0, x1, x2, x3, x4, x5, x6, x7⟩ := cells8w HX4.out
            have q0 := freeAt HX4.out 0
            have q1 := freeAt HX4.out 1
            have q2 := freeAt HX4.out 2
            have q3 := freeAt HX4.out 3
            have q4 := freeAt HX4.out 4
            have q5 := freeAt HX4.out 5
            have q6 := freeAt HX4.out 6
            have q7 := freeAt HX4.out 7
            go_upto_region 16 with fail
            generalize ((((((((w4.setCell ⟨bt, 0, none⟩ (.int .i64 rm4)).setCell ⟨bt, 1, none⟩ (.slice a4 R4.length c4)).setCell ⟨bt, 2, none⟩ (.int .i64 pl4)).setCell ⟨bt, 3, none⟩ (.bool dn4)).setCell ⟨bt, 4, none⟩ (.int .i64 o4)).setCell ⟨bt, 5, none⟩ (.int .i64 n4)).setCell ⟨bt, 6, none⟩ (.int .i64 z4)).setCell ⟨bt, 7, none⟩ (.int .i64 t4)) = w5 at *
            have HRA5 := Lib.hid HRS.out.1
            have HB5 := Lib.hid HRS.out.2
            clear HRS HX4 x0 x1 x2 x3 x4 x5 x6 x7 q0 q1 q2 q3 q4 q5 q6 q7
            go_wp2
            go_roundw
            case rel => exact ⟨k + 1, _, _, _, _, _, _, _, _, _, _, by omega, by go_num, HRA5, HB5⟩
            case measure => simp [RowKit.intOf]; omega
          · obtain rfl : k = P.length := by omega
            rw [List.take_length] at HRA
            have HLr := Lib.hid (HL.out.later HBA.out)
            generalize runS m seg0 (P.map SL.l) = s at *
            obtain ⟨hg, hi0, hpr, hgl⟩ := HI.out
            have hrel := HLr.out.rel.rel
            have hfl := HLr.out.bnd.d.len
            have hnm : ∀ f ∈ L.D.files, f.name.size ≤ maxLen := fun f hf => by have := HLr.out.bnd.d.nm f hf; unfold maxLen; omega
            have hsm : sumD L.D.files = (framesB s.all).length := by rw [hrel.sum]; exact seg_sum s
            have hsg : refL (L.D.files.map DF.name) = upto 0 (s.pre.length + 1) := by have := rel_segs hrel (by omega); rwa [hi0] at this
            have hrc : recsD L.D = s.all := rel_recs hrel hg
            have hfit := fun n => rel_fit hrel hg (by omega) n
            have hwt : s.wt ≤ s.all.length := by have := hg.wt; unfold Seg.all; rw [List.length_append]; omega
            have hLn : L.n = ((s.pre.length + 1 : Nat) : Int) := by rw [HLr.out.rel.n]; show ((s.i0 + s.pre.length + 1 : Nat) : Int) = _; rw [hi0, Nat.zero_add]
            have hLw : L.waiting = (s.wt : Int) := HLr.out.rel.waiting
            have hn2 : n2 = ((s.pre.length + 1 : Nat) : Int) := by rw [HRA.out.num, hi0, Nat.zero_add]
            have hcut := fun (ss : List (List UInt8)) (h1 : ss.Pairwise (· < ·)) (h2 : ∀ x : List UInt8, x ∈ ss ↔ ⟨x.toArray⟩ ∈ L.D.files.map DF.name) => rel_cut hrel hg h1 h2 []
            have hcsum := fun (ss : List (List UInt8)) (h1 : ss.Pairwise (· < ·)) (h2 : ∀ x : List UInt8, x ∈ ss ↔ ⟨x.toArray⟩ ∈ L.D.files.map DF.name) => crash_sum hrel h1 h2
            have hcb := fun (ss : List (List UInt8)) => bnd_crash HLr.out.bnd.d ss [] ss.length
            have HFIT := Lib.hid hfit
            have HCUT := Lib.hid hcut
            have HCS := Lib.hid hcsum
            have HCB := Lib.hid hcb
            have HNM := Lib.hid hnm
            have HRC := Lib.hid hrc
            have HLW := Lib.hid hLw
            subst hn2
            have HLN := Lib.hid hLn
            have HLI := Lib.hid (list_any _ L.D _ wr HLr.out.log.dsk (by omega) hnm)
            have hBW := HLr.out.bel
            have HBW := Lib.hid hBW
            obtain ⟨np, hnp⟩ : ∃ np, np = s.pre.length + 1 := ⟨_, rfl⟩
            rw [← hnp] at hsg HRA HLN
            have hnp1 : np ≤ 61 := by omega
            obtain ⟨x0, x1, x2, x3, x4, x5, x6, x7⟩ := cells8w HRA.out.blk
            have hbtl := lt_of_heap HRA.out.blk
            have HBLK := Lib.hid HRA.out.blk
            clear hrel hfit hcut hcsum hcb hnm hrc hLw hLn hBW HRA HL HBA hg HRUN hlt hk hnp
            go_wp2_with fail
            refine HLI.out.mono ?_
            rintro e w2 ⟨v2, ss, rfl, hrow, hb2, hpw, hmem⟩
            have hsl := mkS_len hpw hmem
            rw [List.length_map] at hsl
            have hrl : refL (mkS ss) = refL (L.D.files.map DF.name) := refL_same (mkS_mem hmem)
            have hseg := seglist_any v2 (mkS ss) w2 (by rw [mkS_V, List.length_map]; exact hrow.reads) (by rw [List.length_map]; omega)
            rw [hrl, hsg] at hseg
            have HSG := Lib.hid hseg
            have HB2 := Lib.hid hb2
            clear hrow hb2 hpw hmem hrl hseg hsl HLI hsg
            go_wp2_with fail
            refine HSG.out.mono ?_
            rintro e w3 ⟨v3, rfl, hr3, hb3⟩
            rw [upto_length] at hr3
            obtain ⟨-, va, vc, hv3, -⟩ := id hr3
            subst hv3
            have HR3 := Lib.hid hr3
            have HB3 := Lib.hid (HB2.out.trans (hb3.mono HB2.out.size))
            have HX3 := Lib.hid ((HB3.out.block _ hbtl).trans HBLK.out)
            have HL3 := Lib.hid (HLr.out.later HB3.out)
            clear hr3 hb3 HSG HB2 HBLK x0 x1 x2 x3 x4 x5 x6 x7 HLr
            obtain ⟨x0, x1, x2, x3, x4, x5, x6, x7⟩ := cells8w HX3.out
            have HSEG : Hid (∀ w', Hid (Below w3.heap.size w3 w') → Calls Tryz.prog 19 #[.pointer (some ⟨bl, 0, none⟩)] w' fun e w'' => e = .returned (.int .i64 np) ∧ w'' = w') := fun w' hb => by
              have := lsegment_any L bl _ S w' (HL3.out.later hb.out).log
              rw [HLN.out] at this
              exact this
            have HK5 : Hid (∀ w', Hid (Below w3.heap.size w3 w') → w'.cell? ⟨bt, 5, none⟩ = some (.int .i64 np)) := fun w' hb => cellAt ((hb.out.block _ (lt_of_heap HX3.out)).trans HX3.out) 5 rfl
            have HBD : Hid (Below w3.heap.size w3 w3.drew) := (Below.refl _ _).drew
            go_upto_region 18 with fail
            go_region_held3 (fun w' => w'.cell? ⟨bt, 5, none⟩ = some (.int .i64 np)) (exact HK5.out _ (by assumption))
              (first | (go_at_call 19; refine (HSEG.out _ (by assumption)).mono ?_; rintro e w4 ⟨rfl, rfl⟩))
            obtain ⟨wd, hwd⟩ : ∃ wd, wd = w3.drew := ⟨_, rfl⟩
            rw [← hwd] at HBD ⊢
            have HL4 := Lib.hid (HL3.out.later HBD.out)
            have HBW4 := Lib.hid (HBW.out.trans ((HB3.out.trans (HBD.out.mono HB3.out.size)).mono HBW.out.size))
            have HR4 := Lib.hid (HR3.out.later HBD.out)
            have hwd3 := HBD.out.size
            clear HK5 HSEG HL3 HX3 hwd HR3 x0 x1 x2 x3 x4 x5 x6 x7
            have HRE := Lib.hid (records_any _ L.D _ wd HL4.out.log.dsk (tab_below HT.out HBW4.out) (by omega) (by omega) HNM.out)
            go_wp2_with fail
            refine HRE.out.mono ?_
            rintro e w5 ⟨v5, X, rfl, hrow5, hx5, he5, -, hb5⟩
            rw [HRC.out] at he5
            have hXl : X.length = s.all.length := by have := congrArg List.length he5; rwa [List.length_map] at this
            obtain ⟨kk, hkk⟩ : ∃ kk, kk + s.wt = X.length := ⟨X.length - s.wt, by omega⟩
            have hX1 : X.length ≤ 1000000 := by have := framesB_len8 s.all; omega
            have HE5 := Lib.hid he5
            have HROW5 := Lib.hid hrow5
            have HX5 := Lib.hid hx5
            have HKK := Lib.hid hkk
            have HXL := Lib.hid hXl
            have hs4 := HL4.out.sub
            have HSUB := Lib.hid hs4
            have HB5 := Lib.hid (HBW4.out.trans (hb5.mono HBW4.out.size))
            have HL5 := Lib.hid (HL4.out.later hb5)
            have HR5 := Lib.hid (HR4.out.later hb5)
            have hwd5 := hb5.size
            obtain ⟨-, xa, xc, hv5, -⟩ := hrow5.reads
            subst hv5
            clear hrow5 hx5 he5 hb5 HRE HR4 hs4 HL4 hXl
            go_wp2_with fail
            go_loopw [78] (fun i w' => ∃ k : Nat, k ≤ np ∧ i = .int .i64 k ∧ Hid (Below w5.heap.size w5 w')) (fun i _ => np - (RowKit.intOf i).toNat)
            case atStart => exact ⟨0, by omega, rfl, Below.refl _ _⟩
            case round =>
              obtain ⟨k, hk, rfl, HBL⟩ := hrel
              by_cases hlt : k < np
              · obtain ⟨b, o, c', hv, hle, hbl, hc⟩ := (HR5.out.later HBL.out).at (by omega)
                obtain ⟨rfl, rfl⟩ : va = some ⟨b, o, none⟩ ∧ vc = c' := by cases hv; exact ⟨rfl, rfl⟩
                have hck : wr.cell? ⟨b, o + k, none⟩ = some (.int .i64 ((0 + k + 1 : Nat) : Int)) := hc k _ (by simp [upto, hlt])
                generalize ((0 + k + 1 : Nat) : Int) = nn at *
                have HBWL := Lib.hid (HB5.out.trans (HBL.out.mono HB5.out.size))
                clear hv hc
                go_wp2_with fail
                refine (segName_any nn wr (tab_below HT.out HBWL.out)).mono ?_
                rintro e w6 ⟨rfl, hb6⟩
                have HB6 := Lib.hid (HBL.out.trans (hb6.mono HBL.out.size))
                have HL6 := Lib.hid (HL5.out.later HB6.out)
                have hft := HFIT.out (nameI nn)
                have hln := readD_len L.D (nameI nn)
                have HRD := Lib.hid (read_any _ (nameI nn) L.D _ w6 HL6.out.log.dsk (by omega))
                generalize hrd : readD L.D (nameI nn) = rdv at *
                clear hb6 HBL hrd
                go_wp2_with fail
                refine HRD.out.mono ?_
                rintro e w7 ⟨v7, rfl, hr7, hb7⟩
                have HB7 := Lib.hid (HB6.out.trans (hb7.mono HB6.out.size))
                obtain ⟨-, a7, c7, hv7, -⟩ := hr7.reads
                subst hv7
                have hd : decide ((m : Int) < (rdv.1.length : Int)) = false := decide_eq_false (by omega)
                have hd2 : decide (m < rdv.1.length) = false := decide_eq_false (by omega)
                have hd3 : rdv.1.length ≤ m := by omega
                clear hr7 hb7 HRD HL6 HB6
                go_wp2
                go_roundw
                case rel => exact ⟨k + 1, by omega, by go_num, HB7⟩
                case measure => simp [RowKit.intOf]; omega
              · obtain rfl : k = np := by omega
                have HLB := Lib.hid (HL5.out.later HBL.out)
                have HWT : Hid (∀ w', Hid (Below wr.heap.size wr w') → Calls Tryz.prog 22 #[.pointer (some ⟨bl, 0, none⟩)] w' fun e w'' => e = .returned (.int .i64 s.wt) ∧ w'' = w') := fun w' hb => by
                  have := lwaiting_any L bl _ S w' (HLB.out.later hb.out).log
                  rw [HLW.out] at this
                  exact this
                have HB00 : Hid (Below wr.heap.size wr wr) := Below.refl _ _
                go_wp2_with fail
                refine (HWT.out _ HB00).mono ?_
                rintro e w8 ⟨rfl, hw8⟩
                subst hw8
                have hsub : ((X.length : Int) - (s.wt : Int)) = (kk : Int) := by have := HKK.out; omega
                have hcr := crash_any (.pointer (some ⟨bx, 0, none⟩)) none 0 [] L.D _ w8 HLB.out.log.dsk (by omega) HNM.out (Reads.nil _ _) (by simp) (by intro ad h; cases h)
                have HCR := Lib.hid hcr
                have HROW8 := Lib.hid (HROW5.out.frame (fun k _ hk => HBL.out.block k hk))
                have HX8 : Hid (∀ x ∈ X, RdX wd.heap.size x w8) := fun x hx => Row.frame (HX5.out x hx) (fun k _ hk => HBL.out.block k hk)
                clear hcr HWT HB00 HROW5 HX5 HR5 HL5
                go_wp2_with fail
                refine HCR.out.mono ?_
                rintro e w9 ⟨ss9, ⟨hs1, hs2⟩, rfl, hd9, hc9⟩
                have hnS : ∀ k, wd.heap.size ≤ k → ¬ (S k ∧ k ≠ bl) := fun k hk h => by have := (HSUB.out k h.1).2; omega
                have HROW9 := Lib.hid (HROW8.out.frame (fun k hk hk2 => hc9.block k hk2 (hnS k hk)))
                have HX9 : Hid (∀ x ∈ X, RdX wd.heap.size x w9) := fun x hx => Row.frame (HX8.out x hx) (fun k hk hk2 => hc9.block k hk2 (hnS k hk))
                have HBW9 := Lib.hid (HLB.out.bel.trans (hc9.toBelow HLB.out.bel.size (fun k hk h => by have := (HSUB.out k h.1).1; omega)))
                obtain ⟨j, hj1, hj2, hj3, hj4⟩ := HCUT.out ss9 hs1 hs2
                have hjk : j = kk := by rw [hj4 (by first | rfl | trivial)]; have h1 := HXL.out; have h2 := HKK.out; omega
                rw [hjk] at hj1
                have hcs := HCS.out ss9 hs1 hs2
                rw [show (segL 100000 (m : Int) s).D.files = s.files from rfl, seg_sum] at hcs
                have hcb := HCB.out ss9
                obtain ⟨D9, hD9⟩ : ∃ D9, D9 = crashN L.D ss9 [] ss9.length := ⟨_, rfl⟩
                rw [← hD9] at hd9 hj1 hcs hcb
                have HD9 := Lib.hid hd9.tight
                have hnm9 : ∀ f ∈ D9.files, f.name.size ≤ maxLen := fun f hf => by have := hcb.nm f hf; unfold maxLen; omega
                have hln9 := hcb.len
                have HRE9 : Hid (∀ w', Hid (Below w9.heap.size w9 w') → Calls Tryz.prog 13 #[.pointer (some ⟨bx, 0, none⟩)] w' (RecsP w' D9)) := fun w' hb =>
                  records_any _ D9 _ w' (HD9.out.frame (fun k hk _ => hb.out.block k hk.2)) (tab_below HT.out (HBW9.out.trans (hb.out.mono HBW9.out.size))) (by omega) (by omega) hnm9
                have HAL9 : Hid (∀ w', Hid (Below w9.heap.size w9 w') → Calls Tryz.prog 8 #[] w' fun e w'' => e = .returned (.bool true) ∧ Below w'.heap.size w' w'') := fun w' hb =>
                  alive_any w' (tab_below HT.out (HBW9.out.trans (hb.out.mono HBW9.out.size)))
                have hsl9 := sls_rx HROW9.out HX9.out
                have hlx : (X.map slOf).length = X.length := List.length_map _
                rw [← hlx] at hsl9
                have hpre9 : SLs w9 (.slice xa ((X.map slOf).take kk).length xc) ((X.map slOf).take kk) := by
                  have hkk2 := HKK.out
                  have hlk : ((X.map slOf).take kk).length = kk := by rw [List.length_take, hlx]; omega
                  refine ⟨?_, fun x hx => hsl9.each x (List.mem_of_mem_take hx)⟩
                  have := hsl9.rd.takeN kk (by rw [hlx]; omega)
                  rw [Nat.mul_one] at this
                  rw [hlk, List.map_take]
                  exact this
                have hlk : ((X.map slOf).take kk).length = kk := by have := HKK.out; rw [List.length_take, hlx]; omega
                have hmp : ((X.map slOf).take kk).map SL.l = s.all.take kk := by rw [List.map_take, List.map_map, ← HE5.out]; rfl
                rw [hlk] at hpre9
                have HPRE := Lib.hid hpre9
                have HMP := Lib.hid hmp
                have HJ1 := Lib.hid hj1
                have hxcap : X.length ≤ xc := by obtain ⟨_, ao, c', hv, hle, _⟩ := HROW9.out.reads; cases hv; exact hle
                have hk0 : (0 : Int) ≤ (kk : Int) := by omega
                have hk1 : (kk : Int) ≤ (X.length : Int) := by have := HKK.out; omega
                have hk2 : (kk : Int) ≤ (xc : Int) := by omega
                have hk3 : kk ≤ xc := by omega
                have hk4 : kk ≤ 1000000 := by omega
                have HBZ : Hid (Below w9.heap.size w9 w9.drew) := (Below.refl _ _).drew
                clear hs1 hs2 hd9 hc9 hj1 hj2 hj3 hj4 hcs hcb hD9 hnm9 hln9 hsl9 hlx hpre9 hlk hmp hnS HROW8 HX8 HROW9 HX9 HCR HLB HBL
                go_upto_region 31 with fail
                go_region_held3 (fun w' => True) (trivial)
                  (first
                  | (go_at_call 8; refine (HAL9.out _ (by assumption)).mono ?_; rintro e wa ⟨rfl, hba⟩
                     have HBa := belh_step (w0 := w9) (by assumption) hba
                     clear hba)
                  | (go_at_call 13; refine (HRE9.out _ (by assumption)).mono ?_; rintro e wb ⟨vb, Xb, rfl, hrowb, hxb, heb, hlb, hbb⟩
                     have HBb := belh_step (w0 := w9) (by assumption) hbb
                     have HSLb := Lib.hid (sls_rx hrowb hxb)
                     have HEb : Hid ((Xb.map slOf).map SL.l = s.all.take kk) := by rw [Hid, List.map_map, ← HJ1.out, ← heb]; rfl
                     have HLb : Hid ((Xb.map slOf).length ≤ 1000000000) := by rw [Hid, List.length_map]; omega
                     clear hrowb hxb heb hlb hbb)
                  | (go_at_call 14; refine (rsameL_any _ _ _ _ _ HSLb.out (HPRE.out.later (Hid.out (by assumption))) (by rw [HEb.out, HMP.out]) HLb.out).mono ?_; rintro e wc ⟨rfl, hbc⟩
                     have HBc := belh_step (w0 := w9) (by assumption) hbc
                     clear hbc))
                all_goals
                  go_wp2
                  go_ret
                  exact ⟨rfl, HBW9.out.trans (HBc.out.mono HBW9.out.size)⟩
end Go.Proofs.YtnmlbjgnemmigaaGreatDoor
