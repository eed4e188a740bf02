/- WalPut, Live8, Runs -/
import Derived.Test.YtgdmdbdljmlkkaaGreatDoorTz22
import Derived.Test.YtgdmdbdljmlkkaaGreatDoorTz20
import Derived.IntWalk
import Derived.Laws.IdiomStrings
import Derived.Laws.BytesArg
import Derived.BigQuiet
set_option maxRecDepth 100000
set_option linter.unusedVariables false
set_option linter.unusedSimpArgs false
namespace Go.Proofs.YtgdmdbdljmlkkaaGreatDoor
open Go.RowKit
theorem appG_eq (L : LS) (r : List UInt8) (a : DS × Int) (ha : appendD L.D (nameI L.n) (frameB r) = a) : appG opsD L r = if a.2 ≠ 0 then ({ L with D := a.1 }, a.2) else (⟨L.n, L.size + (r.length + 8), L.waiting + 1, L.most, a.1⟩, 0) := by
 subst ha; rfl
set_option maxHeartbeats 4000000 in
theorem put_any (L : LS) (bl : Nat) (d : Value) (S : Nat → Prop) (ra : Option Addr) (rc : Nat) (r : List UInt8) (w : World) (h : LAt w bl d L S) (hS : ∀ k, S k → k < w.heap.size) (hT : ∀ w', Chg S w w' → Tab w') {s n k : Nat} (hb : BndL L s n k) (hs : s ≤ 100000000) (hk : k ≤ 100000000)
   (hr : Reads w (.slice ra r.length rc) r.length 1 (byts r)) (hl : r.length ≤ 10000000) (hmost : -9000000000000000000 ≤ L.most ∧ L.most ≤ 9000000000000000000) :
   Calls Tryz.prog 40 #[.pointer (some ⟨bl, 0, none⟩), .slice ra r.length rc] w (LPost w bl d S (putG opsD L r)) := by
 have HL := Lib.hid h
 have HTB := Lib.hid hT
 have HBN := Lib.hid hb
 have HSL := Lib.hid hS
 have hbl := lt_of_heap h.blk
 obtain ⟨Q, hQ⟩ : ∃ Q, Q = LPost w bl d S (putG opsD L r) := ⟨_, rfl⟩
 have HQD := Lib.hid hQ
 rw [← hQ]
 have hbn0 := hb.n0
 have hbs := hb.size
 have hbw := hb.waiting
 by_cases hr0 : r = []
 · have HQ : Hid (Q (.returned (.int .i64 2)) w) := by
     rw [HQD.out, show putG opsD L r = (L, 2) by unfold putG; rw [if_pos hr0]]
     exact ⟨rfl, HL.out.mono (fun k hk => .inl hk), Chg.refl _ _⟩
   subst hr0
   clear h hT hb hS hQ hr
   simp only [List.length_nil]
   go_enter Tryz.func40, Tryz.ntmps40
   go_wp2
   exact HQ.out
 have HRL := Lib.hid (frameB_length r)
 have hpos : 0 < r.length := List.length_pos_iff.2 hr0
 have hmk := make_any ra rc r w hr (by omega)
 have HPUT : Hid (putG opsD L r = if 1048576 < r.length ∨ L.most < (r.length : Int) + 8 then (L, 4) else if 0 < L.size ∧ L.most < L.size + (r.length + 8) then (if (rotG opsD L).2 ≠ 0 then rotG opsD L else appG opsD (rotG opsD L).1 r) else appG opsD L r) := by
   unfold putG; rw [Hid, if_neg hr0]
 generalize putG opsD L r = PV at HQD HPUT
 have hne : ((r.length : Int) == 0) = false := by simp; omega
 have hne2 : decide (r.length = 0) = false := by simp; omega
 obtain ⟨rl, hrl⟩ : ∃ rl, rl = r.length := ⟨_, rfl⟩
 have HLR := Lib.hid hrl
 rw [← hrl] at hne hne2 hpos hl ⊢
 rw [← hrl] at hmk HPUT HRL
 have HMK := Lib.hid hmk
 clear h hT hb hS hQ hr hmk hrl hr0
 by_cases hbig : 1048576 < rl
 · rw [if_pos hbig] at HMK
   have HQ : Hid (∀ w1, Below w.heap.size w w1 → Q (.returned (.int .i64 4)) w1) := fun w1 hb1 => by
     rw [HQD.out, HPUT.out, if_pos (.inl hbig)]
     exact ⟨rfl, (HL.out.later hb1).mono (fun k hk => .inl hk), Chg.ofBelow hb1⟩
   go_enter Tryz.func40, Tryz.ntmps40
   go_wp2_with fail
   refine HMK.out.mono ?_
   rintro e w1 ⟨rfl, hb1⟩
   have HQ1 := Lib.hid (HQ.out w1 hb1)
   clear hb1 HQ
   go_wp2
   exact HQ1.out
 rw [if_neg hbig] at HMK
 go_enter Tryz.func40, Tryz.ntmps40
 go_wp2_with fail
 refine HMK.out.mono ?_
 rintro e w1 ⟨⟨ab, cb, rfl, hrow⟩, hb1⟩
 rw [HRL.out] at hrow ⊢
 have HROW := Lib.hid hrow
 have HB1 := Lib.hid hb1
 have HL1 := Lib.hid (HL.out.later hb1)
 clear hrow hb1 HMK
 by_cases hlong : L.most < (rl : Int) + 8
 · have HQ : Hid (Q (.returned (.int .i64 4)) w1) := by
     rw [HQD.out, HPUT.out, if_pos (.inr hlong)]
     exact ⟨rfl, HL1.out.mono (fun k hk => .inl hk), Chg.ofBelow HB1.out⟩
   obtain ⟨l0, l1, l2, l3, l4⟩ := cells5w HL1.out.blk
   go_wp2
   exact HQ.out
 rw [if_neg (show ¬ (1048576 < rl ∨ L.most < (rl : Int) + 8) by omega)] at HPUT
 obtain ⟨l0, l1, l2, l3, l4⟩ := cells5w HL1.out.blk
 go_upto_region 8 with fail
 by_cases hrot : 0 < L.size ∧ L.most < L.size + (rl + 8)
 · rw [if_pos hrot] at HPUT
   obtain ⟨hr1, hr2⟩ := hrot
   have hr3 : decide (0 < L.size) = true := decide_eq_true hr1
   go_quiet (fail)
   have HBD : Hid (Below w.heap.size w (w1.drewN nq)) := ⟨HB1.out.os, HB1.out.tape, HB1.out.output, HB1.out.size, HB1.out.block⟩
   have HLD : Hid (LAt (w1.drewN nq) bl d L S) := HL1.out.frame (fun _ _ _ => rfl)
   have HRD : Hid (Row (w1.drewN nq) 5 1 (.slice ab (rl + 8) cb) (rl + 8) (byts (frameB r)) (fun k => w.heap.size ≤ k)) := HROW.out.frame (fun _ _ _ => rfl)
   clear HL1 HROW HB1 l0 l1 l2 l3 l4
   generalize w1.drewN nq = wd at *
   have hsz := HBD.out.size
   have HR := Lib.hid (rotate_any L bl d S wd HLD.out (fun k hk => Nat.lt_of_lt_of_le (HSL.out k hk) hsz) (fun w' hc => HTB.out w' ((Chg.ofBelow HBD.out).trans hc (fun k hk => .inl hk))) HBN.out.d (by omega))
   have HBR := Lib.hid (bnd_rot HBN.out)
   have hmr : (rotG opsD L).1.most = L.most := by unfold rotG; repeat (first | rfl | split)
   obtain ⟨⟨LX, cr⟩, hcr⟩ : ∃ rr, rr = rotG opsD L := ⟨_, rfl⟩
   rw [← hcr] at HR HPUT HBR
   clear hcr hmr
   simp only at HBR
   go_wp2_with fail
   refine HR.out.mono ?_
   rintro e wx ⟨rfl, hlx, hcx⟩
   simp only at hlx ⊢
   have HCX := Lib.hid ((Chg.ofBelow (S := S) HBD.out).trans hcx (fun k hk => .inl hk))
   have HLX := Lib.hid hlx.tight
   have HRX : Hid (Row wx 5 1 (.slice ab (rl + 8) cb) (rl + 8) (byts (frameB r)) (fun k => w.heap.size ≤ k ∧ k < wd.heap.size)) :=
     HRD.out.tight.frame (fun k hk hl => hcx.block k hl (fun e => by have := HSL.out k e; omega))
   have HNX : Hid (∀ k, (w.heap.size ≤ k ∧ k < wd.heap.size) → ¬ ((S k ∨ wd.heap.size ≤ k) ∧ k < wx.heap.size)) := fun k hk e => by
     rcases e.1 with e1 | e1
     · have := HSL.out k e1; omega
     · omega
   have HTX : Hid (∀ k, ((S k ∨ wd.heap.size ≤ k) ∧ k < wx.heap.size) → S k ∨ w.heap.size ≤ k) := fun k hk => by
     rcases hk.1 with e1 | e1
     · exact .inl e1
     · exact .inr (by omega)
   generalize hTT : (fun k => (S k ∨ wd.heap.size ≤ k) ∧ k < wx.heap.size) = TT at HLX
   have HNX2 : Hid (∀ k, (w.heap.size ≤ k ∧ k < wd.heap.size) → ¬ TT k) := by rw [← hTT]; exact HNX.out
   have HTX2 : Hid (∀ k, TT k → S k ∨ w.heap.size ≤ k) := by rw [← hTT]; exact HTX.out
   have HTK : Hid (∀ k, TT k → k < wx.heap.size) := by rw [← hTT]; exact fun k hk => hk.2
   generalize hWW : (fun k => w.heap.size ≤ k ∧ k < wd.heap.size) = WW at HRX
   have HNX3 : Hid (∀ k, WW k → ¬ TT k) := by rw [← hWW]; exact HNX2.out
   clear hlx hcx HR HLD HRD HBD hTT HNX HTX HNX2 hWW
   by_cases hcz : cr = 0
   · subst hcz
     simp only [ne_eq, not_true, if_false] at HPUT
     have HBX := HBR
     have hx1 := HBX.out.size
     have hx2 := HBX.out.waiting
     have hx0 := HBX.out.n0
     have HKA : Hid (∀ w', Hid (Below wx.heap.size wx w') → w'.cell? ⟨bl, 3, none⟩ = some d) := fun w' hb => cellAt ((hb.out.block _ (lt_of_heap HLX.out.blk)).trans HLX.out.blk) 3 rfl
     have HKB : Hid (∀ w', Hid (Chg (fun k => TT k ∧ k ≠ bl) wx w') → w'.cell? ⟨bl, 3, none⟩ = some d) := fun w' hc => cellAt (hc.out.heap HLX.out.blk (fun e => e.2 rfl)) 3 rfl
     have HTAB : Hid (Tab wx) := HTB.out wx HCX.out
     have HN : Hid (∀ w', Hid (Below wx.heap.size wx w') → Calls Tryz.prog 99 #[.pointer (some ⟨bl, 0, none⟩)] w' fun e w2 => e = .returned (.string (nameI LX.n)) ∧ Below wx.heap.size wx w2) := fun w' hb =>
       (pname_any bl 0 LX.n w' (cellAt ((hb.out.block _ (lt_of_heap HLX.out.blk)).trans HLX.out.blk) 0 rfl) (tab_below HTAB.out hb.out)).mono (fun e w2 he => ⟨he.1, hb.out.trans (he.2.mono hb.out.size)⟩)
     have HAP : Hid (∀ w', Hid (Below wx.heap.size wx w') → Calls Tryz.prog 72 #[d, .string (nameI LX.n), .slice ab (rl + 8) cb] w' (DIn wx bl d TT (appendD LX.D (nameI LX.n) (frameB r)))) := fun w' hb => by
       have hd : DRep w' d LX.D (fun k => (TT k ∧ k ≠ bl) ∧ k < wx.heap.size) := HLX.out.dsk.tight.frame (fun k hk _ => hb.out.block k hk.2)
       have hro := (HRX.out.frame (fun k hk hl => hb.out.block k hl))
       have hrd := hro.reads
       have hc := append_any d (nameI LX.n) (frameB r) ab cb LX.D (fun k => (TT k ∧ k ≠ bl) ∧ k < wx.heap.size) w' hd HBX.out.d.plan (by have := HBX.out.d.sum; omega) (by rw [HRL.out]; omega) (by rw [HRL.out]; exact hrd) (fun ad had h0 e => by
         rw [had] at hro
         exact HNX3.out _ (hro.at_block) e.1.1)
       rw [HRL.out] at hc
       refine hc.mono ?_
       rintro e w2 ⟨he, hr, hch⟩
       have hs := hb.out.size
       exact ⟨he, hr.mono (fun k hk => by rcases hk with hk | hk; exact .inl hk.1; exact .inr (by omega)), (Chg.ofBelow hb.out).trans (hch.mono (T := fun k => TT k ∧ k ≠ bl) (fun k hk => hk.1)) (fun k hk => .inl hk)⟩
     obtain ⟨A, hA⟩ : ∃ A, appendD LX.D (nameI LX.n) (frameB r) = A := ⟨_, rfl⟩
     have hae := appG_eq LX r A hA
     rw [hA] at HAP
     rw [hae] at HPUT
     have HBA : Hid (Below wx.heap.size wx wx) := Below.refl _ _
     have HBA2 : Hid (Below wx.heap.size wx wx.drew) := (Below.refl _ _).drew
     have HLRI : Hid ((r.length : Int) = (rl : Int)) := by rw [Hid, ← HLR.out]
     rw [HLRI.out] at HPUT
     clear hA hae HRX HNX3 HTAB
     go_upto_region 12 with fail
     have k0 := HKA.out wx HBA.out
     go_region_held3 (fun w' => w'.cell? ⟨bl, 3, none⟩ = some d) (first | exact HKA.out _ (by assumption) | exact HKB.out _ (by assumption))
       (first
       | (go_at_call 99; refine (HN.out _ (by assumption)).mono ?_; rintro e w2 ⟨rfl, hb2⟩
          have HB2 := Lib.hid hb2
          clear hb2)
       | (go_at_call 72; refine (HAP.out _ (by assumption)).mono ?_; rintro e w3 ⟨rfl, hd3, hc3⟩
          have HD3 := Lib.hid hd3
          have HC3 := Lib.hid hc3
          clear hd3 hc3))
     have HL3 := Lib.hid (HLX.out.disk HD3.out HC3.out)
     have HC4 : Hid (Chg S w w3) := HCX.out.trans (HC3.out) (fun k hk => by rcases HTX2.out k hk.1 with e | e; exact .inl e; exact .inr e)
     obtain ⟨aD, ac⟩ := A
     simp only at *
     clear HD3 HC3 HKA HKB HN HAP k0 HBA HBA2
     have hwx : Hid (w.heap.size ≤ wx.heap.size) := HCX.out.size
     by_cases hac : ac = 0
     · subst hac
       simp only [ne_eq, not_true, if_false] at HPUT
       obtain ⟨m0, m1, m2, m3, m4⟩ := cells5w HL3.out.blk
       have f1 := freeAt HL3.out.blk 1
       have f2 := freeAt HL3.out.blk 2
       simp only at m1 m2
       have HQ : Hid (∀ w5, w5.heap[bl]? = some (.cells #[.int .i64 LX.n, .int .i64 (LX.size + (rl + 8)), .int .i64 (LX.waiting + 1), d, .int .i64 LX.most] 148 (0, 0)) → Chg (fun k => k = bl) w3 w5 → Q (.returned (.int .i64 0)) w5) := fun w5 hb5 hc5 => by
         rw [HQD.out, HPUT.out]
         refine ⟨rfl, (HL3.out.head (L' := ⟨LX.n, LX.size + (rl + 8), LX.waiting + 1, LX.most, aD⟩) rfl hb5 hc5).mono (fun k hk => by have := hwx.out; rcases hk with e | e; exact HTX2.out k e; exact .inr (by omega)), HC4.out.trans hc5 (fun k hk => by have e : k = bl := hk; rw [e]; exact HTX2.out bl HLX.out.own)⟩
       have HB5 := Lib.hid (heap_store (heap_store HL3.out.blk 1 (.int .i64 (LX.size + (rl + 8)))) 2 (.int .i64 (LX.waiting + 1)))
       have HC5 : Hid (Chg (fun k => k = bl) w3 ((w3.setCell ⟨bl, 1, none⟩ (.int .i64 (LX.size + (rl + 8)))).setCell ⟨bl, 2, none⟩ (.int .i64 (LX.waiting + 1)))) := ((Chg.refl (fun k => k = bl) _).setCell (p := ⟨bl, 1, none⟩) (.inl rfl) _).setCell (p := ⟨bl, 2, none⟩) (.inl rfl) _
       clear HL3
       go_wp2
       exact HQ.out _ HB5.out HC5.out
     · have HQ : Hid (Q (.returned (.int .i64 ac)) w3) := by
         rw [HQD.out, HPUT.out]
         simp only [ne_eq, hac, not_false_iff, if_true]
         exact ⟨rfl, HL3.out.mono (fun k hk => by have := hwx.out; rcases hk with e | e; exact HTX2.out k e; exact .inr (by omega)), HC4.out⟩
       have hz1 : (ac == 0) = false := by simpa using hac
       have hz2 : (ac != 0) = true := by simpa using hac
       clear HL3
       go_wp2
       exact HQ.out
   · have HQ : Hid (Q (.returned (.int .i64 cr)) wx) := by
       rw [HQD.out, HPUT.out]
       simp only [ne_eq, hcz, not_false_iff, if_true]
       exact ⟨rfl, HLX.out.mono (fun k hk => HTX2.out k hk), HCX.out⟩
     have hz1 : (cr == 0) = false := by simpa using hcz
     have hz2 : (cr != 0) = true := by simpa using hcz
     go_wp2
     exact HQ.out
 · rw [if_neg hrot] at HPUT
   have HL1' := HL1
   by_cases hr1 : 0 < L.size
   · have hr2 : ¬ L.most < L.size + (rl + 8) := fun e => hrot ⟨hr1, e⟩
     have hr3 : decide (0 < L.size) = true := decide_eq_true hr1
     clear hrot
     go_quiet (fail)
     have HCX : Hid (Chg S w (w1.drewN nq)) := (Chg.ofBelow (S := S) HB1.out).drewN nq
     have HLX : Hid (LAt (w1.drewN nq) bl d L S) := HL1.out.frame (fun _ _ _ => rfl)
     have HRX : Hid (Row (w1.drewN nq) 5 1 (.slice ab (rl + 8) cb) (rl + 8) (byts (frameB r)) (fun k => w.heap.size ≤ k)) := HROW.out.frame (fun _ _ _ => rfl)
     have hsz := HB1.out.size
     have HTK : Hid (∀ k, S k → k < (w1.drewN nq).heap.size) := fun k hk => Nat.lt_of_lt_of_le (HSL.out k hk) hsz
     clear HL1 HL1' HROW HB1 l0 l1 l2 l3 l4
     generalize w1.drewN nq = wx at *
     clear hsz
     obtain ⟨TT, hTT⟩ : ∃ TT, TT = S := ⟨_, rfl⟩
     obtain ⟨WW, hWW⟩ : ∃ WW : Nat → Prop, WW = (fun k => w.heap.size ≤ k) := ⟨_, rfl⟩
     have HNX3 : Hid (∀ k, WW k → ¬ TT k) := fun k hk e => by rw [hWW] at hk; rw [hTT] at e; have := HSL.out k e; omega
     have HTX2 : Hid (∀ k, TT k → S k ∨ w.heap.size ≤ k) := fun k hk => by rw [hTT] at hk; exact .inl hk
     rw [← hTT] at HLX HTK
     rw [← hWW] at HRX
     clear hTT hWW
     have HBX := HBN.out.more (s' := s) (n' := n + 1) (k' := k + 1) (Nat.le_refl _) (by omega) (by omega)
     have HBX := Lib.hid HBX
     obtain ⟨LX, hLX⟩ : ∃ LX, LX = L := ⟨_, rfl⟩
     rw [← hLX] at HPUT HLX HBX
     clear hLX HBN HL
     have hx1 := HBX.out.size
     have hx2 := HBX.out.waiting
     have hx0 := HBX.out.n0
     have HKA : Hid (∀ w', Hid (Below wx.heap.size wx w') → w'.cell? ⟨bl, 3, none⟩ = some d) := fun w' hb => cellAt ((hb.out.block _ (lt_of_heap HLX.out.blk)).trans HLX.out.blk) 3 rfl
     have HKB : Hid (∀ w', Hid (Chg (fun k => TT k ∧ k ≠ bl) wx w') → w'.cell? ⟨bl, 3, none⟩ = some d) := fun w' hc => cellAt (hc.out.heap HLX.out.blk (fun e => e.2 rfl)) 3 rfl
     have HTAB : Hid (Tab wx) := HTB.out wx HCX.out
     have HN : Hid (∀ w', Hid (Below wx.heap.size wx w') → Calls Tryz.prog 99 #[.pointer (some ⟨bl, 0, none⟩)] w' fun e w2 => e = .returned (.string (nameI LX.n)) ∧ Below wx.heap.size wx w2) := fun w' hb =>
       (pname_any bl 0 LX.n w' (cellAt ((hb.out.block _ (lt_of_heap HLX.out.blk)).trans HLX.out.blk) 0 rfl) (tab_below HTAB.out hb.out)).mono (fun e w2 he => ⟨he.1, hb.out.trans (he.2.mono hb.out.size)⟩)
     have HAP : Hid (∀ w', Hid (Below wx.heap.size wx w') → Calls Tryz.prog 72 #[d, .string (nameI LX.n), .slice ab (rl + 8) cb] w' (DIn wx bl d TT (appendD LX.D (nameI LX.n) (frameB r)))) := fun w' hb => by
       have hd : DRep w' d LX.D (fun k => (TT k ∧ k ≠ bl) ∧ k < wx.heap.size) := HLX.out.dsk.tight.frame (fun k hk _ => hb.out.block k hk.2)
       have hro := (HRX.out.frame (fun k hk hl => hb.out.block k hl))
       have hrd := hro.reads
       have hc := append_any d (nameI LX.n) (frameB r) ab cb LX.D (fun k => (TT k ∧ k ≠ bl) ∧ k < wx.heap.size) w' hd HBX.out.d.plan (by have := HBX.out.d.sum; omega) (by rw [HRL.out]; omega) (by rw [HRL.out]; exact hrd) (fun ad had h0 e => by
         rw [had] at hro
         exact HNX3.out _ (hro.at_block) e.1.1)
       rw [HRL.out] at hc
       refine hc.mono ?_
       rintro e w2 ⟨he, hr, hch⟩
       have hs := hb.out.size
       exact ⟨he, hr.mono (fun k hk => by rcases hk with hk | hk; exact .inl hk.1; exact .inr (by omega)), (Chg.ofBelow hb.out).trans (hch.mono (T := fun k => TT k ∧ k ≠ bl) (fun k hk => hk.1)) (fun k hk => .inl hk)⟩
     obtain ⟨A, hA⟩ : ∃ A, appendD LX.D (nameI LX.n) (frameB r) = A := ⟨_, rfl⟩
     have hae := appG_eq LX r A hA
     rw [hA] at HAP
     rw [hae] at HPUT
     have HBA : Hid (Below wx.heap.size wx wx) := Below.refl _ _
     have HBA2 : Hid (Below wx.heap.size wx wx.drew) := (Below.refl _ _).drew
     have HLRI : Hid ((r.length : Int) = (rl : Int)) := by rw [Hid, ← HLR.out]
     rw [HLRI.out] at HPUT
     clear hA hae HRX HNX3 HTAB
     go_upto_region 12 with fail
     have k0 := HKA.out wx HBA.out
     go_region_held3 (fun w' => w'.cell? ⟨bl, 3, none⟩ = some d) (first | exact HKA.out _ (by assumption) | exact HKB.out _ (by assumption))
       (first
       | (go_at_call 99; refine (HN.out _ (by assumption)).mono ?_; rintro e w2 ⟨rfl, hb2⟩
          have HB2 := Lib.hid hb2
          clear hb2)
       | (go_at_call 72; refine (HAP.out _ (by assumption)).mono ?_; rintro e w3 ⟨rfl, hd3, hc3⟩
          have HD3 := Lib.hid hd3
          have HC3 := Lib.hid hc3
          clear hd3 hc3))
     have HL3 := Lib.hid (HLX.out.disk HD3.out HC3.out)
     have HC4 : Hid (Chg S w w3) := HCX.out.trans (HC3.out) (fun k hk => by rcases HTX2.out k hk.1 with e | e; exact .inl e; exact .inr e)
     obtain ⟨aD, ac⟩ := A
     simp only at *
     clear HD3 HC3 HKA HKB HN HAP k0 HBA HBA2
     have hwx : Hid (w.heap.size ≤ wx.heap.size) := HCX.out.size
     by_cases hac : ac = 0
     · subst hac
       simp only [ne_eq, not_true, if_false] at HPUT
       obtain ⟨m0, m1, m2, m3, m4⟩ := cells5w HL3.out.blk
       have f1 := freeAt HL3.out.blk 1
       have f2 := freeAt HL3.out.blk 2
       simp only at m1 m2
       have HQ : Hid (∀ w5, w5.heap[bl]? = some (.cells #[.int .i64 LX.n, .int .i64 (LX.size + (rl + 8)), .int .i64 (LX.waiting + 1), d, .int .i64 LX.most] 148 (0, 0)) → Chg (fun k => k = bl) w3 w5 → Q (.returned (.int .i64 0)) w5) := fun w5 hb5 hc5 => by
         rw [HQD.out, HPUT.out]
         refine ⟨rfl, (HL3.out.head (L' := ⟨LX.n, LX.size + (rl + 8), LX.waiting + 1, LX.most, aD⟩) rfl hb5 hc5).mono (fun k hk => by have := hwx.out; rcases hk with e | e; exact HTX2.out k e; exact .inr (by omega)), HC4.out.trans hc5 (fun k hk => by have e : k = bl := hk; rw [e]; exact HTX2.out bl HLX.out.own)⟩
       have HB5 := Lib.hid (heap_store (heap_store HL3.out.blk 1 (.int .i64 (LX.size + (rl + 8)))) 2 (.int .i64 (LX.waiting + 1)))
       have HC5 : Hid (Chg (fun k => k = bl) w3 ((w3.setCell ⟨bl, 1, none⟩ (.int .i64 (LX.size + (rl + 8)))).setCell ⟨bl, 2, none⟩ (.int .i64 (LX.waiting + 1)))) := ((Chg.refl (fun k => k = bl) _).setCell (p := ⟨bl, 1, none⟩) (.inl rfl) _).setCell (p := ⟨bl, 2, none⟩) (.inl rfl) _
       clear HL3
       go_wp2
       exact HQ.out _ HB5.out HC5.out
     · have HQ : Hid (Q (.returned (.int .i64 ac)) w3) := by
         rw [HQD.out, HPUT.out]
         simp only [ne_eq, hac, not_false_iff, if_true]
         exact ⟨rfl, HL3.out.mono (fun k hk => by have := hwx.out; rcases hk with e | e; exact HTX2.out k e; exact .inr (by omega)), HC4.out⟩
       have hz1 : (ac == 0) = false := by simpa using hac
       have hz2 : (ac != 0) = true := by simpa using hac
       clear HL3
       go_wp2
       exact HQ.out
   · have hr3 : decide (0 < L.size) = false := decide_eq_false hr1
     clear hrot
     go_quiet (fail)
     have HCX : Hid (Chg S w (w1.drewN nq)) := (Chg.ofBelow (S := S) HB1.out).drewN nq
     have HLX : Hid (LAt (w1.drewN nq) bl d L S) := HL1.out.frame (fun _ _ _ => rfl)
     have HRX : Hid (Row (w1.drewN nq) 5 1 (.slice ab (rl + 8) cb) (rl + 8) (byts (frameB r)) (fun k => w.heap.size ≤ k)) := HROW.out.frame (fun _ _ _ => rfl)
     have hsz := HB1.out.size
     have HTK : Hid (∀ k, S k → k < (w1.drewN nq).heap.size) := fun k hk => Nat.lt_of_lt_of_le (HSL.out k hk) hsz
     clear HL1 HL1' HROW HB1 l0 l1 l2 l3 l4
     generalize w1.drewN nq = wx at *
     clear hsz
     obtain ⟨TT, hTT⟩ : ∃ TT, TT = S := ⟨_, rfl⟩
     obtain ⟨WW, hWW⟩ : ∃ WW : Nat → Prop, WW = (fun k => w.heap.size ≤ k) := ⟨_, rfl⟩
     have HNX3 : Hid (∀ k, WW k → ¬ TT k) := fun k hk e => by rw [hWW] at hk; rw [hTT] at e; have := HSL.out k e; omega
     have HTX2 : Hid (∀ k, TT k → S k ∨ w.heap.size ≤ k) := fun k hk => by rw [hTT] at hk; exact .inl hk
     rw [← hTT] at HLX HTK
     rw [← hWW] at HRX
     clear hTT hWW
     have HBX := HBN.out.more (s' := s) (n' := n + 1) (k' := k + 1) (Nat.le_refl _) (by omega) (by omega)
     have HBX := Lib.hid HBX
     obtain ⟨LX, hLX⟩ : ∃ LX, LX = L := ⟨_, rfl⟩
     rw [← hLX] at HPUT HLX HBX
     clear hLX HBN HL
     have hx1 := HBX.out.size
     have hx2 := HBX.out.waiting
     have hx0 := HBX.out.n0
     have HKA : Hid (∀ w', Hid (Below wx.heap.size wx w') → w'.cell? ⟨bl, 3, none⟩ = some d) := fun w' hb => cellAt ((hb.out.block _ (lt_of_heap HLX.out.blk)).trans HLX.out.blk) 3 rfl
     have HKB : Hid (∀ w', Hid (Chg (fun k => TT k ∧ k ≠ bl) wx w') → w'.cell? ⟨bl, 3, none⟩ = some d) := fun w' hc => cellAt (hc.out.heap HLX.out.blk (fun e => e.2 rfl)) 3 rfl
     have HTAB : Hid (Tab wx) := HTB.out wx HCX.out
     have HN : Hid (∀ w', Hid (Below wx.heap.size wx w') → Calls Tryz.prog 99 #[.pointer (some ⟨bl, 0, none⟩)] w' fun e w2 => e = .returned (.string (nameI LX.n)) ∧ Below wx.heap.size wx w2) := fun w' hb =>
       (pname_any bl 0 LX.n w' (cellAt ((hb.out.block _ (lt_of_heap HLX.out.blk)).trans HLX.out.blk) 0 rfl) (tab_below HTAB.out hb.out)).mono (fun e w2 he => ⟨he.1, hb.out.trans (he.2.mono hb.out.size)⟩)
     have HAP : Hid (∀ w', Hid (Below wx.heap.size wx w') → Calls Tryz.prog 72 #[d, .string (nameI LX.n), .slice ab (rl + 8) cb] w' (DIn wx bl d TT (appendD LX.D (nameI LX.n) (frameB r)))) := fun w' hb => by
       have hd : DRep w' d LX.D (fun k => (TT k ∧ k ≠ bl) ∧ k < wx.heap.size) := HLX.out.dsk.tight.frame (fun k hk _ => hb.out.block k hk.2)
       have hro := (HRX.out.frame (fun k hk hl => hb.out.block k hl))
       have hrd := hro.reads
       have hc := append_any d (nameI LX.n) (frameB r) ab cb LX.D (fun k => (TT k ∧ k ≠ bl) ∧ k < wx.heap.size) w' hd HBX.out.d.plan (by have := HBX.out.d.sum; omega) (by rw [HRL.out]; omega) (by rw [HRL.out]; exact hrd) (fun ad had h0 e => by
         rw [had] at hro
         exact HNX3.out _ (hro.at_block) e.1.1)
       rw [HRL.out] at hc
       refine hc.mono ?_
       rintro e w2 ⟨he, hr, hch⟩
       have hs := hb.out.size
       exact ⟨he, hr.mono (fun k hk => by rcases hk with hk | hk; exact .inl hk.1; exact .inr (by omega)), (Chg.ofBelow hb.out).trans (hch.mono (T := fun k => TT k ∧ k ≠ bl) (fun k hk => hk.1)) (fun k hk => .inl hk)⟩
     obtain ⟨A, hA⟩ : ∃ A, appendD LX.D (nameI LX.n) (frameB r) = A := ⟨_, rfl⟩
     have hae := appG_eq LX r A hA
     rw [hA] at HAP
     rw [hae] at HPUT
     have HBA : Hid (Below wx.heap.size wx wx) := Below.refl _ _
     have HBA2 : Hid (Below wx.heap.size wx wx.drew) := (Below.refl _ _).drew
     have HLRI : Hid ((r.length : Int) = (rl : Int)) := by rw [Hid, ← HLR.out]
     rw [HLRI.out] at HPUT
     clear hA hae HRX HNX3 HTAB
     go_upto_region 12 with fail
     have k0 := HKA.out wx HBA.out
     go_region_held3 (fun w' => w'.cell? ⟨bl, 3, none⟩ = some d) (first | exact HKA.out _ (by assumption) | exact HKB.out _ (by assumption))
       (first
       | (go_at_call 99; refine (HN.out _ (by assumption)).mono ?_; rintro e w2 ⟨rfl, hb2⟩
          have HB2 := Lib.hid hb2
          clear hb2)
       | (go_at_call 72; refine (HAP.out _ (by assumption)).mono ?_; rintro e w3 ⟨rfl, hd3, hc3⟩
          have HD3 := Lib.hid hd3
          have HC3 := Lib.hid hc3
          clear hd3 hc3))
     have HL3 := Lib.hid (HLX.out.disk HD3.out HC3.out)
     have HC4 : Hid (Chg S w w3) := HCX.out.trans (HC3.out) (fun k hk => by rcases HTX2.out k hk.1 with e | e; exact .inl e; exact .inr e)
     obtain ⟨aD, ac⟩ := A
     simp only at *
     clear HD3 HC3 HKA HKB HN HAP k0 HBA HBA2
     have hwx : Hid (w.heap.size ≤ wx.heap.size) := HCX.out.size
     by_cases hac : ac = 0
     · subst hac
       simp only [ne_eq, not_true, if_false] at HPUT
       obtain ⟨m0, m1, m2, m3, m4⟩ := cells5w HL3.out.blk
       have f1 := freeAt HL3.out.blk 1
       have f2 := freeAt HL3.out.blk 2
       simp only at m1 m2
       have HQ : Hid (∀ w5, w5.heap[bl]? = some (.cells #[.int .i64 LX.n, .int .i64 (LX.size + (rl + 8)), .int .i64 (LX.waiting + 1), d, .int .i64 LX.most] 148 (0, 0)) → Chg (fun k => k = bl) w3 w5 → Q (.returned (.int .i64 0)) w5) := fun w5 hb5 hc5 => by
         rw [HQD.out, HPUT.out]
         refine ⟨rfl, (HL3.out.head (L' := ⟨LX.n, LX.size + (rl + 8), LX.waiting + 1, LX.most, aD⟩) rfl hb5 hc5).mono (fun k hk => by have := hwx.out; rcases hk with e | e; exact HTX2.out k e; exact .inr (by omega)), HC4.out.trans hc5 (fun k hk => by have e : k = bl := hk; rw [e]; exact HTX2.out bl HLX.out.own)⟩
       have HB5 := Lib.hid (heap_store (heap_store HL3.out.blk 1 (.int .i64 (LX.size + (rl + 8)))) 2 (.int .i64 (LX.waiting + 1)))
       have HC5 : Hid (Chg (fun k => k = bl) w3 ((w3.setCell ⟨bl, 1, none⟩ (.int .i64 (LX.size + (rl + 8)))).setCell ⟨bl, 2, none⟩ (.int .i64 (LX.waiting + 1)))) := ((Chg.refl (fun k => k = bl) _).setCell (p := ⟨bl, 1, none⟩) (.inl rfl) _).setCell (p := ⟨bl, 2, none⟩) (.inl rfl) _
       clear HL3
       go_wp2
       exact HQ.out _ HB5.out HC5.out
     · have HQ : Hid (Q (.returned (.int .i64 ac)) w3) := by
         rw [HQD.out, HPUT.out]
         simp only [ne_eq, hac, not_false_iff, if_true]
         exact ⟨rfl, HL3.out.mono (fun k hk => by have := hwx.out; rcases hk with e | e; exact HTX2.out k e; exact .inr (by omega)), HC4.out⟩
       have hz1 : (ac == 0) = false := by simpa using hac
       have hz2 : (ac != 0) = true := by simpa using hac
       clear HL3
       go_wp2
       exact HQ.out
def seg0 : Seg := ⟨0, [], [], 0⟩
theorem nameI_one : nameI 1 = ⟨#[108, 111, 103, 45, 48, 48, 48, 48, 48, 48, 48, 49]⟩ := by decide +kernel
theorem segD0 (room : Int) : segD room seg0 = ⟨room, [⟨nameI 1, [], 0⟩], 0, false⟩ := by
 unfold segD Seg.files Seg.last seg0
 simp [preF, framesB]
theorem segL0 (room most : Int) : segL room most seg0 = ⟨1, 0, 0, most, ⟨room, [⟨nameI 1, [], 0⟩], 0, false⟩⟩ := by
 have h := segD0 room
 unfold segL
 rw [h]
 simp [seg0, framesB]
theorem seg0_good (most : Int) : seg0.good most where
 num := by decide
 wt := Nat.le_refl _
 lens := by intro r hr; simp [seg0, Seg.all] at hr
 fit := by intro c hc; right; simpa [seg0] using hc
theorem createD_new (room : Int) : createD ⟨room, [], 0, false⟩ (nameI 1) = (⟨room, [⟨nameI 1, [], 0⟩], 0, false⟩, 0) := by
 have hn : namedB (nameI 1) = true := nameI_named (n := 1) (by decide) (by decide)
 unfold createD beginD
 simp [hn, findD]
 decide
theorem doF_new (room : Int) : doF 1 ⟨room, [], 0, false⟩ (nameI 1) ⟨#[]⟩ [] = (⟨room, [⟨nameI 1, [], 0⟩], 0, false⟩, 0) :=
 doF_create (D := ⟨room, [], 0, false⟩) rfl rfl (nameI_named (n := 1) (by decide) (by decide)) rfl
theorem rel_refl0 (room : Int) : Rel ⟨room, [⟨nameI 1, [], 0⟩], 0, false⟩ ⟨room, [⟨nameI 1, [], 0⟩], 0, false⟩ := ⟨rfl, rfl, rfl, by simp, by simp, fun _ => rfl⟩
theorem relL_refl0 (room most : Int) : RelL (segL room most seg0) (segL room most seg0) := ⟨rfl, rfl, rfl, rfl, by rw [segL0]; exact rel_refl0 room⟩
section
variable {w0 w w' : World} {bl bx : Nat} {L : LS} {room most : Int} {s : Seg} {q : Nat} {S : Nat → Prop}
end
theorem conv_byts (w : World) (ba : Option Addr) (bc : Nat) (l : List UInt8) (h : Reads w (.slice ba l.length bc) l.length 1 (byts l)) (hl : 0 < l.length) :
   (convert 72 9 (.slice ba l.length bc)).run Tryz.prog w = .ok (.string ⟨l.toArray⟩) w := by
 obtain ⟨g, o, c, hv, -, -, hat⟩ := h.at hl
 cases hv
 refine run_convert_bytes_back w _ _ 5 _ bc l Tryz.underlying72 Tryz.underlying5 Tryz.underlying9 (fun j hj => ?_)
 rw [Addr.add_lit]
 exact hat j _ (by unfold byts; rw [List.getElem?_map, List.getElem?_eq_getElem hj]; rfl)
theorem conv_byts0 (w : World) (ba : Option Addr) (bc : Nat) : (convert 72 9 (.slice ba 0 bc)).run Tryz.prog w = .ok (.string ⟨#[]⟩) w := by
 rw [run_convert_bytes_string w 72 9 5 ba 0 bc Tryz.underlying72 Tryz.underlying5 Tryz.underlying9]
 cases ba <;> simp [Conv.bytesToString, loadCells]
 all_goals rfl
theorem conv_all (w : World) (ba : Option Addr) (bc : Nat) (l : List UInt8) (h : Reads w (.slice ba l.length bc) l.length 1 (byts l)) :
   (convert 72 9 (.slice ba l.length bc)).run Tryz.prog w = .ok (.string ⟨l.toArray⟩) w := by
 rcases Nat.eq_zero_or_pos l.length with h0 | h0
 · obtain rfl : l = [] := List.eq_nil_of_length_eq_zero h0
   exact conv_byts0 w ba bc
 · exact conv_byts w ba bc l h h0
structure SL where
 v : Value
 l : List UInt8
structure SLs (w : World) (v : Value) (P : List SL) : Prop where
 rd : Reads w v P.length 1 (P.map SL.v)
 each : ∀ x ∈ P, Reads w x.v x.l.length 1 (byts x.l)
theorem SLs.later {w w' : World} {v : Value} {P : List SL} (h : SLs w v P) (hb : Below w.heap.size w w') : SLs w' v P := ⟨h.rd.later hb, fun x hx => (h.each x hx).later hb⟩
theorem SLs.form {w : World} {v : Value} {P : List SL} (h : SLs w v P) : ∃ a c, v = .slice a P.length c := by
 obtain ⟨-, a, c, hv, -⟩ := h.rd
 exact ⟨a, c, hv⟩
theorem SLs.head {w : World} {a : Option Addr} {c : Nat} {P : List SL} (h : SLs w (.slice a P.length c) P) {m : Nat} (hm : m < P.length) :
   ∃ b o ea ec, a = some ⟨b, o, none⟩ ∧ P.length ≤ c ∧ b < w.heap.size ∧ P[m].v = .slice ea P[m].l.length ec ∧ w.cell? ⟨b, o + m, none⟩ = some (.slice ea P[m].l.length ec) ∧ Reads w (.slice ea P[m].l.length ec) P[m].l.length 1 (byts P[m].l) := by
 obtain ⟨b, o, c', hv, hle, hb, hc⟩ := h.rd.at (by omega)
 cases hv
 have hr := h.each P[m] (List.getElem_mem hm)
 obtain ⟨-, ea, ec, hv2, -⟩ := id hr
 rw [hv2] at hr
 refine ⟨b, o, ea, ec, rfl, hle, hb, hv2, ?_, hr⟩
 rw [← hv2]
 exact hc m _ (by rw [List.getElem?_map, List.getElem?_eq_getElem hm]; rfl)
def slOf (x : RX) : SL := ⟨x.v, x.l⟩
theorem sls_rx {w : World} {v : Value} {X : List RX} {B : Nat} {S : Nat → Prop} (h : Row w 72 1 v X.length (X.map RX.v) S) (h2 : ∀ x ∈ X, RdX B x w) : SLs w v (X.map slOf) := by
 refine ⟨?_, fun x hx => ?_⟩
 · rw [List.length_map, List.map_map]
   exact h.reads
 · obtain ⟨y, hy, rfl⟩ := List.mem_map.1 hx
   exact (h2 y hy).reads
def minL (P : List SL) : Nat := (P.map fun x => min x.l.length 2000).sum
theorem minL_succ {P : List SL} {m : Nat} (h : m < P.length) : minL (P.take (m + 1)) = minL (P.take m) + min P[m].l.length 2000 := by
 unfold minL
 rw [List.take_succ_eq_append_getElem h, List.map_append, List.sum_append]; simp
def sumL (P : List SL) : Nat := (P.map fun x => x.l.length).sum
theorem min_sum : ∀ P : List SL, minL P ≤ 1500 → minL P = sumL P
 | [], _ => rfl
 | x :: P, h => by
   have e1 : minL (x :: P) = min x.l.length 2000 + minL P := by simp [minL]
   have e2 : sumL (x :: P) = x.l.length + sumL P := by simp [sumL]
   have := min_sum P (by omega)
   omega
def FewLP (w : World) (P : List SL) : Ending → World → Prop := fun e w' => (∃ b, e = .returned (.bool b) ∧ (b = true → P.length ≤ 60 ∧ sumL P ≤ 1500)) ∧ w' = w
set_option maxHeartbeats 2000000 in
theorem rfewL_any (v : Value) (P : List SL) (w : World) (h : SLs w v P) (hl : P.length ≤ 5864062014805) (he : ∀ x ∈ P, x.l.length ≤ 9223372036854775807) :
   Calls Tryz.prog 37 #[v] w (FewLP w P) := by
 obtain ⟨a, c, rfl⟩ := h.form
 have HP := Lib.hid h
 have HE := Lib.hid he
 clear h he
 go_enter Tryz.func37, Tryz.ntmps37
 go_wp2_with fail
 go_loopw [3, 4] (fun s i w' => ∃ (m : Nat) (N : Int), m ≤ P.length ∧ s = .int .i64 N ∧ i = .int .i64 m ∧ w' = w ∧ N = (minL (P.take m) : Nat) ∧ N ≤ 2000 * (m : Int)) (fun _ i _ => P.length - (RowKit.intOf i).toNat)
 case atStart => exact ⟨0, 0, by omega, rfl, rfl, rfl, by simp [minL], by omega⟩
 case round =>
   obtain ⟨m, N, hm, rfl, rfl, rfl, hN1, hN2⟩ := hrel
   by_cases hlt : m < P.length
   · obtain ⟨b, o, ea, ec, rfl, hle, hb, -, hc, -⟩ := HP.out.head hlt
     have hmin := minL_succ hlt
     have hel := HE.out P[m] (List.getElem_mem hlt)
     generalize P[m].l.length = ln at *
     go_wp2_with fail
     go_roundw
     case rel => exact ⟨m + 1, _, by omega, rfl, by go_num, by trivial, by rw [hmin]; omega, by omega⟩
     case measure => simp [RowKit.intOf]; omega
   · obtain rfl : m = P.length := by omega
     rw [List.take_length] at hN1
     have hms := min_sum P
     by_cases h60 : (P.length : Int) ≤ 60
     · by_cases h15 : N ≤ 1500
       · go_wp2
         go_ret
         exact ⟨⟨_, rfl, fun _ => by omega⟩, rfl⟩
       · go_wp2
         go_ret
         exact ⟨⟨_, rfl, fun h => by first | (simp at h; done) | (simp at h; omega)⟩, rfl⟩
     · go_wp2
       go_ret
       exact ⟨⟨_, rfl, fun h => by first | (simp at h; done) | (simp at h; omega)⟩, rfl⟩
theorem rsame1_any (a1 a2 : Option Addr) (c1 c2 : Nat) (l : List UInt8) (w : World) (h1 : Reads w (.slice a1 l.length c1) l.length 1 (byts l)) (h2 : Reads w (.slice a2 l.length c2) l.length 1 (byts l)) :
   Calls Tryz.prog 65 #[.slice a1 l.length c1, .slice a2 l.length c2] w fun e w' => e = .returned (.bool true) ∧ w' = w := by
 have hc1 := conv_all w a1 c1 l h1
 have hc2 := conv_all w a2 c2 l h2
 clear h1 h2
 go_enter Tryz.func65, Tryz.ntmps65
 go_wp2_with (first | simp only [hc1, hc2] | fail)
 go_ret
 exact ⟨rfl, rfl⟩
set_option maxHeartbeats 2000000 in
theorem rsameL_any (v1 v2 : Value) (P Q : List SL) (w : World) (h1 : SLs w v1 P) (h2 : SLs w v2 Q) (he : P.map SL.l = Q.map SL.l) (hl : P.length ≤ 1000000000) :
   Calls Tryz.prog 21 #[v1, v2] w fun e w' => e = .returned (.bool true) ∧ Below w.heap.size w w' := by
 obtain ⟨a1, c1, rfl⟩ := h1.form
 obtain ⟨a2, c2, rfl⟩ := h2.form
 have hlen : Q.length = P.length := by have := congrArg List.length he; simpa using this.symm
 have H1 := Lib.hid h1
 have H2 := Lib.hid h2
 have HE := Lib.hid he
 have HLN := Lib.hid hlen
 rw [hlen]
 clear h1 h2 he hlen
 go_enter Tryz.func21, Tryz.ntmps21
 go_wp2_with fail
 go_loopw [5] (fun i w' => ∃ m : Nat, m ≤ P.length ∧ i = .int .i64 m ∧ Hid (Below w.heap.size w w')) (fun i _ => P.length - (RowKit.intOf i).toNat)
 case atStart => exact ⟨0, by omega, rfl, Below.refl _ _⟩
 case round =>
   obtain ⟨m, hm, rfl, HB⟩ := hrel
   by_cases hlt : m < P.length
   · obtain ⟨b, o, ea, ec, rfl, hle, hb, -, hc, hr⟩ := (H1.out.later HB.out).head hlt
     have hlt2 : m < Q.length := by have := HLN.out; omega
     have h2' := H2.out.later HB.out
     have hel : Q[m].l = P[m].l := by
       have := congrArg (fun l => l[m]?) HE.out
       simpa [hlt, hlt2] using this.symm
     obtain ⟨b2, o2, ea2, ec2, rfl, hle2, hb2, -, hc2, hr2⟩ := h2'.head hlt2
     rw [hel] at hc2 hr2
     rw [HLN.out] at hle2
     generalize P[m].l = pl at *
     have HSM := Lib.hid (rsame1_any ea ea2 ec ec2 pl)
     have HR := Lib.hid hr
     have HR2 := Lib.hid hr2
     clear hr hr2 h2' hel
     have HKS : Hid (∀ w', Hid (Below wr.heap.size wr w') → w'.cell? ⟨b, o + m, none⟩ = some (.slice ea pl.length ec) ∧ w'.cell? ⟨b2, o2 + m, none⟩ = some (.slice ea2 pl.length ec2)) := fun w' hb' => ⟨(hb'.out.cell (p := ⟨b, o + m, none⟩) hb).trans hc, (hb'.out.cell (p := ⟨b2, o2 + m, none⟩) hb2).trans hc2⟩
     have HB0 : Hid (Below wr.heap.size wr wr.drew) := (Below.refl _ _).drew
     go_upto_region 6 with fail
     go_region_held3 (fun w' => w'.cell? ⟨b, o + m, none⟩ = some (.slice ea pl.length ec) ∧ w'.cell? ⟨b2, o2 + m, none⟩ = some (.slice ea2 pl.length ec2)) (exact HKS.out _ (by assumption))
       (first | (go_at_call 65; refine (HSM.out _ (HR.out.later (Hid.out (by assumption))) (HR2.out.later (Hid.out (by assumption)))).mono ?_; rintro e w3 ⟨rfl, rfl⟩))
     have HBN := Lib.hid (HB.out.drew)
     go_wp2
     go_roundw
     case rel => exact ⟨m + 1, by omega, by go_num, HBN⟩
     case measure => simp [RowKit.intOf]; omega
   · obtain rfl : m = P.length := by omega
     go_wp2
     go_ret
     exact ⟨rfl, HB.out⟩
def runS (most : Int) (s : Seg) (l : List (List UInt8)) : Seg := l.foldl (fun s r => (stepS most s r).1) s
theorem runS_snoc (most : Int) (s : Seg) (l : List (List UInt8)) (r : List UInt8) : runS most s (l ++ [r]) = (stepS most (runS most s l) r).1 := by unfold runS; rw [List.foldl_append]; rfl
theorem runS_take {P : List SL} {m : Nat} (h : m < P.length) (most : Int) (s : Seg) : runS most s ((P.take (m + 1)).map SL.l) = (stepS most (runS most s ((P.take m).map SL.l)) P[m].l).1 := by
 rw [List.take_succ_eq_append_getElem h, List.map_append]; exact runS_snoc _ _ _ _
theorem stepS_i0 (most : Int) (s : Seg) (r : List UInt8) : (stepS most s r).1.i0 = s.i0 ∧ (stepS most s r).1.pre.length ≤ s.pre.length + 1 := by
 unfold stepS
 split
 · exact ⟨rfl, by show s.pre.length ≤ _; omega⟩
 · split
   · exact ⟨rfl, by show s.pre.length ≤ _; omega⟩
   · split
     · exact ⟨rfl, by simp⟩
     · exact ⟨rfl, by show s.pre.length ≤ _; omega⟩
theorem stepS_len (most : Int) (s : Seg) (r : List UInt8) : (framesB (stepS most s r).1.all).length ≤ (framesB s.all).length + (r.length + 8) := by
 rw [stepS_all, framesB_append, List.length_append]
 split
 · rw [framesB_one, frameB_length]; omega
 · simp [framesB]
structure RunI (most : Int) (s : Seg) (q b : Nat) : Prop where
 good : s.good most
 i0 : s.i0 = 0
 pre : s.pre.length ≤ q
 len : (framesB s.all).length ≤ b + 8 * q
theorem runI_0 (most : Int) : RunI most seg0 0 0 := ⟨seg0_good most, rfl, Nat.le_refl _, by simp [seg0, Seg.all, framesB]⟩
theorem RunI.step {most : Int} {s : Seg} {q b : Nat} (h : RunI most s q b) (hq : q ≤ 300) (r : List UInt8) (hr : r.length ≤ 2000) : RunI most (stepS most s r).1 (q + 1) (b + r.length) := by
 have h1 := stepS_i0 most s r
 have h2 := stepS_len most s r
 have h3 := h.i0
 have h4 := h.pre
 have h5 := h.len
 exact ⟨stepS_good h.good (by omega) r hr, by omega, by omega, by omega⟩
theorem sumL_take {P : List SL} {m : Nat} (h : m < P.length) : sumL (P.take (m + 1)) = sumL (P.take m) + P[m].l.length := by
 unfold sumL
 rw [List.take_succ_eq_append_getElem h, List.map_append, List.sum_append]; simp
theorem sumL_le (P : List SL) (m : Nat) : sumL (P.take m) ≤ sumL P := by
 conv => rhs; rw [← List.take_append_drop m P]
 unfold sumL
 rw [List.map_append, List.sum_append]; omega
theorem sumL_at {P : List SL} {m : Nat} (h : m < P.length) : P[m].l.length ≤ sumL P := by
 have h1 := sumL_take h
 have h2 := sumL_le P (m + 1)
 omega
theorem runI_take (most : Int) (P : List SL) (hP : P.length ≤ 300) (hs : sumL P ≤ 2000) : ∀ m, m ≤ P.length → RunI most (runS most seg0 ((P.take m).map SL.l)) m (sumL (P.take m))
 | 0, _ => by
   have := runI_0 most
   simpa [runS, sumL] using this
 | m + 1, hm => by
   have ih := runI_take most P hP hs m (by omega)
   have hlt : m < P.length := by omega
   rw [runS_take hlt, sumL_take hlt]
   exact ih.step (by omega) _ (by have := sumL_at hlt; omega)
theorem readD_up {D : DS} (h : D.down = false) (n : ByteArray) : (readD D n).1 = match findD D.files n with
   | some f => f.b
   | none => [] := by
 unfold readD
 rw [if_neg (by rw [h]; simp)]
 cases findD D.files n <;> rfl
theorem rel_names_mem {D F : DS} (h : Rel D F) (x : ByteArray) : x ∈ D.files.map DF.name ↔ x ∈ F.files.map DF.name := by
 have h1 := findD_none (l := D.files) (n := x)
 have h2 := findD_none (l := F.files) (n := x)
 rw [h.same] at h1
 rw [← Classical.not_not (a := x ∈ D.files.map DF.name), ← Classical.not_not (a := x ∈ F.files.map DF.name)]
 exact not_congr (h1.symm.trans h2)
theorem RunI.synced {most : Int} {s : Seg} {q b : Nat} (h : RunI most s q b) : RunI most { s with wt := 0 } q b :=
 ⟨⟨h.good.num, Nat.zero_le _, h.good.lens, h.good.fit⟩, h.i0, h.pre, h.len⟩
end Go.Proofs.YtgdmdbdljmlkkaaGreatDoor
