/- Scan5 -/
import Derived.Test.YtgdmdbdljmlkkaaGreatDoorTz26
set_option maxRecDepth 100000
set_option linter.unusedVariables false
set_option linter.unusedSimpArgs false
namespace Go.Proofs.YtgdmdbdljmlkkaaGreatDoor
open Go.RowKit
set_option maxHeartbeats 1000000 in
theorem sctry_any (fs : List (Nat × Array Value)) (b : Nat) (w : World) (hl : fs.length ≤ 1000) (eg : ∀ f ∈ fs, ∀ args w, (callFunc f.1 args).run Tryz.prog w = .ok (.enter f.1 args) w) (J : Nat → World → Prop) (Q : Int → World → Prop)
   (hR : ∀ k w1, k < fs.length → J k w1 → ∀ j (hj : j < fs.length), w1.cell? ⟨b, j, none⟩ = some (.func (.func fs[j].1) #[] fs[j].2))
   (hS : ∀ k (hk : k < fs.length) w1, J k w1 → Calls Tryz.prog fs[k].1 fs[k].2 w1 fun e w2 => ∃ code : Int, e = .returned (.int .i64 code) ∧ (code = 0 → J (k + 1) w2) ∧ (code ≠ 0 → Q code w2))
   (hE : ∀ w1, J fs.length w1 → Q 0 w1) (h0 : J 0 w) :
   Calls Tryz.prog 76 #[.slice (some ⟨b, 0, none⟩) fs.length fs.length] w fun e w' => ∃ code : Int, e = .returned (.int .i64 code) ∧ Q code w' := by
 have HR := Lib.hid hR
 have HS := Lib.hid hS
 have HE := Lib.hid hE
 have H0 := Lib.hid h0
 have HEG := Lib.hid eg
 clear hR hS hE h0 eg
 go_enter Tryz.func76, Tryz.ntmps76
 go_wp2_with fail
 go_loopw [8] (fun i w' => ∃ k : Nat, k ≤ fs.length ∧ i = .int .i64 k ∧ Hid (J k w')) (fun i _ => fs.length - (RowKit.intOf i).toNat)
 case atStart => exact ⟨0, by omega, rfl, H0⟩
 case round =>
   obtain ⟨k, hk, rfl, HK⟩ := hrel
   by_cases hlt : k < fs.length
   · have hc := HR.out k wr hlt HK.out k hlt
     have heg := HEG.out fs[k] (List.getElem_mem hlt)
     have HS1 := Lib.hid (HS.out k hlt wr HK.out)
     generalize fs[k] = f at *
     obtain ⟨g, lb⟩ := f
     simp only at *
     go_wp2_with fail
     refine HS1.out.mono ?_
     rintro e w2 ⟨code, rfl, hz, hnz⟩
     have HZ := Lib.hid hz
     have HNZ := Lib.hid hnz
     clear hz hnz hc HK HS1 heg
     by_cases hcode : code = 0
     · subst hcode
       have HJ2 := Lib.hid (HZ.out rfl)
       go_wp2
       go_roundw
       case rel => exact ⟨k + 1, by omega, by go_num, HJ2⟩
       case measure => simp [RowKit.intOf]; omega
     · have HQ := Lib.hid (HNZ.out hcode)
       have hb : (code == 0) = false := by simpa using hcode
       have hb2 : (code != 0) = true := by simpa using hcode
       go_wp2
       go_ret
       exact ⟨code, rfl, HQ.out⟩
   · obtain rfl : k = fs.length := by omega
     have HQ := Lib.hid (HE.out wr HK.out)
     go_wp2
     go_ret
     exact ⟨0, rfl, HQ.out⟩
def seqAll : List (DS → DS × Int) → DS → DS × Int
 | [], D => (D, 0)
 | o :: l, D => seqG (o D) (seqAll l)
abbrev grown (T : Nat → Prop) (w w' : World) : Nat → Prop := fun k => (T k ∨ w.heap.size ≤ k) ∧ k < w'.heap.size
theorem tryops_any (x : Value) (E : World → (Nat → Prop) → Prop) (hE : ∀ w T w', E w T → Chg T w w' → E w' (grown T w w')) (fs : List (Nat × Array Value)) (ops : List (DS → DS × Int)) (hlen : ops.length = fs.length) (hl : fs.length ≤ 1000) (eg : ∀ f ∈ fs, ∀ args w, (callFunc f.1 args).run Tryz.prog w = .ok (.enter f.1 args) w)
   (b : Nat) (hb : ∀ w T, E w T → ∀ j (hj : j < fs.length), w.cell? ⟨b, j, none⟩ = some (.func (.func fs[j].1) #[] fs[j].2)) (B : Nat → DS → Prop)
   (hS : ∀ k (hk : k < fs.length) w T D, E w T → DRep w x D T → B k D → Calls Tryz.prog fs[k].1 fs[k].2 w (DPost w x T ((ops[k]'(by omega)) D)))
   (hB : ∀ k (hk : k < fs.length) D, B k D → B (k + 1) ((ops[k]'(by omega)) D).1)
   (w : World) (T : Nat → Prop) (D : DS) (h0 : E w T) (hd : DRep w x D T) (hT : ∀ k, T k → k < w.heap.size) (hb0 : B 0 D) :
   Calls Tryz.prog 76 #[.slice (some ⟨b, 0, none⟩) fs.length fs.length] w (DPost w x T (seqAll ops D)) := by
 refine (sctry_any fs b w hl eg (fun k w1 => ∃ T1 D1, E w1 T1 ∧ DRep w1 x D1 T1 ∧ B k D1 ∧ Chg T w w1 ∧ (∀ k, T1 k → T k ∨ w.heap.size ≤ k) ∧ seqAll ops D = seqAll (ops.drop k) D1)
   (fun code w2 => DPost w x T (seqAll ops D) (.returned (.int .i64 code)) w2) ?_ ?_ ?_ ⟨T, D, h0, hd, hb0, Chg.refl _ _, fun k hk => .inl hk, rfl⟩).mono (fun e w2 ⟨code, he, h⟩ => he ▸ h)
 · rintro k w1 hk ⟨T1, D1, h1, -⟩ j hj
   exact hb w1 T1 h1 j hj
 · rintro k hk w1 ⟨T1, D1, h1, h2, h3, h4, h5, h6⟩
   refine (hS k hk w1 T1 D1 h1 h2 h3).mono ?_
   rintro e w2 ⟨rfl, h7, h8⟩
   have hd : ops.drop k = ops[k]'(by omega) :: ops.drop (k + 1) := List.drop_eq_getElem_cons (by omega)
   have h9 : Chg T w w2 := h4.trans h8 h5
   have hs4 := h4.size
   refine ⟨_, rfl, fun h0 => ⟨grown T1 w1 w2, _, hE w1 T1 w2 h1 h8, ?_, hB k hk D1 h3, h9, fun k hk => ?_, ?_⟩, fun h0 => ?_⟩
   · obtain ⟨bx, bm, col, pv, rfl, h7⟩ := h7
     exact DRep.tight ⟨bx, bm, col, pv, rfl, h7⟩
   · rcases hk.1 with h | h
     · exact h5 k h
     · exact .inr (by omega)
   · rw [h6, hd, seqAll, seqG, if_neg (by rw [h0]; decide)]
   · have he : seqAll ops D = (ops[k]'(by omega)) D1 := by rw [h6, hd, seqAll, seqG, if_pos h0]
     rw [he]
     obtain ⟨bx, bm, col, pv, rfl, h7⟩ := h7
     exact ⟨rfl, ⟨bx, bm, col, pv, rfl, h7.mono (fun k hk => by rcases hk with h | h; exact h5 k h; exact .inr (by omega))⟩, h9⟩
 · rintro w1 ⟨T1, D1, h1, h2, h3, h4, h5, h6⟩
   have he : seqAll ops D = (D1, 0) := by rw [h6, ← hlen, List.drop_length]; rfl
   rw [he]
   obtain ⟨bx, bm, col, pv, rfl, h2⟩ := h2
   exact ⟨rfl, ⟨bx, bm, col, pv, rfl, h2.mono h5⟩, h4⟩
set_option maxHeartbeats 2000000 in
theorem wipe_any (x : Value) (D : DS) (S : Nat → Prop) (va : Option Addr) (vc : Nat) (ss : List ByteArray) (w : World) (h : DRep w x D S) (hS : ∀ k, S k → k < w.heap.size) (hr : Reads w (.slice va ss.length vc) ss.length 1 (strsV ss)) (hn : ∀ ad, va = some ad → ¬ S ad.block) (hl : ss.length ≤ 100000)
   {s n : Nat} (hb : Bnd D s n) (hs : s ≤ 100000) :
   Calls Tryz.prog 83 #[x, .slice va ss.length vc] w (DPost w x S (wipeG doP D ss)) := by
 have HD := Lib.hid h
 have HSS := Lib.hid hS
 have HR := Lib.hid hr
 have HN := Lib.hid hn
 have HBN := Lib.hid hb
 obtain ⟨bx, bm, col, pv, rfl, -⟩ := h
 obtain ⟨RR, hRR⟩ : ∃ r, r = wipeG doP D ss := ⟨_, rfl⟩
 have HRR : Hid (RR = wipeG doP D (ss.drop 0)) := hRR
 rw [← hRR]
 clear hS hr hn hb hRR
 go_enter Tryz.func83, Tryz.ntmps83
 go_wp2_with fail
 go_loopw [12] (fun i w' => ∃ (k : Nat) (D1 : DS) (S1 : Nat → Prop), k ≤ ss.length ∧ i = .int .i64 k ∧ Hid (RR = wipeG doP D1 (ss.drop k)) ∧ Hid (DRep w' (.pointer (some ⟨bx, 0, none⟩)) D1 S1) ∧ Hid (∀ k, S1 k → (S k ∨ w.heap.size ≤ k) ∧ k < w'.heap.size) ∧ Hid (Chg S w w') ∧ Hid (Bnd D1 s n)) (fun i _ => ss.length - (RowKit.intOf i).toNat)
 case atStart => exact ⟨0, D, S, by omega, rfl, HRR, HD, fun k hk => ⟨.inl hk, HSS.out k hk⟩, Chg.refl _ _, HBN⟩
 case round =>
   obtain ⟨k, D1, S1, hk, rfl, HW, HD1, HS1, HC1, HB1⟩ := hrel
   by_cases hlt : k < ss.length
   · have hrk : Reads wr (.slice va ss.length vc) ss.length 1 (strsV ss) := Reads.chg HR.out HC1.out (fun ad had _ => HN.out ad had)
     obtain ⟨b, o, c', hv, hle, hb, hc⟩ := hrk.at (by omega)
     obtain ⟨rfl, rfl⟩ : va = some ⟨b, o, none⟩ ∧ vc = c' := by cases hv; exact ⟨rfl, rfl⟩
     have hck : wr.cell? ⟨b, o + k, none⟩ = some (.string ss[k]) := hc k _ (by simp [hlt])
     have HDR : Hid (ss.drop k = ss[k] :: ss.drop (k + 1)) := List.drop_eq_getElem_cons hlt
     generalize ss[k] = nm at *
     clear hv hc hrk
     have hs1 := HB1.out.sum
     have hpl := HB1.out.plan
     have HRD := Lib.hid (read_any _ nm D1 S1 wr HD1.out (by omega))
     obtain ⟨rl, hrl⟩ : ∃ l, l = (readD D1 nm).1 := ⟨_, rfl⟩
     obtain ⟨cd, hcd⟩ : ∃ l, l = (readD D1 nm).2 := ⟨_, rfl⟩
     have HCD := Lib.hid hcd
     rw [← hrl, ← hcd] at HRD
     clear hrl hcd
     go_wp2_with fail
     refine HRD.out.mono ?_
     rintro e w3 ⟨v3, rfl, -, hb3⟩
     have HC3 : Hid (Chg S w w3) := HC1.out.trans (Chg.ofBelow (S := S) hb3) (fun k hk => .inl hk)
     have HD3 := Lib.hid (HD1.out.frame (fun k hk hlt => hb3.block k hlt))
     have hsz3 := hb3.size
     have HS3 : Hid (∀ k, S1 k → (S k ∨ w.heap.size ≤ k) ∧ k < w3.heap.size) := fun k hk => ⟨(HS1.out k hk).1, by have := (HS1.out k hk).2; omega⟩
     clear hb3 HRD HD1 HC1 HS1
     by_cases hc0 : cd = 0
     · subst hc0
       have HW2 : Hid (RR = seqG (removeD D1 nm) fun D => wipeG doP D (ss.drop (k + 1))) := by
         rw [Hid, HW.out, HDR.out, wipeG, ← HCD.out, if_neg (by decide)]; rfl
       have HRM := Lib.hid (remove_any _ nm D1 S1 w3 HD3.out hpl)
       have HBR := Lib.hid (bnd_remove HB1.out nm)
       generalize removeD D1 nm = rr at *
       go_wp2_with fail
       refine HRM.out.mono ?_
       rintro e w4 ⟨rfl, hd4, hc4⟩
       have HC4 : Hid (Chg S w w4) := HC3.out.trans hc4 (fun k hk => (HS3.out k hk).1)
       have hsz4 := hc4.size
       have hsw := HC3.out.size
       have HD4 := Lib.hid (DRep.tight hd4)
       have HS4 : Hid (∀ k, ((S1 k ∨ w3.heap.size ≤ k) ∧ k < w4.heap.size) → (S k ∨ w.heap.size ≤ k) ∧ k < w4.heap.size) := fun k hk => ⟨by rcases hk.1 with h | h; exact (HS3.out k h).1; exact .inr (by omega), hk.2⟩
       clear hd4 hc4 HRM
       obtain ⟨D2, c2⟩ := rr
       simp only at *
       by_cases hc2 : c2 = 0
       · subst hc2
         have HW3 : Hid (RR = wipeG doP D2 (ss.drop (k + 1))) := by rw [Hid, HW2.out, seqG, if_neg (by simp)]
         go_wp2
         go_roundw
         case rel => exact ⟨k + 1, D2, _, by omega, by go_num, HW3, HD4, HS4, HC4, HBR⟩
         case measure => simp [RowKit.intOf]; omega
       · have HW3 : Hid (RR = (D2, c2)) := by rw [Hid, HW2.out, seqG, if_pos hc2]
         have hb : (c2 == 0) = false := by simpa using hc2
         have hb2 : (c2 != 0) = true := by simpa using hc2
         go_wp2
         go_ret
         rw [HW3.out]
         obtain ⟨bx', bm', col', pv', he, hd⟩ := HD4.out
         exact ⟨rfl, ⟨bx', bm', col', pv', he, hd.mono (fun k hk => (HS4.out k hk).1)⟩, HC4.out⟩
     · have HW2 : Hid (RR = wipeG doP D1 (ss.drop (k + 1))) := by
         rw [Hid, HW.out, HDR.out, wipeG, ← HCD.out, if_pos hc0]
       have hb : (cd == 0) = false := by simpa using hc0
       have hb2 : (cd != 0) = true := by simpa using hc0
       go_wp2
       go_roundw
       case rel => exact ⟨k + 1, D1, S1, by omega, by go_num, HW2, HD3, HS3, HC3, HB1⟩
       case measure => simp [RowKit.intOf]; omega
   · obtain rfl : k = ss.length := by omega
     have HW2 : Hid (RR = (D1, 0)) := by rw [Hid, HW.out, List.drop_length]; rfl
     go_wp2
     go_ret
     rw [HW2.out]
     obtain ⟨bx', bm', col', pv', he, hd⟩ := HD1.out
     exact ⟨rfl, ⟨bx', bm', col', pv', he, hd.mono (fun k hk => (HS1.out k hk).1)⟩, HC1.out⟩
structure Env (x : Value) (bd bf bn pf : Nat) (f : FR) (nm : ByteArray) (oa : Option Addr) (oc : Nat) (rv : Value) (fa : Option Addr) (fc : Nat) (w : World) (T : Nat → Prop) : Prop where
 bkd : w.heap[bd]? = some (.cells #[x] 26 (0, 0)) ∧ ¬ T bd
 bkf : w.heap[bf]? = some (.cells #[.pointer (some ⟨pf, 0, none⟩)] 129 (0, 0)) ∧ ¬ T bf
 bkn : w.heap[bn]? = some (.cells #[.string nm] 9 (0, 0)) ∧ ¬ T bn
 bko : w.heap[pf]? = some (.cells #[.slice oa f.older.length oc, .int .i64 f.last, rv, .slice fa f.front.length fc, .int .i64 f.torn] 133 (0, 0)) ∧ ¬ T pf
 old : Reads w (.slice oa f.older.length oc) f.older.length 1 (ints f.older) ∧ ∀ ad, oa = some ad → ¬ T ad.block ∧ ad.block < w.heap.size
 fr : Reads w (.slice fa f.front.length fc) f.front.length 1 (byts f.front) ∧ ∀ ad, fa = some ad → ¬ T ad.block ∧ ad.block < w.heap.size
 tab : ∀ w', Chg T w w' → Tab w'
 tt : ∀ k, T k → k < w.heap.size
section
variable {x : Value} {bd bf bn pf : Nat} {f : FR} {nm : ByteArray} {oa : Option Addr} {oc : Nat} {rv : Value} {fa : Option Addr} {fc : Nat} {w : World} {T : Nat → Prop}
theorem keep_blk {b : Nat} {o : Obj} {w' : World} (h : w.heap[b]? = some o ∧ ¬ T b) (hc : Chg T w w') : w'.heap[b]? = some o ∧ ¬ grown T w w' b := by
 have hlt := lt_of_heap h.1
 exact ⟨hc.heap h.1 h.2, fun hg => by rcases hg.1 with h1 | h1; exact h.2 h1; omega⟩
theorem Env.step (h : Env x bd bf bn pf f nm oa oc rv fa fc w T) {w' : World} (hc : Chg T w w') : Env x bd bf bn pf f nm oa oc rv fa fc w' (grown T w w') where
 bkd := keep_blk h.bkd hc
 bkf := keep_blk h.bkf hc
 bkn := keep_blk h.bkn hc
 bko := keep_blk h.bko hc
 old := ⟨Reads.chg h.old.1 hc (fun ad had _ => (h.old.2 ad had).1), fun ad had => by
   have h1 := h.old.2 ad had
   have h2 := hc.size
   exact ⟨fun hg => by rcases hg.1 with h3 | h3; exact h1.1 h3; omega, by omega⟩⟩
 fr := ⟨Reads.chg h.fr.1 hc (fun ad had _ => (h.fr.2 ad had).1), fun ad had => by
   have h1 := h.fr.2 ad had
   have h2 := hc.size
   exact ⟨fun hg => by rcases hg.1 with h3 | h3; exact h1.1 h3; omega, by omega⟩⟩
 tab := fun w2 h2 => h.tab w2 (hc.trans h2 (fun k hk => hk.1))
 tt := fun k hk => hk.2
theorem Env.later (h : Env x bd bf bn pf f nm oa oc rv fa fc w T) {w' : World} (hb : Below w.heap.size w w') : Env x bd bf bn pf f nm oa oc rv fa fc w' T where
 bkd := ⟨(hb.block _ (lt_of_heap h.bkd.1)).trans h.bkd.1, h.bkd.2⟩
 bkf := ⟨(hb.block _ (lt_of_heap h.bkf.1)).trans h.bkf.1, h.bkf.2⟩
 bkn := ⟨(hb.block _ (lt_of_heap h.bkn.1)).trans h.bkn.1, h.bkn.2⟩
 bko := ⟨(hb.block _ (lt_of_heap h.bko.1)).trans h.bko.1, h.bko.2⟩
 old := ⟨h.old.1.later hb, fun ad had => ⟨(h.old.2 ad had).1, by have := (h.old.2 ad had).2; have := hb.size; omega⟩⟩
 fr := ⟨h.fr.1.later hb, fun ad had => ⟨(h.fr.2 ad had).1, by have := (h.fr.2 ad had).2; have := hb.size; omega⟩⟩
 tab := fun w2 h2 => h.tab w2 ((Chg.ofBelow (S := T) hb).trans h2 (fun k hk => .inl hk))
 tt := fun k hk => by have := h.tt k hk; have := hb.size; omega
variable (h : Env x bd bf bn pf f nm oa oc rv fa fc w T) {D : DS} (hd : DRep w x D T) (hp : 0 ≤ D.plan ∧ D.plan ≤ 9223372036854775807)
include h hd hp
set_option maxHeartbeats 1000000 in
theorem op11_any : Calls Tryz.prog 77 #[.pointer (some ⟨bd, 0, none⟩)] w (DPost w x T (createD D cutNm)) := by
 have hx := cellAt h.bkd.1 0 rfl
 have HC := Lib.hid (create_any x cutNm D T w hd hp)
 obtain ⟨bx, bm, col, pv, rfl, -⟩ := hd
 unfold cutNm at *
 generalize createD D ⟨#[99, 117, 116]⟩ = r at *
 clear h hp
 go_enter Tryz.func77, Tryz.ntmps77
 go_wp2_with fail
 refine HC.out.mono ?_
 rintro e w2 ⟨rfl, h1, h2⟩
 have H1 := Lib.hid h1
 have H2 := Lib.hid h2
 clear h1 h2 HC
 go_wp2
 go_ret
 exact ⟨rfl, H1.out, H2.out⟩
set_option maxHeartbeats 1000000 in
theorem op13_any : Calls Tryz.prog 79 #[.pointer (some ⟨bd, 0, none⟩)] w (DPost w x T (syncD D cutNm)) := by
 have hx := cellAt h.bkd.1 0 rfl
 have HC := Lib.hid (sync_any x cutNm D T w hd hp)
 obtain ⟨bx, bm, col, pv, rfl, -⟩ := hd
 unfold cutNm at *
 generalize syncD D ⟨#[99, 117, 116]⟩ = r at *
 clear h hp
 go_enter Tryz.func79, Tryz.ntmps79
 go_wp2_with fail
 refine HC.out.mono ?_
 rintro e w2 ⟨rfl, h1, h2⟩
 have H1 := Lib.hid h1
 have H2 := Lib.hid h2
 clear h1 h2 HC
 go_wp2
 go_ret
 exact ⟨rfl, H1.out, H2.out⟩
set_option maxHeartbeats 1000000 in
theorem op14_any : Calls Tryz.prog 80 #[.pointer (some ⟨bd, 0, none⟩), .pointer (some ⟨bn, 0, none⟩)] w (DPost w x T (renameD D cutNm nm)) := by
 have hx := cellAt h.bkd.1 0 rfl
 have hy := cellAt h.bkn.1 0 rfl
 have HC := Lib.hid (rename_any x cutNm nm D T w hd hp)
 obtain ⟨bx, bm, col, pv, rfl, -⟩ := hd
 unfold cutNm at *
 generalize renameD D ⟨#[99, 117, 116]⟩ nm = r at *
 clear h hp
 go_enter Tryz.func80, Tryz.ntmps80
 go_wp2_with fail
 refine HC.out.mono ?_
 rintro e w2 ⟨rfl, h1, h2⟩
 have H1 := Lib.hid h1
 have H2 := Lib.hid h2
 clear h1 h2 HC
 go_wp2
 go_ret
 exact ⟨rfl, H1.out, H2.out⟩
set_option maxHeartbeats 1000000 in
theorem op31_any : Calls Tryz.prog 85 #[.pointer (some ⟨bd, 0, none⟩), .pointer (some ⟨bn, 0, none⟩)] w (DPost w x T (syncD D nm)) := by
 have hx := cellAt h.bkd.1 0 rfl
 have hy := cellAt h.bkn.1 0 rfl
 have HC := Lib.hid (sync_any x nm D T w hd hp)
 obtain ⟨bx, bm, col, pv, rfl, -⟩ := hd
 generalize syncD D nm = r at *
 clear h hp
 go_enter Tryz.func85, Tryz.ntmps85
 go_wp2_with fail
 refine HC.out.mono ?_
 rintro e w2 ⟨rfl, h1, h2⟩
 have H1 := Lib.hid h1
 have H2 := Lib.hid h2
 clear h1 h2 HC
 go_wp2
 go_ret
 exact ⟨rfl, H1.out, H2.out⟩
set_option maxHeartbeats 1000000 in
theorem op12_any (hs : sumD D.files ≤ 100000) (hfl : f.front.length ≤ 100000) : Calls Tryz.prog 78 #[.pointer (some ⟨bd, 0, none⟩), .pointer (some ⟨bf, 0, none⟩)] w (DPost w x T (appendD D cutNm f.front)) := by
 have hx := cellAt h.bkd.1 0 rfl
 have hy := cellAt h.bkf.1 0 rfl
 have hz := cellAt h.bko.1 3 rfl
 have HC : Hid (∀ w', Hid (Below w.heap.size w w') → Calls Tryz.prog 72 #[x, .string cutNm, .slice fa f.front.length fc] w' (DPost w x T (appendD D cutNm f.front))) := fun w' hb => by
   have hd' := DRep.tight hd
   refine (append_any x cutNm f.front fa fc D _ w' (hd'.frame (fun k hk _ => hb.out.block k hk.2)) hp (by omega) (by omega) (h.fr.1.later hb.out) (fun ad had _ hT => (h.fr.2 ad had).1 hT.1)).mono (fun e w2 he => ?_)
   obtain ⟨he, h1, h2⟩ := he
   have hsz := hb.out.size
   exact ⟨he, h1.mono (fun k hk => by rcases hk with hk | hk; exact .inl hk.1; exact .inr (by omega)), (Chg.ofBelow (S := T) hb.out).trans h2 (fun k hk => .inl hk.1)⟩
 have HB0 : Hid (Below w.heap.size w w.drew) := (Below.refl _ _).drew
 have HK : Hid (∀ w', Hid (Below w.heap.size w w') → w'.cell? ⟨bd, 0, none⟩ = some x ∧ w'.cell? ⟨bf, 0, none⟩ = some (.pointer (some ⟨pf, 0, none⟩)) ∧ w'.cell? ⟨pf, 3, none⟩ = some (.slice fa f.front.length fc)) := fun w' hb => by
   have h2 := h.later hb.out
   exact ⟨cellAt h2.bkd.1 0 rfl, cellAt h2.bkf.1 0 rfl, cellAt h2.bko.1 3 rfl⟩
 have HK2 : Hid (∀ w', Hid (Chg T w w') → w'.cell? ⟨bd, 0, none⟩ = some x ∧ w'.cell? ⟨bf, 0, none⟩ = some (.pointer (some ⟨pf, 0, none⟩)) ∧ w'.cell? ⟨pf, 3, none⟩ = some (.slice fa f.front.length fc)) := fun w' hc => by
   have h2 := h.step hc.out
   exact ⟨cellAt h2.bkd.1 0 rfl, cellAt h2.bkf.1 0 rfl, cellAt h2.bko.1 3 rfl⟩
 obtain ⟨bx, bm, col, pv, rfl, -⟩ := hd
 unfold cutNm at *
 generalize appendD D ⟨#[99, 117, 116]⟩ f.front = r at *
 clear h hp
 go_enter Tryz.func78, Tryz.ntmps78
 go_upto_region 1 with fail
 go_region_held3 (fun w' => w'.cell? ⟨bd, 0, none⟩ = some (.pointer (some ⟨bx, 0, none⟩)) ∧ w'.cell? ⟨bf, 0, none⟩ = some (.pointer (some ⟨pf, 0, none⟩)) ∧ w'.cell? ⟨pf, 3, none⟩ = some (.slice fa f.front.length fc)) (first | exact HK.out _ (by assumption) | exact HK2.out _ (by assumption))
   (first
   | (go_at_call 72; refine (HC.out _ (by assumption)).mono ?_; rintro e w3 ⟨rfl, hd3, hc3⟩
      have HD3 := Lib.hid hd3
      have HC3 := Lib.hid hc3
      clear hd3 hc3))
 all_goals
   go_wp2
   go_ret
   exact ⟨rfl, HD3.out, HC3.out⟩
end
theorem cut_steps (nm : ByteArray) (front : List UInt8) (D : DS) : seqAll [fun D => createD D cutNm, fun D => appendD D cutNm front, fun D => syncD D cutNm, fun D => renameD D cutNm nm] D = stepsG doP D [⟨1, cutNm, ⟨#[]⟩, []⟩, ⟨2, cutNm, ⟨#[]⟩, front⟩, ⟨3, cutNm, ⟨#[]⟩, []⟩, ⟨4, cutNm, nm, []⟩] := rfl
def repairN (nm : ByteArray) (f : FR) (D : DS) : DS × Int := if f.torn = 0 then (D, 0) else stepsG doP D [⟨1, cutNm, ⟨#[]⟩, []⟩, ⟨2, cutNm, ⟨#[]⟩, f.front⟩, ⟨3, cutNm, ⟨#[]⟩, []⟩, ⟨4, cutNm, nm, []⟩]
section
variable {x : Value} {bd bf bn pf : Nat} {f : FR} {nm : ByteArray} {oa : Option Addr} {oc : Nat} {rv : Value} {fa : Option Addr} {fc : Nat} {w : World} {T : Nat → Prop}
variable (h : Env x bd bf bn pf f nm oa oc rv fa fc w T) {D : DS} (hd : DRep w x D T) {s n : Nat} (hb : Bnd D s n) (hs : s + f.front.length ≤ 100000)
include h hd hb hs
set_option maxHeartbeats 2000000 in
theorem op1_any (hnm : nm.size ≤ 300) : Calls Tryz.prog 75 #[.pointer (some ⟨bf, 0, none⟩), .pointer (some ⟨bd, 0, none⟩), .pointer (some ⟨bn, 0, none⟩)] w (DPost w x T (repairN nm f D)) := by
 have HE := Lib.hid h
 have HD := Lib.hid hd
 have HBN := Lib.hid hb
 have hy := cellAt h.bkf.1 0 rfl
 have hz := cellAt h.bko.1 4 rfl
 have htt := h.tt
 have HTT := Lib.hid htt
 have hmf : ∀ fn first cap w, (Instr.makeFunc fn first cap).run Tryz.prog w = .ok (.func fn first cap) w := fun _ _ _ _ => rfl
 obtain ⟨bx, bm, col, pv, rfl, -⟩ := hd
 clear h hb htt
 by_cases ht : f.torn = 0
 · have hr : repairN nm f D = (D, 0) := by unfold repairN; rw [if_pos ht]
   rw [hr]
   rw [ht] at hz
   go_enter Tryz.func75, Tryz.ntmps75
   go_wp2
   go_ret
   exact ⟨rfl, HD.out.mono (fun k hk => .inl hk), Chg.refl _ _⟩
 · have hr : repairN nm f D = seqAll [fun D => createD D cutNm, fun D => appendD D cutNm f.front, fun D => syncD D cutNm, fun D => renameD D cutNm nm] D := by unfold repairN; rw [if_neg ht, cut_steps]
   rw [hr]
   have ht0 : ((f.torn : Int) == 0) = false := by simpa using ht
   have htp : 0 < f.torn := by omega
   have HFS : Hid ((w.alloc (.cells #[.func (.func 77) #[] #[.pointer (some ⟨bd, 0, none⟩)], .func (.func 78) #[] #[.pointer (some ⟨bd, 0, none⟩), .pointer (some ⟨bf, 0, none⟩)], .func (.func 79) #[] #[.pointer (some ⟨bd, 0, none⟩)], .func (.func 80) #[] #[.pointer (some ⟨bd, 0, none⟩), .pointer (some ⟨bn, 0, none⟩)]] 77)).heap[w.heap.size]? = some (.cells #[.func (.func 77) #[] #[.pointer (some ⟨bd, 0, none⟩)], .func (.func 78) #[] #[.pointer (some ⟨bd, 0, none⟩), .pointer (some ⟨bf, 0, none⟩)], .func (.func 79) #[] #[.pointer (some ⟨bd, 0, none⟩)], .func (.func 80) #[] #[.pointer (some ⟨bd, 0, none⟩), .pointer (some ⟨bn, 0, none⟩)]] 77 (0, 0))) := heap_alloc_new _ _
   have HBE : Hid (Below w.heap.size w (w.alloc (.cells #[.func (.func 77) #[] #[.pointer (some ⟨bd, 0, none⟩)], .func (.func 78) #[] #[.pointer (some ⟨bd, 0, none⟩), .pointer (some ⟨bf, 0, none⟩)], .func (.func 79) #[] #[.pointer (some ⟨bd, 0, none⟩)], .func (.func 80) #[] #[.pointer (some ⟨bd, 0, none⟩), .pointer (some ⟨bn, 0, none⟩)]] 77))) := (Below.refl _ _).alloc (Nat.le_refl _) _
   go_enter Tryz.func75, Tryz.ntmps75
   go_wp2_with fail
   generalize w.alloc (.cells #[.func (.func 77) #[] #[.pointer (some ⟨bd, 0, none⟩)], .func (.func 78) #[] #[.pointer (some ⟨bd, 0, none⟩), .pointer (some ⟨bf, 0, none⟩)], .func (.func 79) #[] #[.pointer (some ⟨bd, 0, none⟩)], .func (.func 80) #[] #[.pointer (some ⟨bd, 0, none⟩), .pointer (some ⟨bn, 0, none⟩)]] 77) = wt at *
   have HCALL : Hid (Calls Tryz.prog 76 #[.slice (some ⟨w.heap.size, 0, none⟩) 4 4] wt (DPost wt (.pointer (some ⟨bx, 0, none⟩)) T (seqAll [fun D => createD D cutNm, fun D => appendD D cutNm f.front, fun D => syncD D cutNm, fun D => renameD D cutNm nm] D))) := by
     refine tryops_any (.pointer (some ⟨bx, 0, none⟩)) (fun w1 T1 => Env (.pointer (some ⟨bx, 0, none⟩)) bd bf bn pf f nm oa oc rv fa fc w1 T1 ∧ (w1.heap[w.heap.size]? = some (.cells #[.func (.func 77) #[] #[.pointer (some ⟨bd, 0, none⟩)], .func (.func 78) #[] #[.pointer (some ⟨bd, 0, none⟩), .pointer (some ⟨bf, 0, none⟩)], .func (.func 79) #[] #[.pointer (some ⟨bd, 0, none⟩)], .func (.func 80) #[] #[.pointer (some ⟨bd, 0, none⟩), .pointer (some ⟨bn, 0, none⟩)]] 77 (0, 0)) ∧ ¬ T1 w.heap.size))
       (fun w1 T1 w2 h1 hc => ⟨h1.1.step hc, keep_blk h1.2 hc⟩)
       [(77, #[.pointer (some ⟨bd, 0, none⟩)]), (78, #[.pointer (some ⟨bd, 0, none⟩), .pointer (some ⟨bf, 0, none⟩)]), (79, #[.pointer (some ⟨bd, 0, none⟩)]), (80, #[.pointer (some ⟨bd, 0, none⟩), .pointer (some ⟨bn, 0, none⟩)])]
       _ rfl (by simp) ?eg w.heap.size ?hb (fun k D => Bnd D (if k < 2 then s else s + f.front.length) (n + k)) ?hS ?hB wt T D ⟨HE.out.later HBE.out, HFS.out, fun e => by have := HTT.out _ e; omega⟩ (HD.out.frame (fun k hk hl => HBE.out.block k hl)) (fun k hk => by have := HTT.out k hk; have := HBE.out.size; omega) HBN.out
     case eg =>
       intro f hf
       simp only [List.mem_cons, List.not_mem_nil, or_false] at hf
       rcases hf with rfl | rfl | rfl | rfl
       · exact enters_of Tryz.func77 (by kernel_rfl) rfl
       · exact enters_of Tryz.func78 (by kernel_rfl) rfl
       · exact enters_of Tryz.func79 (by kernel_rfl) rfl
       · exact enters_of Tryz.func80 (by kernel_rfl) rfl
     case hb =>
       rintro w1 T1 ⟨-, h2, -⟩ j hlt
       refine cellAt h2 j ?_
       match j, hlt with
       | 0, _ => rfl
       | 1, _ => rfl
       | 2, _ => rfl
       | 3, _ => rfl
     case hS =>
       intro k hk w1 T1 D1 h1 h2 h3
       match k, hk, h3 with
       | 0, _, h3 => exact op11_any h1.1 h2 h3.plan
       | 1, _, h3 => exact op12_any h1.1 h2 h3.plan (by have := h3.sum; simp at this; omega) (by omega)
       | 2, _, h3 => exact op13_any h1.1 h2 h3.plan
       | 3, _, h3 => exact op14_any h1.1 h2 h3.plan
     case hB =>
       intro k hk D1 h3
       match k, hk, h3 with
       | 0, _, h3 => exact bnd_create h3 cutNm (by decide)
       | 1, _, h3 => exact (bnd_append h3 cutNm f.front).more (by simp) (by omega)
       | 2, _, h3 => exact (bnd_sync h3 cutNm).more (by simp) (by omega)
       | 3, _, h3 => exact (bnd_rename h3 cutNm nm hnm).more (by simp) (by omega)
   refine HCALL.out.mono ?_
   rintro e w2 ⟨rfl, h1, h2⟩
   have H1 := Lib.hid h1
   have H2 := Lib.hid h2
   have hsz := HBE.out.size
   clear h1 h2 HCALL
   go_wp2
   go_ret
   exact ⟨rfl, H1.out.mono (fun k hk => by rcases hk with hk | hk; exact .inl hk; exact .inr (by omega)), (Chg.ofBelow (S := T) HBE.out).trans H2.out (fun k hk => .inl hk)⟩
end
theorem bnd_wipe (ss : List ByteArray) {D : DS} {s n : Nat} (h : Bnd D s n) : Bnd (wipeG doP D ss).1 s n := by
 induction ss generalizing D with
 | nil => exact h
 | cons m l ih =>
   rw [wipeG]
   split
   · exact ih h
   · unfold seqG
     split
     · exact bnd_remove h m
     · exact ih (bnd_remove h m)
theorem bnd_seqG {r : DS × Int} {k : DS → DS × Int} {s n : Nat} (h1 : Bnd r.1 s n) (h2 : Bnd (k r.1).1 s n) : Bnd (seqG r k).1 s n := by
 unfold seqG
 split <;> assumption
theorem bnd_repair (nm : ByteArray) (hnm : nm.size ≤ 300) (f : FR) {D : DS} {s n : Nat} (h : Bnd D s n) : Bnd (repairN nm f D).1 (s + f.front.length) (n + 4) := by
 unfold repairN
 split
 · exact h.more (by omega) (by omega)
 · have b1 := bnd_create h cutNm (by decide)
   have b2 := bnd_append b1 cutNm f.front
   have b3 := bnd_sync b2 cutNm
   have b4 := bnd_rename b3 cutNm nm hnm
   have hs : stepsG doP D [⟨1, cutNm, ⟨#[]⟩, []⟩, ⟨2, cutNm, ⟨#[]⟩, f.front⟩, ⟨3, cutNm, ⟨#[]⟩, []⟩, ⟨4, cutNm, nm, []⟩] = seqG (createD D cutNm) fun D => seqG (appendD D cutNm f.front) fun D => seqG (syncD D cutNm) fun D => seqG (renameD D cutNm nm) fun D => (D, 0) := rfl
   rw [hs]
   exact bnd_seqG (b1.more (by omega) (by omega)) (bnd_seqG (b2.more (by omega) (by omega)) (bnd_seqG (b3.more (by omega) (by omega)) (bnd_seqG (b4.more (by omega) (by omega)) (b4.more (by omega) (by omega)))))
section
variable {x : Value} {bd bf bn pf : Nat} {f : FR} {nm : ByteArray} {oa : Option Addr} {oc : Nat} {rv : Value} {fa : Option Addr} {fc : Nat} {w : World} {T : Nat → Prop}
variable (h : Env x bd bf bn pf f nm oa oc rv fa fc w T) {D : DS} (hd : DRep w x D T) {s n : Nat} (hb : Bnd D s n)
include h hd hb
set_option maxHeartbeats 2000000 in
theorem op2_any (hs : s ≤ 100000) (hol : f.older.length ≤ 1000) : Calls Tryz.prog 82 #[.pointer (some ⟨bf, 0, none⟩), .pointer (some ⟨bd, 0, none⟩)] w (DPost w x T (trimG doP f D)) := by
 have HE := Lib.hid h
 have HD := Lib.hid hd
 have HBN := Lib.hid hb
 have hx := cellAt h.bkd.1 0 rfl
 have hy := cellAt h.bkf.1 0 rfl
 have hz := cellAt h.bko.1 0 rfl
 obtain ⟨bx, bm, col, pv, rfl, -⟩ := hd
 unfold trimG
 clear h hb
 go_enter Tryz.func82, Tryz.ntmps82
 go_wp2_with fail
 go_loopw [3, 13] (fun out i w' => ∃ m : Nat, m ≤ f.older.length ∧ i = .int .i64 m ∧ Hid (Row w' 9 1 out m (strsV ((f.older.take m).map nameI)) (fun k => w.heap.size ≤ k)) ∧ Hid (Below w.heap.size w w')) (fun _ i _ => f.older.length - (RowKit.intOf i).toNat)
 case atStart => exact ⟨0, by omega, rfl, Row.nil _ _ _ _, Below.refl _ _⟩
 case round =>
   obtain ⟨m, hm, rfl, HO, HB⟩ := hrel
   have HEB := Lib.hid (HE.out.later HB.out)
   by_cases hlt : m < f.older.length
   · obtain ⟨b, o, c', hv, hle, hb, hc⟩ := HEB.out.old.1.at (by omega)
     obtain ⟨rfl, rfl⟩ : oa = some ⟨b, o, none⟩ ∧ oc = c' := by cases hv; exact ⟨rfl, rfl⟩
     have hcm : wr.cell? ⟨b, o + m, none⟩ = some (.int .i64 f.older[m]) := hc m _ (by simp [hlt])
     have HS : Hid (strsV ((f.older.take (m + 1)).map nameI) = strsV ((f.older.take m).map nameI) ++ [.string (nameI f.older[m])]) := by rw [Hid, List.take_succ_eq_append_getElem hlt, List.map_append]; exact List.map_append ..
     generalize f.older[m] = nn at *
     have hbl := HB.out.size
     clear hv hc
     go_wp2_with fail
     refine (segName_any nn wr (HEB.out.tab wr (Chg.refl _ _))).mono ?_
     rintro e w3 ⟨rfl, hb3⟩
     have HB3 := Lib.hid (HB.out.trans (hb3.mono HB.out.size))
     have HO3 := Lib.hid (HO.out.frame (fun k _ hk => hb3.block k hk))
     have hbl3 := HB3.out.size
     generalize nameI nn = key at *
     clear hb3 HB HO HEB hcm hb
     go_wp2_with (refine wpList_row elemStr rfl rfl (S := fun k => w.heap.size ≤ k) (n := m) (xs := strsV ((f.older.take m).map nameI)) rfl (HO3.out.frame (fun k _ hk => Below.heap_alloc _ _ _ hk)) (y := .slice (some ⟨w3.heap.size, 0, none⟩) 1 1) (m := 1) (news := [.string key]) rfl (reads_one w3 _ _) (one_of rfl) (by unfold maxLen; omega) (by omega) ?_; intro v5 w5 hr5 hch5)
     go_roundw
     case rel =>
       refine ⟨m + 1, by omega, by go_num, ?_, (HB3.out.alloc hbl3 _).trans (hch5.toBelow (by simp <;> omega) (fun n hn h => by omega))⟩
       rw [Hid, HS.out]
       exact hr5.mono (fun k hk => by rcases hk with hk | hk; exact hk; simp only [World.size_alloc] at hk; omega)
     case measure => simp [RowKit.intOf]; omega
   · obtain rfl : m = f.older.length := by omega
     rw [List.take_length] at HO
     have hx2 := cellAt HEB.out.bkd.1 0 rfl
     obtain ⟨na, nc, rfl⟩ := slice_form HO.out
     have hln : f.older.length = (f.older.map nameI).length := by rw [List.length_map]
     have hform := HO.out.2
     have hrd := HO.out.reads
     have hsz := HB.out.size
     have HW : Hid (Calls Tryz.prog 83 #[.pointer (some ⟨bx, 0, none⟩), .slice na f.older.length nc] wr (DPost wr (.pointer (some ⟨bx, 0, none⟩)) T (wipeG doP D (f.older.map nameI)))) := by
       have := wipe_any (.pointer (some ⟨bx, 0, none⟩)) D T na nc (f.older.map nameI) wr (HD.out.frame (fun k hk hl => HB.out.block k hl)) HEB.out.tt (by rw [← hln]; exact hrd) (fun ad had hT => by
         have h1 := HE.out.tt _ hT
         rcases hform with h2 | ⟨g, off, cap, cur, hv, hg, -⟩
         · have h3 := h2.1
           simp only [Value.slice.injEq] at h3
           rw [h3.1] at had; cases had
         · simp only [Value.slice.injEq] at hv
           rw [hv.1] at had; cases had
           have h3 : w.heap.size ≤ g := hg
           have h4 : g < w.heap.size := h1
           omega) (by rw [List.length_map]; omega) HBN.out hs
       rw [← hln] at this
       exact this
     clear hform hrd hln HO
     generalize wipeG doP D (f.older.map nameI) = r at *
     go_wp2_with fail
     refine HW.out.mono ?_
     rintro e w2 ⟨rfl, h1, h2⟩
     have H1 := Lib.hid h1
     have H2 := Lib.hid h2
     clear h1 h2 HW
     go_wp2
     go_ret
     exact ⟨rfl, H1.out.mono (fun k hk => by rcases hk with hk | hk; exact .inl hk; exact .inr (by omega)), (Chg.ofBelow (S := T) HB.out).trans H2.out (fun k hk => .inl hk)⟩
set_option maxHeartbeats 2000000 in
theorem op4_any (hs : s ≤ 100000) : Calls Tryz.prog 86 #[.pointer (some ⟨bd, 0, none⟩)] w (DPost w x T (wipeG doP D [cutNm, newNm])) := by
 have HE := Lib.hid h
 have HD := Lib.hid hd
 have HBN := Lib.hid hb
 have hx := cellAt h.bkd.1 0 rfl
 obtain ⟨bx, bm, col, pv, rfl, -⟩ := hd
 clear h hb
 have HBE : Hid (Below w.heap.size w (w.alloc (.cells #[.string ⟨#[99, 117, 116]⟩, .string ⟨#[110, 101, 119]⟩] 9))) := (Below.refl _ _).alloc (Nat.le_refl _) _
 have HX : Hid ((w.alloc (.cells #[.string ⟨#[99, 117, 116]⟩, .string ⟨#[110, 101, 119]⟩] 9)).heap[w.heap.size]? = some (.cells #[.string ⟨#[99, 117, 116]⟩, .string ⟨#[110, 101, 119]⟩] 9 (0, 0))) := heap_alloc_new _ _
 go_enter Tryz.func86, Tryz.ntmps86
 go_wp2_with fail
 generalize w.alloc (.cells #[.string ⟨#[99, 117, 116]⟩, .string ⟨#[110, 101, 119]⟩] 9) = wt at *
 have hsz := HBE.out.size
 have HW : Hid (Calls Tryz.prog 83 #[.pointer (some ⟨bx, 0, none⟩), .slice (some ⟨w.heap.size, 0, none⟩) 2 2] wt (DPost wt (.pointer (some ⟨bx, 0, none⟩)) T (wipeG doP D [cutNm, newNm]))) :=
   wipe_any (.pointer (some ⟨bx, 0, none⟩)) D T (some ⟨w.heap.size, 0, none⟩) 2 [cutNm, newNm] wt (HD.out.frame (fun k hk hl => HBE.out.block k hl)) (HE.out.later HBE.out).tt (Reads.block HX.out 2 1 rfl) (fun ad had hT => by cases had; have : w.heap.size < w.heap.size := HE.out.tt _ hT; omega) (by simp) HBN.out hs
 generalize wipeG doP D [cutNm, newNm] = r at *
 refine HW.out.mono ?_
 rintro e w2 ⟨rfl, h1, h2⟩
 have H1 := Lib.hid h1
 have H2 := Lib.hid h2
 clear h1 h2 HW
 go_wp2
 go_ret
 exact ⟨rfl, H1.out.mono (fun k hk => by rcases hk with hk | hk; exact .inl hk; exact .inr (by omega)), (Chg.ofBelow (S := T) HBE.out).trans H2.out (fun k hk => .inl hk)⟩
def endN (nm : ByteArray) (f : FR) (D : DS) : DS × Int := if f.last = 0 then createD D nm else seqAll [repairN nm f, trimG doP f, fun D => syncD D nm] D
set_option maxHeartbeats 4000000 in
theorem op3_any {br bt : Nat} (hbr : w.heap[br]? = some (.cells #[.func (.func 75) #[] #[.pointer (some ⟨bf, 0, none⟩), .pointer (some ⟨bd, 0, none⟩), .pointer (some ⟨bn, 0, none⟩)]] 77 (0, 0)) ∧ ¬ T br) (hbt : w.heap[bt]? = some (.cells #[.func (.func 82) #[] #[.pointer (some ⟨bf, 0, none⟩), .pointer (some ⟨bd, 0, none⟩)]] 77 (0, 0)) ∧ ¬ T bt)
   (hs : s + f.front.length ≤ 50000) (hol : f.older.length ≤ 1000) (hnm : nm.size ≤ 300) :
   Calls Tryz.prog 84 #[.pointer (some ⟨bf, 0, none⟩), .pointer (some ⟨bd, 0, none⟩), .pointer (some ⟨bn, 0, none⟩), .pointer (some ⟨br, 0, none⟩), .pointer (some ⟨bt, 0, none⟩)] w (DPost w x T (endN nm f D)) := by
 have HE := Lib.hid h
 have HD := Lib.hid hd
 have HBN := Lib.hid hb
 have hx := cellAt h.bkd.1 0 rfl
 have hy := cellAt h.bkf.1 0 rfl
 have hz := cellAt h.bko.1 1 rfl
 have hw := cellAt h.bkn.1 0 rfl
 have hr := cellAt hbr.1 0 rfl
 have ht := cellAt hbt.1 0 rfl
 have hmf : ∀ fn first cap w, (Instr.makeFunc fn first cap).run Tryz.prog w = .ok (.func fn first cap) w := fun _ _ _ _ => rfl
 by_cases h0 : f.last = 0
 · have he : endN nm f D = createD D nm := by unfold endN; rw [if_pos h0]
   rw [he]
   have HC := Lib.hid (create_any x nm D T w hd hb.plan)
   obtain ⟨bx, bm, col, pv, rfl, -⟩ := hd
   rw [h0] at hz
   generalize createD D nm = r at *
   clear h hb hbr hbt he
   go_enter Tryz.func84, Tryz.ntmps84
   go_wp2_with fail
   refine HC.out.mono ?_
   rintro e w2 ⟨rfl, h1, h2⟩
   have H1 := Lib.hid h1
   have H2 := Lib.hid h2
   clear h1 h2 HC
   go_wp2
   go_ret
   exact ⟨rfl, H1.out, H2.out⟩
 · have he : endN nm f D = seqAll [repairN nm f, trimG doP f, fun D => syncD D nm] D := by unfold endN; rw [if_neg h0]
   rw [he]
   have HBR := Lib.hid hbr
   have HBT := Lib.hid hbt
   have h0b : (f.last == 0) = false := by simpa using h0
   obtain ⟨bx, bm, col, pv, rfl, -⟩ := hd
   clear h hb hbr hbt he
   have HFS : Hid ((w.alloc (.cells #[.func (.func 75) #[] #[.pointer (some ⟨bf, 0, none⟩), .pointer (some ⟨bd, 0, none⟩), .pointer (some ⟨bn, 0, none⟩)], .func (.func 82) #[] #[.pointer (some ⟨bf, 0, none⟩), .pointer (some ⟨bd, 0, none⟩)], .func (.func 85) #[] #[.pointer (some ⟨bd, 0, none⟩), .pointer (some ⟨bn, 0, none⟩)]] 77)).heap[w.heap.size]? = some (.cells #[.func (.func 75) #[] #[.pointer (some ⟨bf, 0, none⟩), .pointer (some ⟨bd, 0, none⟩), .pointer (some ⟨bn, 0, none⟩)], .func (.func 82) #[] #[.pointer (some ⟨bf, 0, none⟩), .pointer (some ⟨bd, 0, none⟩)], .func (.func 85) #[] #[.pointer (some ⟨bd, 0, none⟩), .pointer (some ⟨bn, 0, none⟩)]] 77 (0, 0))) := heap_alloc_new _ _
   have HBE : Hid (Below w.heap.size w (w.alloc (.cells #[.func (.func 75) #[] #[.pointer (some ⟨bf, 0, none⟩), .pointer (some ⟨bd, 0, none⟩), .pointer (some ⟨bn, 0, none⟩)], .func (.func 82) #[] #[.pointer (some ⟨bf, 0, none⟩), .pointer (some ⟨bd, 0, none⟩)], .func (.func 85) #[] #[.pointer (some ⟨bd, 0, none⟩), .pointer (some ⟨bn, 0, none⟩)]] 77))) := (Below.refl _ _).alloc (Nat.le_refl _) _
   go_enter Tryz.func84, Tryz.ntmps84
   go_wp2_with fail
   generalize w.alloc (.cells #[.func (.func 75) #[] #[.pointer (some ⟨bf, 0, none⟩), .pointer (some ⟨bd, 0, none⟩), .pointer (some ⟨bn, 0, none⟩)], .func (.func 82) #[] #[.pointer (some ⟨bf, 0, none⟩), .pointer (some ⟨bd, 0, none⟩)], .func (.func 85) #[] #[.pointer (some ⟨bd, 0, none⟩), .pointer (some ⟨bn, 0, none⟩)]] 77) = wt at *
   have HCALL : Hid (Calls Tryz.prog 76 #[.slice (some ⟨w.heap.size, 0, none⟩) 3 3] wt (DPost wt (.pointer (some ⟨bx, 0, none⟩)) T (seqAll [repairN nm f, trimG doP f, fun D => syncD D nm] D))) := by
     refine tryops_any (.pointer (some ⟨bx, 0, none⟩)) (fun w1 T1 => Env (.pointer (some ⟨bx, 0, none⟩)) bd bf bn pf f nm oa oc rv fa fc w1 T1 ∧ (w1.heap[w.heap.size]? = some (.cells #[.func (.func 75) #[] #[.pointer (some ⟨bf, 0, none⟩), .pointer (some ⟨bd, 0, none⟩), .pointer (some ⟨bn, 0, none⟩)], .func (.func 82) #[] #[.pointer (some ⟨bf, 0, none⟩), .pointer (some ⟨bd, 0, none⟩)], .func (.func 85) #[] #[.pointer (some ⟨bd, 0, none⟩), .pointer (some ⟨bn, 0, none⟩)]] 77 (0, 0)) ∧ ¬ T1 w.heap.size))
       (fun w1 T1 w2 h1 hc => ⟨h1.1.step hc, keep_blk h1.2 hc⟩)
       [(75, #[.pointer (some ⟨bf, 0, none⟩), .pointer (some ⟨bd, 0, none⟩), .pointer (some ⟨bn, 0, none⟩)]), (82, #[.pointer (some ⟨bf, 0, none⟩), .pointer (some ⟨bd, 0, none⟩)]), (85, #[.pointer (some ⟨bd, 0, none⟩), .pointer (some ⟨bn, 0, none⟩)])]
       _ rfl (by simp) ?eg w.heap.size ?hb (fun k D => Bnd D (if k < 1 then s else s + f.front.length) (n + 4 * k)) ?hS ?hB wt T D ⟨HE.out.later HBE.out, HFS.out, fun e => by have := HE.out.tt _ e; omega⟩ (HD.out.frame (fun k hk hl => HBE.out.block k hl)) (fun k hk => by have := HE.out.tt k hk; have := HBE.out.size; omega) HBN.out
     case eg =>
       intro f hf
       simp only [List.mem_cons, List.not_mem_nil, or_false] at hf
       rcases hf with rfl | rfl | rfl
       · exact enters_of Tryz.func75 (by kernel_rfl) rfl
       · exact enters_of Tryz.func82 (by kernel_rfl) rfl
       · exact enters_of Tryz.func85 (by kernel_rfl) rfl
     case hb =>
       rintro w1 T1 ⟨-, h2, -⟩ j hlt
       refine cellAt h2 j ?_
       match j, hlt with
       | 0, _ => rfl
       | 1, _ => rfl
       | 2, _ => rfl
     case hS =>
       intro k hk w1 T1 D1 h1 h2 h3
       match k, hk, h3 with
       | 0, _, h3 => exact op1_any h1.1 h2 h3 (by simp; omega) hnm
       | 1, _, h3 => exact op2_any h1.1 h2 h3 (by simp; omega) hol
       | 2, _, h3 => exact op31_any h1.1 h2 h3.plan
     case hB =>
       intro k hk D1 h3
       match k, hk, h3 with
       | 0, _, h3 => exact bnd_repair nm hnm f h3
       | 1, _, h3 => exact (bnd_wipe _ h3).more (by simp) (by omega)
       | 2, _, h3 => exact (bnd_sync h3 nm).more (by simp) (by omega)
   refine HCALL.out.mono ?_
   rintro e w2 ⟨rfl, h1, h2⟩
   have H1 := Lib.hid h1
   have H2 := Lib.hid h2
   have hsz := HBE.out.size
   clear h1 h2 HCALL
   go_wp2
   go_ret
   exact ⟨rfl, H1.out.mono (fun k hk => by rcases hk with hk | hk; exact .inl hk; exact .inr (by omega)), (Chg.ofBelow (S := T) HBE.out).trans H2.out (fun k hk => .inl hk)⟩
end
end Go.Proofs.YtgdmdbdljmlkkaaGreatDoor
