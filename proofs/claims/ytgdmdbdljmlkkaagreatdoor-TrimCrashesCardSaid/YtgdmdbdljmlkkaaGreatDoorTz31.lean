/- TrimE, FindD, ScAgainL, ScBegL -/
import Derived.Test.YtgdmdbdljmlkkaaGreatDoorTz30
set_option maxRecDepth 100000
set_option linter.unusedVariables false
set_option linter.unusedSimpArgs false
namespace Go.Proofs.YtgdmdbdljmlkkaaGreatDoor
open Go.RowKit
def compK (O : DoT) (b : List UInt8) (next : Int) : Nat → DS → DS × Int
 | 0 => fun D => seqG (cleanG O D newNm) fun D => seqG (O D ⟨1, newNm, ⟨#[]⟩, []⟩) fun D => seqG (O D ⟨2, newNm, ⟨#[]⟩, b⟩) fun D => seqG (O D ⟨3, newNm, ⟨#[]⟩, []⟩) fun D => seqG (O D ⟨4, newNm, nameI next, []⟩) fun D => seqG (stepsG O D ((olderL (segsD D) next).map rmO)) fun D => (D, 0)
 | 1 => fun D => seqG (O D ⟨1, newNm, ⟨#[]⟩, []⟩) fun D => seqG (O D ⟨2, newNm, ⟨#[]⟩, b⟩) fun D => seqG (O D ⟨3, newNm, ⟨#[]⟩, []⟩) fun D => seqG (O D ⟨4, newNm, nameI next, []⟩) fun D => seqG (stepsG O D ((olderL (segsD D) next).map rmO)) fun D => (D, 0)
 | 2 => fun D => seqG (O D ⟨2, newNm, ⟨#[]⟩, b⟩) fun D => seqG (O D ⟨3, newNm, ⟨#[]⟩, []⟩) fun D => seqG (O D ⟨4, newNm, nameI next, []⟩) fun D => seqG (stepsG O D ((olderL (segsD D) next).map rmO)) fun D => (D, 0)
 | 3 => fun D => seqG (O D ⟨3, newNm, ⟨#[]⟩, []⟩) fun D => seqG (O D ⟨4, newNm, nameI next, []⟩) fun D => seqG (stepsG O D ((olderL (segsD D) next).map rmO)) fun D => (D, 0)
 | 4 => fun D => seqG (O D ⟨4, newNm, nameI next, []⟩) fun D => seqG (stepsG O D ((olderL (segsD D) next).map rmO)) fun D => (D, 0)
 | 5 => fun D => seqG (stepsG O D ((olderL (segsD D) next).map rmO)) fun D => (D, 0)
 | _ => fun D => (D, 0)
def stepK (b : List UInt8) (next : Int) (k : Nat) (D : DS) : DS × Int :=
 if k = 0 then cleanG doP D newNm else if k = 1 then createD D newNm else if k = 2 then appendD D newNm b else if k = 3 then syncD D newNm else if k = 4 then renameD D newNm (nameI next) else stepsG doP D ((olderL (segsD D) next).map rmO)
theorem compK_step (b : List UInt8) (next : Int) {k : Nat} (h : k < 6) (D : DS) : compK doP b next k D = seqG (stepK b next k D) (compK doP b next (k + 1)) := by
 have : k = 0 ∨ k = 1 ∨ k = 2 ∨ k = 3 ∨ k = 4 ∨ k = 5 := by omega
 rcases this with rfl | rfl | rfl | rfl | rfl | rfl <;> rfl
theorem bnd_rms {s n : Nat} : ∀ (l : List ByteArray) {D : DS}, Bnd D s n → Bnd (stepsG doP D (l.map rmO)).1 s n := by
 intro l
 induction l with
 | nil => intro D h; exact h
 | cons a l ih =>
   intro D h
   have h1 : Bnd (removeD D a).1 s n := bnd_remove h a
   exact bnd_seqG (r := removeD D a) h1 (ih h1)
theorem bnd_stepK {b : List UInt8} {next : Int} {k : Nat} {D : DS} {s n : Nat} (h : Bnd D s n) : Bnd (stepK b next k D).1 (s + (if k = 2 then b.length else 0)) (n + 1) := by
 unfold stepK
 by_cases h0 : k = 0
 · subst h0
   unfold cleanG
   rw [if_pos rfl]
   split
   · have h1 : Bnd (removeD D newNm).1 s n := bnd_remove h newNm
     exact h1.more (by simp) (by omega)
   · exact h.more (by simp) (by omega)
 · rw [if_neg h0]
   by_cases h1 : k = 1
   · subst h1; exact (bnd_create h newNm (by decide)).more (by simp) (by omega)
   · rw [if_neg h1]
     by_cases h2 : k = 2
     · subst h2; exact (bnd_append h newNm b).more (by simp) (by omega)
     · rw [if_neg h2]
       by_cases h3 : k = 3
       · subst h3; exact (bnd_sync h newNm).more (by simp) (by omega)
       · rw [if_neg h3]
         by_cases h4 : k = 4
         · subst h4; exact (bnd_rename h newNm (nameI next) (by have := nameI_size next; omega)).more (by simp) (by omega)
         · rw [if_neg h4, if_neg h2]; exact (bnd_rms _ h).more (by omega) (by omega)
theorem frames_bound (P : List SL) (h : ∀ x ∈ P, x.l.length ≤ 2000) : (framesB (P.map SL.l)).length ≤ 2008 * P.length := by
 induction P with
 | nil => simp [framesB]
 | cons x P ih =>
   have h1 := ih (fun y hy => h y (by simp [hy]))
   have h2 := h x (by simp)
   rw [List.map_cons, framesB_cons, List.length_append, frameB_length, List.length_cons]
   omega
theorem steps6_0 (p : Value) (w : World) : (Instr.index 157 (.agg #[.func (.func 104) #[p] #[], .func (.func 105) #[p] #[], .func (.func 106) #[p] #[], .func (.func 107) #[p] #[], .func (.func 108) #[p] #[], .func (.func 109) #[p] #[]]) (.int .i64 0)).run Tryz.prog w = .ok (.func (.func 104) #[p] #[]) w := by kernel_rfl
theorem steps6_1 (p : Value) (w : World) : (Instr.index 157 (.agg #[.func (.func 104) #[p] #[], .func (.func 105) #[p] #[], .func (.func 106) #[p] #[], .func (.func 107) #[p] #[], .func (.func 108) #[p] #[], .func (.func 109) #[p] #[]]) (.int .i64 1)).run Tryz.prog w = .ok (.func (.func 105) #[p] #[]) w := by kernel_rfl
theorem steps6_2 (p : Value) (w : World) : (Instr.index 157 (.agg #[.func (.func 104) #[p] #[], .func (.func 105) #[p] #[], .func (.func 106) #[p] #[], .func (.func 107) #[p] #[], .func (.func 108) #[p] #[], .func (.func 109) #[p] #[]]) (.int .i64 2)).run Tryz.prog w = .ok (.func (.func 106) #[p] #[]) w := by kernel_rfl
theorem steps6_3 (p : Value) (w : World) : (Instr.index 157 (.agg #[.func (.func 104) #[p] #[], .func (.func 105) #[p] #[], .func (.func 106) #[p] #[], .func (.func 107) #[p] #[], .func (.func 108) #[p] #[], .func (.func 109) #[p] #[]]) (.int .i64 3)).run Tryz.prog w = .ok (.func (.func 107) #[p] #[]) w := by kernel_rfl
theorem steps6_4 (p : Value) (w : World) : (Instr.index 157 (.agg #[.func (.func 104) #[p] #[], .func (.func 105) #[p] #[], .func (.func 106) #[p] #[], .func (.func 107) #[p] #[], .func (.func 108) #[p] #[], .func (.func 109) #[p] #[]]) (.int .i64 4)).run Tryz.prog w = .ok (.func (.func 108) #[p] #[]) w := by kernel_rfl
theorem steps6_5 (p : Value) (w : World) : (Instr.index 157 (.agg #[.func (.func 104) #[p] #[], .func (.func 105) #[p] #[], .func (.func 106) #[p] #[], .func (.func 107) #[p] #[], .func (.func 108) #[p] #[], .func (.func 109) #[p] #[]]) (.int .i64 5)).run Tryz.prog w = .ok (.func (.func 109) #[p] #[]) w := by kernel_rfl
def CompP (w : World) (x : Value) (S : Nat → Prop) (most : Int) (L : LS) (P : List (List UInt8)) (ok : Bool) (r : DS × Int) : Ending → World → Prop := fun e w' =>
 ∃ SS : Nat → Prop, DRep w' x (if ok then r.1 else L.D) SS ∧ (∀ k, SS k → (S k ∨ w.heap.size ≤ k) ∧ k < w'.heap.size) ∧ Chg S w w' ∧
   ((ok = false ∧ e = .returned (.tuple #[.pointer none, .int .i64 2])) ∨ (ok = true ∧ r.2 ≠ 0 ∧ e = .returned (.tuple #[.pointer none, .int .i64 r.2])) ∨
    (ok = true ∧ r.2 = 0 ∧ ∃ bl, e = .returned (.tuple #[.pointer (some ⟨bl, 0, none⟩), .int .i64 0]) ∧
      w'.heap[bl]? = some (.cells #[.int .i64 (L.n + 1), .int .i64 (framesB ([] :: P)).length, .int .i64 0, x, .int .i64 most] 148 (0, 0)) ∧ w.heap.size ≤ bl ∧ ¬ SS bl))
set_option maxHeartbeats 4000000 in
theorem compact_any (bx bl : Nat) (L : LS) (S : Nat → Prop) (most : Int) (a : Option Addr) (c : Nat) (P : List SL) (w : World) (h : LAt w bl (.pointer (some ⟨bx, 0, none⟩)) L S) (hS : ∀ k, S k → k < w.heap.size) (hT : ∀ w', Chg S w w' → Tab w')
   {s n : Nat} (hb : Bnd L.D s n) (hs : s ≤ 200000) (hn : n ≤ 800) (hn0 : 0 ≤ L.n ∧ L.n ≤ 99999) (hP : SLs w (.slice a P.length c) P) (hPl : P.length ≤ 90) (hPe : ∀ x ∈ P, x.l.length ≤ 2000) :
   Calls Tryz.prog 46 #[.pointer (some ⟨bx, 0, none⟩), .pointer (some ⟨bl, 0, none⟩), .int .i64 most, .slice a P.length c] w
     (CompP w (.pointer (some ⟨bx, 0, none⟩)) S most L (P.map SL.l) (P.all fullB) (compK doP (framesB ([] :: P.map SL.l)) (L.n + 1) 0 L.D)) := by
 have H := Lib.hid h
 have HSS := Lib.hid hS
 have HT := Lib.hid hT
 have HBN := Lib.hid hb
 have HP := Lib.hid hP
 have HPE := Lib.hid hPe
 have HSG := Lib.hid (lsegment_any L bl _ S w h)
 obtain ⟨hn00, hn01⟩ := hn0
 have hmf : ∀ fn first cap w, (Instr.makeFunc fn first cap).run Tryz.prog w = .ok (.func fn first cap) w := fun _ _ _ _ => rfl
 obtain ⟨b, hbd⟩ : ∃ b, b = framesB ([] :: P.map SL.l) := ⟨_, rfl⟩
 have hbl0 : b.length ≤ 200000 := by
   have h1 : (framesB ([] :: P.map SL.l)).length = 8 + (framesB (P.map SL.l)).length := by rw [framesB_cons, List.length_append, frameB_length]; rfl
   have h2 := frames_bound P (fun x hx => HPE.out x hx)
   rw [hbd]; omega
 have HBD := Lib.hid hbd
 rw [← hbd]
 obtain ⟨RR, hRR⟩ : ∃ r, r = compK doP b (L.n + 1) 0 L.D := ⟨_, rfl⟩
 have HRR := Lib.hid hRR
 rw [← hRR]
 obtain ⟨ok, hok⟩ : ∃ ok, ok = P.all fullB := ⟨_, rfl⟩
 have HOK := Lib.hid hok
 rw [← hok]
 clear hbd hRR hok
 clear h hS hT hb hP hPe
 go_enter Tryz.func46, Tryz.ntmps46
 go_wp2_with fail
 refine HSG.out.mono ?_
 rintro e w1 ⟨rfl, hw1⟩
 obtain rfl : w = w1 := hw1.symm
 clear hw1 HSG
 have hnx : ¬ 99999999 < L.n + 1 := by omega
 have HB1 : Hid (Below w.heap.size w (w.alloc (.cells #[.pointer (some ⟨bx, 0, none⟩), .slice none 0 0, .int .i64 (L.n + 1)] 154))) := (Below.refl _ _).alloc (Nat.le_refl _) _
 have HX1 : Hid ((w.alloc (.cells #[.pointer (some ⟨bx, 0, none⟩), .slice none 0 0, .int .i64 (L.n + 1)] 154)).heap[w.heap.size]? = some (.cells #[.pointer (some ⟨bx, 0, none⟩), .slice none 0 0, .int .i64 (L.n + 1)] 154 (0, 0))) := heap_alloc_new _ _
 go_upto_region 4 with fail
 generalize w.alloc (.cells #[.pointer (some ⟨bx, 0, none⟩), .slice none 0 0, .int .i64 (L.n + 1)] 154) = wa at *
 have y2 := cellAt HX1.out 2 rfl
 have hct := lcontains_any a c P wa (HP.out.later HB1.out) (by omega)
 rw [← HOK.out] at hct
 have HCT := Lib.hid hct
 clear hct
 go_wp2_with fail
 refine HCT.out.mono ?_
 rintro e w1 ⟨rfl, hw1⟩
 obtain rfl : wa = w1 := hw1
 clear HCT y2
 cases ok with
 | false =>
   go_wp2
   go_ret2
   refine ⟨fun k => S k ∧ k ≠ bl, H.out.dsk.frame (fun k _ hk => HB1.out.block k hk), fun k hk => ⟨.inl hk.1, Nat.lt_of_lt_of_le (HSS.out k hk.1) HB1.out.size⟩, Chg.ofBelow HB1.out, .inl ⟨rfl, rfl⟩⟩
 | true =>
   have HMK := Lib.hid (tmarked_any a c P wa (HP.out.later HB1.out) (by omega))
   go_wp2_with fail
   refine HMK.out.mono ?_
   rintro e w2 ⟨a2, c2, rfl, hsl2, hb2⟩
   have hjn := fjoin_any a2 c2 (⟨.slice none 0 0, []⟩ :: P) w2 hsl2 (by simp; omega) (fun x hx => by
     rcases List.mem_cons.1 hx with rfl | hx
     · simp
     · exact HPE.out x hx)
   rw [List.length_cons, List.map_cons, show framesB (([] : List UInt8) :: P.map SL.l) = b from HBD.out.symm] at hjn
   have HJN := Lib.hid hjn
   have HB2 := Lib.hid (HB1.out.trans (hb2.mono HB1.out.size))
   have HX2 := Lib.hid ((hb2.block _ (lt_of_heap HX1.out)).trans HX1.out)
   clear hsl2 hb2 hjn HMK HX1
   unfold BytesP at HJN
   go_wp2_with fail
   refine HJN.out.mono ?_
   rintro e w3 ⟨⟨fa, fc, rfl, hrow3⟩, hb3⟩
   have HB3 := Lib.hid (HB2.out.trans (hb3.mono HB2.out.size))
   have HX3 := Lib.hid ((hb3.block _ (lt_of_heap HX2.out)).trans HX2.out)
   have HR3 := Lib.hid hrow3
   have hs2 := HB2.out.size
   have hs2' : w.heap.size < w2.heap.size := lt_of_heap HX2.out
   clear hrow3 hb3 HJN HX2
   obtain ⟨y0, y1, y2⟩ := cells3 HX3.out
   have g1 := freeAt HX3.out 1
   go_upto_region 10 with fail
   have HX4 : Hid ((w3.setCell ⟨w.heap.size, 1, none⟩ (.slice fa b.length fc)).heap[w.heap.size]? = some (.cells #[.pointer (some ⟨bx, 0, none⟩), .slice fa b.length fc, .int .i64 (L.n + 1)] 154 (0, 0))) := heap_store HX3.out 1 _
   have HB4 : Hid (Below w.heap.size w (w3.setCell ⟨w.heap.size, 1, none⟩ (.slice fa b.length fc))) := HB3.out.setCell (p := ⟨w.heap.size, 1, none⟩) (Nat.le_refl _) _
   have HR4 : Hid (Row (w3.setCell ⟨w.heap.size, 1, none⟩ (.slice fa b.length fc)) 5 1 (.slice fa b.length fc) b.length (byts b) (fun k => w2.heap.size ≤ k)) := HR3.out.frame (fun k hk _ => Below.heap_setCell _ _ _ _ (fun e => by have e2 : k = w.heap.size := e; omega))
   have HD4 : Hid (DRep (w3.setCell ⟨w.heap.size, 1, none⟩ (.slice fa b.length fc)) (.pointer (some ⟨bx, 0, none⟩)) L.D (fun k => S k ∧ k ≠ bl)) := H.out.dsk.frame (fun k _ hk => HB4.out.block k hk)
   clear y0 y1 y2 g1 HX3 HB3 HR3 HB2 HP HPE
   generalize w3.setCell ⟨w.heap.size, 1, none⟩ (.slice fa b.length fc) = w4 at *
   go_wp2_with fail
   go_loopw [62] (fun i w' => ∃ (k : Nat) (D1 : DS) (S1 : Nat → Prop), k ≤ 6 ∧ i = .int .i64 k ∧ Hid (RR = compK doP b (L.n + 1) k D1) ∧ Hid (DRep w' (.pointer (some ⟨bx, 0, none⟩)) D1 S1) ∧ Hid (∀ j, S1 j → (S j ∨ w4.heap.size ≤ j) ∧ j < w'.heap.size) ∧ Hid (Chg S w4 w') ∧ Hid (Bnd D1 (s + (if k < 3 then 0 else b.length)) (n + k))) (fun i _ => 6 - (RowKit.intOf i).toNat)
   case atStart => exact ⟨0, L.D, _, by omega, rfl, HRR, HD4, fun j hj => ⟨.inl hj.1, Nat.lt_of_lt_of_le (HSS.out j hj.1) HB4.out.size⟩, Chg.refl _ _, by simpa [Hid] using HBN.out⟩
   case round =>
     obtain ⟨k, D1, S1, hk, rfl, HR, HD1, HS1, HC1, HB1'⟩ := hrel
     have HCW : Hid (Chg S w wr) := (Chg.ofBelow HB4.out : Chg S w w4).trans HC1.out (fun n hn => .inl hn)
     have hw4 : w.heap.size < w4.heap.size := lt_of_heap HX4.out
     have HXr := Lib.hid (HC1.out.heap HX4.out (fun h => by have := HSS.out _ h; omega))
     have hpw1 : ¬ S1 w.heap.size := fun h => by
       rcases (HS1.out _ h).1 with h1 | h1
       · have := HSS.out _ h1; omega
       · omega
     by_cases hlt : k < 6
     · have HRr : Hid (Row wr 5 1 (.slice fa b.length fc) b.length (byts b) (fun j => w2.heap.size ≤ j ∧ j < w4.heap.size)) := HR4.out.tight.frame (fun j hj hl => HC1.out.block j hl (fun h => by have := HSS.out j h; omega))
       have hwk : WorkAt wr w.heap.size (.pointer (some ⟨bx, 0, none⟩)) fa b fc (L.n + 1) S1 :=
         ⟨HXr.out, hpw1, HRr.out.reads, fun ad ha => by
           subst ha
           have h1 := HRr.out.at_block
           exact ⟨fun h => by
             rcases (HS1.out _ h).1 with h2 | h2
             · have := HSS.out _ h2; omega
             · omega, by have := HC1.out.size; omega⟩, fun w' hc => HT.out w' (HCW.out.trans hc (fun n hn => by rcases (HS1.out n hn).1 with h | h; exact .inl h; exact .inr (by omega))), fun j hj => (HS1.out j hj).2⟩
       have hplan := HB1'.out.plan
       have hlen1 := HB1'.out.len
       have hsum1 := HB1'.out.sum
       have hsp : s + (if k < 3 then 0 else b.length) ≤ 500000 := by split <;> omega
       obtain ⟨r, hr⟩ : ∃ r, r = stepK b (L.n + 1) k D1 := ⟨_, rfl⟩
       have HRS : Hid (RR = seqG r (compK doP b (L.n + 1) (k + 1))) := by rw [Hid, HR.out, compK_step b _ hlt, hr]
       have HBR : Hid (Bnd r.1 (s + (if k + 1 < 3 then 0 else b.length)) (n + (k + 1))) := by
         have h1 := bnd_stepK (b := b) (next := L.n + 1) (k := k) HB1'.out
         rw [← hr] at h1
         refine h1.more ?_ (by omega)
         split <;> split <;> split <;> omega
       have h6 : k = 0 ∨ k = 1 ∨ k = 2 ∨ k = 3 ∨ k = 4 ∨ k = 5 := by omega
       rcases h6 with rfl | rfl | rfl | rfl | rfl | rfl
       · have HST := Lib.hid (show Calls Tryz.prog 104 #[.pointer (some ⟨w.heap.size, 0, none⟩)] wr (DPost wr (.pointer (some ⟨bx, 0, none⟩)) S1 r) from by rw [hr]; exact wclean_any hwk HD1.out hplan (by omega) (fun g hg => by have := HB1'.out.nm g hg; unfold maxLen; omega))
         clear hr hwk hplan hlen1 hsum1 hsp HRr HR hpw1
         have hix := steps6_0 (.pointer (some ⟨w.heap.size, 0, none⟩))
         go_wp2_with fail
         refine HST.out.mono ?_
         clear hix
         rintro e w5 ⟨rfl, hd5, hc5⟩
         have HD5 := Lib.hid hd5.tight
         have hr4 := HC1.out.size
         have HC5 : Hid (Chg S w4 w5) := HC1.out.trans hc5 (fun j hj => (HS1.out j hj).1)
         have HS5 : Hid (∀ j, ((S1 j ∨ wr.heap.size ≤ j) ∧ j < w5.heap.size) → (S j ∨ w4.heap.size ≤ j) ∧ j < w5.heap.size) := fun j hj => ⟨by rcases hj.1 with h | h; exact (HS1.out j h).1; exact .inr (by omega), hj.2⟩
         clear hd5 hc5 HST
         obtain ⟨D5, cd⟩ := r
         simp only at HD5 HBR
         by_cases hcd : cd = 0
         · subst hcd
           have HR5 : Hid (RR = compK doP b (L.n + 1) (0 + 1) D5) := by rw [Hid, HRS.out]; unfold seqG; rw [if_neg (fun h => h rfl)]
           go_wp2_with fail
           go_roundw
           case rel => exact ⟨0 + 1, D5, _, by omega, by go_num, HR5, HD5, HS5, HC5, HBR⟩
           case measure => simp [RowKit.intOf] <;> omega
         · have hcn : (cd != 0) = true := by simpa using hcd
           have HR5 : Hid (RR = (D5, cd)) := by rw [Hid, HRS.out]; unfold seqG; rw [if_pos hcd]
           have HCN := Lib.hid hcd
           clear hcd
           go_wp2_with fail
           go_ret2
           refine ⟨_, by rw [if_pos rfl, HR5.out]; exact HD5.out, fun j hj => ⟨by rcases (HS5.out j hj).1 with h | h; exact .inl h; exact .inr (by omega), (HS5.out j hj).2⟩, (Chg.ofBelow HB4.out : Chg S w w4).trans HC5.out (fun n hn => .inl hn), .inr (.inl ⟨rfl, by rw [HR5.out]; exact HCN.out, by rw [HR5.out]; rfl⟩)⟩
       · have HST := Lib.hid (show Calls Tryz.prog 105 #[.pointer (some ⟨w.heap.size, 0, none⟩)] wr (DPost wr (.pointer (some ⟨bx, 0, none⟩)) S1 r) from by rw [hr]; exact wcreate_any hwk HD1.out hplan)
         clear hr hwk hplan hlen1 hsum1 hsp HRr HR hpw1
         have hix := steps6_1 (.pointer (some ⟨w.heap.size, 0, none⟩))
         go_wp2_with fail
         refine HST.out.mono ?_
         clear hix
         rintro e w5 ⟨rfl, hd5, hc5⟩
         have HD5 := Lib.hid hd5.tight
         have hr4 := HC1.out.size
         have HC5 : Hid (Chg S w4 w5) := HC1.out.trans hc5 (fun j hj => (HS1.out j hj).1)
         have HS5 : Hid (∀ j, ((S1 j ∨ wr.heap.size ≤ j) ∧ j < w5.heap.size) → (S j ∨ w4.heap.size ≤ j) ∧ j < w5.heap.size) := fun j hj => ⟨by rcases hj.1 with h | h; exact (HS1.out j h).1; exact .inr (by omega), hj.2⟩
         clear hd5 hc5 HST
         obtain ⟨D5, cd⟩ := r
         simp only at HD5 HBR
         by_cases hcd : cd = 0
         · subst hcd
           have HR5 : Hid (RR = compK doP b (L.n + 1) (1 + 1) D5) := by rw [Hid, HRS.out]; unfold seqG; rw [if_neg (fun h => h rfl)]
           go_wp2_with fail
           go_roundw
           case rel => exact ⟨1 + 1, D5, _, by omega, by go_num, HR5, HD5, HS5, HC5, HBR⟩
           case measure => simp [RowKit.intOf] <;> omega
         · have hcn : (cd != 0) = true := by simpa using hcd
           have HR5 : Hid (RR = (D5, cd)) := by rw [Hid, HRS.out]; unfold seqG; rw [if_pos hcd]
           have HCN := Lib.hid hcd
           clear hcd
           go_wp2_with fail
           go_ret2
           refine ⟨_, by rw [if_pos rfl, HR5.out]; exact HD5.out, fun j hj => ⟨by rcases (HS5.out j hj).1 with h | h; exact .inl h; exact .inr (by omega), (HS5.out j hj).2⟩, (Chg.ofBelow HB4.out : Chg S w w4).trans HC5.out (fun n hn => .inl hn), .inr (.inl ⟨rfl, by rw [HR5.out]; exact HCN.out, by rw [HR5.out]; rfl⟩)⟩
       · have HST := Lib.hid (show Calls Tryz.prog 106 #[.pointer (some ⟨w.heap.size, 0, none⟩)] wr (DPost wr (.pointer (some ⟨bx, 0, none⟩)) S1 r) from by rw [hr]; exact wwrite_any hwk HD1.out hplan (by omega) (by omega))
         clear hr hwk hplan hlen1 hsum1 hsp HRr HR hpw1
         have hix := steps6_2 (.pointer (some ⟨w.heap.size, 0, none⟩))
         go_wp2_with fail
         refine HST.out.mono ?_
         clear hix
         rintro e w5 ⟨rfl, hd5, hc5⟩
         have HD5 := Lib.hid hd5.tight
         have hr4 := HC1.out.size
         have HC5 : Hid (Chg S w4 w5) := HC1.out.trans hc5 (fun j hj => (HS1.out j hj).1)
         have HS5 : Hid (∀ j, ((S1 j ∨ wr.heap.size ≤ j) ∧ j < w5.heap.size) → (S j ∨ w4.heap.size ≤ j) ∧ j < w5.heap.size) := fun j hj => ⟨by rcases hj.1 with h | h; exact (HS1.out j h).1; exact .inr (by omega), hj.2⟩
         clear hd5 hc5 HST
         obtain ⟨D5, cd⟩ := r
         simp only at HD5 HBR
         by_cases hcd : cd = 0
         · subst hcd
           have HR5 : Hid (RR = compK doP b (L.n + 1) (2 + 1) D5) := by rw [Hid, HRS.out]; unfold seqG; rw [if_neg (fun h => h rfl)]
           go_wp2_with fail
           go_roundw
           case rel => exact ⟨2 + 1, D5, _, by omega, by go_num, HR5, HD5, HS5, HC5, HBR⟩
           case measure => simp [RowKit.intOf] <;> omega
         · have hcn : (cd != 0) = true := by simpa using hcd
           have HR5 : Hid (RR = (D5, cd)) := by rw [Hid, HRS.out]; unfold seqG; rw [if_pos hcd]
           have HCN := Lib.hid hcd
           clear hcd
           go_wp2_with fail
           go_ret2
           refine ⟨_, by rw [if_pos rfl, HR5.out]; exact HD5.out, fun j hj => ⟨by rcases (HS5.out j hj).1 with h | h; exact .inl h; exact .inr (by omega), (HS5.out j hj).2⟩, (Chg.ofBelow HB4.out : Chg S w w4).trans HC5.out (fun n hn => .inl hn), .inr (.inl ⟨rfl, by rw [HR5.out]; exact HCN.out, by rw [HR5.out]; rfl⟩)⟩
       · have HST := Lib.hid (show Calls Tryz.prog 107 #[.pointer (some ⟨w.heap.size, 0, none⟩)] wr (DPost wr (.pointer (some ⟨bx, 0, none⟩)) S1 r) from by rw [hr]; exact wsync_any hwk HD1.out hplan)
         clear hr hwk hplan hlen1 hsum1 hsp HRr HR hpw1
         have hix := steps6_3 (.pointer (some ⟨w.heap.size, 0, none⟩))
         go_wp2_with fail
         refine HST.out.mono ?_
         clear hix
         rintro e w5 ⟨rfl, hd5, hc5⟩
         have HD5 := Lib.hid hd5.tight
         have hr4 := HC1.out.size
         have HC5 : Hid (Chg S w4 w5) := HC1.out.trans hc5 (fun j hj => (HS1.out j hj).1)
         have HS5 : Hid (∀ j, ((S1 j ∨ wr.heap.size ≤ j) ∧ j < w5.heap.size) → (S j ∨ w4.heap.size ≤ j) ∧ j < w5.heap.size) := fun j hj => ⟨by rcases hj.1 with h | h; exact (HS1.out j h).1; exact .inr (by omega), hj.2⟩
         clear hd5 hc5 HST
         obtain ⟨D5, cd⟩ := r
         simp only at HD5 HBR
         by_cases hcd : cd = 0
         · subst hcd
           have HR5 : Hid (RR = compK doP b (L.n + 1) (3 + 1) D5) := by rw [Hid, HRS.out]; unfold seqG; rw [if_neg (fun h => h rfl)]
           go_wp2_with fail
           go_roundw
           case rel => exact ⟨3 + 1, D5, _, by omega, by go_num, HR5, HD5, HS5, HC5, HBR⟩
           case measure => simp [RowKit.intOf] <;> omega
         · have hcn : (cd != 0) = true := by simpa using hcd
           have HR5 : Hid (RR = (D5, cd)) := by rw [Hid, HRS.out]; unfold seqG; rw [if_pos hcd]
           have HCN := Lib.hid hcd
           clear hcd
           go_wp2_with fail
           go_ret2
           refine ⟨_, by rw [if_pos rfl, HR5.out]; exact HD5.out, fun j hj => ⟨by rcases (HS5.out j hj).1 with h | h; exact .inl h; exact .inr (by omega), (HS5.out j hj).2⟩, (Chg.ofBelow HB4.out : Chg S w w4).trans HC5.out (fun n hn => .inl hn), .inr (.inl ⟨rfl, by rw [HR5.out]; exact HCN.out, by rw [HR5.out]; rfl⟩)⟩
       · have HST := Lib.hid (show Calls Tryz.prog 108 #[.pointer (some ⟨w.heap.size, 0, none⟩)] wr (DPost wr (.pointer (some ⟨bx, 0, none⟩)) S1 r) from by rw [hr]; exact wrename_any hwk HD1.out hplan)
         clear hr hwk hplan hlen1 hsum1 hsp HRr HR hpw1
         have hix := steps6_4 (.pointer (some ⟨w.heap.size, 0, none⟩))
         go_wp2_with fail
         refine HST.out.mono ?_
         clear hix
         rintro e w5 ⟨rfl, hd5, hc5⟩
         have HD5 := Lib.hid hd5.tight
         have hr4 := HC1.out.size
         have HC5 : Hid (Chg S w4 w5) := HC1.out.trans hc5 (fun j hj => (HS1.out j hj).1)
         have HS5 : Hid (∀ j, ((S1 j ∨ wr.heap.size ≤ j) ∧ j < w5.heap.size) → (S j ∨ w4.heap.size ≤ j) ∧ j < w5.heap.size) := fun j hj => ⟨by rcases hj.1 with h | h; exact (HS1.out j h).1; exact .inr (by omega), hj.2⟩
         clear hd5 hc5 HST
         obtain ⟨D5, cd⟩ := r
         simp only at HD5 HBR
         by_cases hcd : cd = 0
         · subst hcd
           have HR5 : Hid (RR = compK doP b (L.n + 1) (4 + 1) D5) := by rw [Hid, HRS.out]; unfold seqG; rw [if_neg (fun h => h rfl)]
           go_wp2_with fail
           go_roundw
           case rel => exact ⟨4 + 1, D5, _, by omega, by go_num, HR5, HD5, HS5, HC5, HBR⟩
           case measure => simp [RowKit.intOf] <;> omega
         · have hcn : (cd != 0) = true := by simpa using hcd
           have HR5 : Hid (RR = (D5, cd)) := by rw [Hid, HRS.out]; unfold seqG; rw [if_pos hcd]
           have HCN := Lib.hid hcd
           clear hcd
           go_wp2_with fail
           go_ret2
           refine ⟨_, by rw [if_pos rfl, HR5.out]; exact HD5.out, fun j hj => ⟨by rcases (HS5.out j hj).1 with h | h; exact .inl h; exact .inr (by omega), (HS5.out j hj).2⟩, (Chg.ofBelow HB4.out : Chg S w w4).trans HC5.out (fun n hn => .inl hn), .inr (.inl ⟨rfl, by rw [HR5.out]; exact HCN.out, by rw [HR5.out]; rfl⟩)⟩
       · have HST := Lib.hid (show Calls Tryz.prog 109 #[.pointer (some ⟨w.heap.size, 0, none⟩)] wr (DPost wr (.pointer (some ⟨bx, 0, none⟩)) S1 r) from by rw [hr]; exact wremove_any hwk HD1.out HB1'.out (by omega))
         clear hr hwk hplan hlen1 hsum1 hsp HRr HR hpw1
         have hix := steps6_5 (.pointer (some ⟨w.heap.size, 0, none⟩))
         go_wp2_with fail
         refine HST.out.mono ?_
         clear hix
         rintro e w5 ⟨rfl, hd5, hc5⟩
         have HD5 := Lib.hid hd5.tight
         have hr4 := HC1.out.size
         have HC5 : Hid (Chg S w4 w5) := HC1.out.trans hc5 (fun j hj => (HS1.out j hj).1)
         have HS5 : Hid (∀ j, ((S1 j ∨ wr.heap.size ≤ j) ∧ j < w5.heap.size) → (S j ∨ w4.heap.size ≤ j) ∧ j < w5.heap.size) := fun j hj => ⟨by rcases hj.1 with h | h; exact (HS1.out j h).1; exact .inr (by omega), hj.2⟩
         clear hd5 hc5 HST
         obtain ⟨D5, cd⟩ := r
         simp only at HD5 HBR
         by_cases hcd : cd = 0
         · subst hcd
           have HR5 : Hid (RR = compK doP b (L.n + 1) (5 + 1) D5) := by rw [Hid, HRS.out]; unfold seqG; rw [if_neg (fun h => h rfl)]
           go_wp2_with fail
           go_roundw
           case rel => exact ⟨5 + 1, D5, _, by omega, by go_num, HR5, HD5, HS5, HC5, HBR⟩
           case measure => simp [RowKit.intOf] <;> omega
         · have hcn : (cd != 0) = true := by simpa using hcd
           have HR5 : Hid (RR = (D5, cd)) := by rw [Hid, HRS.out]; unfold seqG; rw [if_pos hcd]
           have HCN := Lib.hid hcd
           clear hcd
           go_wp2_with fail
           go_ret2
           refine ⟨_, by rw [if_pos rfl, HR5.out]; exact HD5.out, fun j hj => ⟨by rcases (HS5.out j hj).1 with h | h; exact .inl h; exact .inr (by omega), (HS5.out j hj).2⟩, (Chg.ofBelow HB4.out : Chg S w w4).trans HC5.out (fun n hn => .inl hn), .inr (.inl ⟨rfl, by rw [HR5.out]; exact HCN.out, by rw [HR5.out]; rfl⟩)⟩
     · obtain rfl : k = 6 := by omega
       have hsz := HCW.out.size
       have HRE : Hid (RR = (D1, 0)) := HR.out
       have hbw : Below wr.heap.size wr (wr.alloc (.cells #[.int .i64 (L.n + 1), .int .i64 b.length, .int .i64 0, .pointer (some ⟨bx, 0, none⟩), .int .i64 most] 148)) := (Below.refl _ _).alloc (Nat.le_refl _) _
       have HD9 := Lib.hid (HD1.out.frame (fun j _ hj => hbw.block j hj))
       have HC9 := Lib.hid (HCW.out.trans (Chg.ofBelow hbw : Chg S wr _) (fun n hn => .inl hn))
       have HN9 := Lib.hid (fun (h : S1 wr.heap.size) => by have h1 : wr.heap.size < wr.heap.size := (HS1.out _ h).2; omega)
       have y2 := cellAt HXr.out 2 rfl
       clear HR hbw hpw1 hlt
       go_wp2_with fail
       refine (lnew_any (some ⟨bx, 0, none⟩) most (L.n + 1) b.length wr).mono ?_
       rintro e w5 ⟨rfl, rfl⟩
       go_wp2
       go_ret2
       refine ⟨S1, by rw [if_pos rfl, HRE.out]; exact HD9.out, fun j hj => ⟨by rcases (HS1.out j hj).1 with h | h; exact .inl h; exact .inr (by omega), by have := (HS1.out j hj).2; simp; omega⟩, HC9.out, .inr (.inr ⟨rfl, by rw [HRE.out], wr.heap.size, rfl, by rw [← HBD.out]; exact heap_alloc_new _ _, hsz, fun h => Nat.lt_irrefl _ (HN9.out h)⟩)⟩
theorem mem_segs_fnd (D : DS) (n : Int) : n ∈ segsD D ↔ (1 ≤ n ∧ n ≤ 99999999 ∧ (fnd D (nameI n)).isSome = true) := mem_segs_iff D n
section
variable {φ0 φ ψ : FN} {L : List Int} {last : Int} {front : List UInt8} {j k : Nat}
end
theorem crash_find (ks : List Int) : ∀ (l : List DF) (x : ByteArray), findD (crashF l ks) x = none ∧ findD l x = none ∨ ∃ f k, findD l x = some f ∧ findD (crashF l ks) x = some (cutF f k) := by
 intro l
 induction l generalizing ks with
 | nil => intro x; exact .inl ⟨rfl, rfl⟩
 | cons a l ih =>
   intro x
   have e : crashF (a :: l) ks = cutF a ks[0]? :: crashF l (ks.drop 1) := by
     have := crashF_append [a] l ks
     simp [crashF] at this ⊢
   rw [e, findD, findD]
   by_cases h : a.name = x
   · rw [if_pos h, if_pos (show (cutF a ks[0]?).name = x from h)]
     exact .inr ⟨a, _, rfl, rfl⟩
   · rw [if_neg h, if_neg (show ¬ (cutF a ks[0]?).name = x from h)]
     exact ih (ks.drop 1) x
theorem cutN_zero {f : DF} (h : f.d = f.b.length) (k : Option Int) : cutN f k = 0 := by
 unfold cutN
 split
 · omega
 · rfl
theorem cutF_same {f : DF} (h : f.d = f.b.length) (k : Option Int) : cutF f k = f := by
 unfold cutF
 rw [cutN_zero h, Nat.add_zero, h, List.take_length, ← h]
theorem crash_same {l : List DF} (ks : List Int) {x : ByteArray} (h : ∀ f, findD l x = some f → f.d = f.b.length) : findD (crashF l ks) x = findD l x := by
 rcases crash_find ks l x with ⟨h1, h2⟩ | ⟨f, k, h1, h2⟩
 · rw [h1, h2]
 · rw [h1, h2, cutF_same (h f h1)]
theorem contD_congr {E F : DS} (hed : E.down = false) (hd : F.down = false) (n : Int) (h : fnd E (nameI n) = fnd F (nameI n)) : contD E n = contD F n := by
 unfold contD
 rw [readD_up hed, readD_up hd, show findD E.files (nameI n) = findD F.files (nameI n) from h]
end Go.Proofs.YtgdmdbdljmlkkaaGreatDoor
namespace Go.Proofs.YtgdmdbdljmlkkaaGreatDoor
theorem fnd_segs {E F : DS} (h : ∀ n, 1 ≤ n → n ≤ 99999999 → fnd E (nameI n) = fnd F (nameI n)) : segsD E = segsD F := by
 refine inc_ext (inc_segs E) (inc_segs F) (fun n => ?_)
 rw [mem_segs_fnd, mem_segs_fnd]
 constructor <;> (rintro ⟨h1, h2, h3⟩; refine ⟨h1, h2, ?_⟩)
 · rw [← h n h1 h2]; exact h3
 · rw [h n h1 h2]; exact h3
theorem findG_congr {g g' : Int → List UInt8} {L : List Int} (h : ∀ n ∈ L, g' n = g n) : findG g' L = findG g L := by
 by_cases hL : L = []
 · subst hL; rfl
 · have hg : ∀ i, i < L.length → g' (L.getD i 0) = g (L.getD i 0) := fun i hi => by
     have e : L.getD i 0 = L[i] := by rw [List.getD_eq_getElem?_getD, List.getElem?_eq_getElem hi]; rfl
     rw [e]; exact h _ (List.getElem_mem hi)
   have hm : ∀ i, i < L.length → markK g' L i = markK g L i := fun i => by
     induction i with
     | zero => intro _; rfl
     | succ i ih =>
       intro hi
       rw [markK, markK, hg _ hi, ih (by omega)]
   have hl := List.length_pos_iff.2 hL
   have hk := hm (L.length - 1) (by omega)
   have hle := markK_le g L (L.length - 1)
   have hr : ∀ n ∈ L.drop (markK g L (L.length - 1)), g' n = g n := fun n hn => h n (List.mem_of_mem_drop hn)
   unfold findG
   rw [if_neg hL, if_neg hL, hk]
   have hru : restUp g' (L.drop (markK g L (L.length - 1))) (L.length - markK g L (L.length - 1)) = restUp g (L.drop (markK g L (L.length - 1))) (L.length - markK g L (L.length - 1)) := by
     refine restUp_congr fun i hi => ?_
     have e : g' ((L.drop (markK g L (L.length - 1))).getD i 0) = g ((L.drop (markK g L (L.length - 1))).getD i 0) := by
       have hi2 : i < (L.drop (markK g L (L.length - 1))).length := by rw [List.length_drop]; exact hi
       have e : (L.drop (markK g L (L.length - 1))).getD i 0 = (L.drop (markK g L (L.length - 1)))[i] := by rw [List.getD_eq_getElem?_getD, List.getElem?_eq_getElem hi2]; rfl
       rw [e]; exact hr _ (List.getElem_mem hi2)
     unfold restAt
     rw [e]
   have hre : recsG g' (L.drop (markK g L (L.length - 1))) = recsG g (L.drop (markK g L (L.length - 1))) := by
     unfold recsG
     generalize L.drop (markK g L (L.length - 1)) = M at hr
     induction M with
     | nil => rfl
     | cons a l ih => rw [List.flatMap_cons, List.flatMap_cons, hr a (by simp), ih (fun n hn => hr n (by simp [hn]))]
   have hla : g' (lastN L) = g (lastN L) := h _ (lastN_mem hL)
   rw [hru, hre, hla]
theorem find_fnd {E F : DS} (hed : E.down = false) (hd : F.down = false) (h : ∀ n, 1 ≤ n → n ≤ 99999999 → fnd E (nameI n) = fnd F (nameI n)) : findS E = findS F := by
 have hs := fnd_segs h
 unfold findS
 rw [hed, hd, hs]
 refine findG_congr fun n hn => ?_
 have := mem_segs hn
 exact contD_congr hed hd n (h n this.1 this.2)
theorem doR_calm {E : DS} (hd : E.down = false) (hp : E.plan = 0) (o : OP) : (doR E o).1.down = false ∧ (doR E o).1.plan = 0 ∧ (doR E o).1.room = E.room := by
 have hst : (stepF E).down = false ∧ (stepF E).plan = 0 ∧ (stepF E).room = E.room := ⟨hd, by show max (E.plan - 1) 0 = 0; rw [hp]; rfl, rfl⟩
 unfold doR
 generalize kN o.k = k
 unfold doF
 rw [if_neg (by rw [hd]; decide), if_neg (by rw [hp]; decide)]
 split
 · exact hst
 split
 · split <;> exact hst
 · cases hf : findD E.files o.n with
   | none => exact hst
   | some f =>
     simp only
     split
     · split <;> exact hst
     split
     · exact hst
     split <;> exact hst
def Durable (φ : FN) : Prop := ∀ x f, φ x = some f → f.d = f.b.length ∧ f.name = x
theorem upto_getD {i n k : Nat} (h : k < n) : (upto i n).getD k 0 = ((i + k + 1 : Nat) : Int) := by
 unfold upto
 rw [List.getD_eq_getElem?_getD, List.getElem?_map, List.getElem?_range h]; rfl
theorem lastN_upto (i n : Nat) : lastN (upto i (n + 1)) = ((i + n + 1 : Nat) : Int) := by
 unfold lastN
 rw [upto_length, Nat.add_sub_cancel, upto_getD (by omega)]
theorem range_flat {α : Type} (P : List (List α)) : (List.range P.length).flatMap (fun k => P.getD k []) = P.flatten := by
 induction P with
 | nil => rfl
 | cons a P ih =>
   rw [List.length_cons, List.range_succ_eq_map, List.flatMap_cons, List.flatMap_map, List.flatten_cons, ← ih]
   rfl
theorem getD_mem {α : Type} {P : List (List α)} {k : Nat} (h : k < P.length) : P.getD k [] ∈ P := by
 rw [List.getD_eq_getElem?_getD, List.getElem?_eq_getElem h]; exact List.getElem_mem h
theorem fullL_id {X : List (List UInt8)} (h : ∀ r ∈ X, r ≠ []) : fullL X = X := by
 unfold fullL; exact List.filter_eq_self.2 (fun r hr => decide_eq_true (h r hr))
theorem empAt_id {X : List (List UInt8)} (h : ∀ r ∈ X, r ≠ []) (i : Nat) : empAt i X X.length = true := by
 unfold empAt
 rw [List.all_eq_true]
 intro j hj
 rw [List.mem_range] at hj
 exact decide_eq_true (.inl (h _ (getD_mem hj)))
theorem marked_noneB {b : List UInt8} (h : ∀ r ∈ (splitB b).1, r ≠ []) : markedB b = false := by
 rw [marked_split]
 refine decide_eq_false fun e => ?_
 cases hx : (splitB b).1 with
 | nil => rw [hx] at e; cases e
 | cons a l => rw [hx] at e; exact h a (by rw [hx]; simp) (Option.some.inj e)
theorem findG_segs (g : Int → List UInt8) (i0 : Nat) (pre : List (List (List UInt8))) (b : List UInt8) (hg : ∀ k, k < pre.length → g ((i0 + k + 1 : Nat) : Int) = framesB (pre.getD k [])) (hl : g ((i0 + pre.length + 1 : Nat) : Int) = b)
   (hs : ∀ c ∈ pre, ∀ r ∈ c, r ≠ [] ∧ r.length ≤ 1048576) (hb : ∀ r ∈ (splitB b).1, r ≠ []) :
   findG g (upto i0 (pre.length + 1)) = ⟨0, [], ((i0 + pre.length + 1 : Nat) : Int), pre.flatten ++ (splitB b).1, b.take (splitB b).2, b.length - (splitB b).2⟩ := by
 have hlen := upto_length i0 (pre.length + 1)
 have hspl : ∀ k, k < pre.length → splitB (g ((i0 + k + 1 : Nat) : Int)) = (pre.getD k [], (framesB (pre.getD k [])).length) := fun k hk => by
   rw [hg k hk]; exact split_full _ (fun r hr => (hs _ (getD_mem hk) r hr).2)
 have hne : ∀ k, k ≤ pre.length → ∀ r ∈ (splitB (g ((i0 + k + 1 : Nat) : Int))).1, r ≠ [] := fun k hk r hr => by
   by_cases h : k = pre.length
   · subst h; rw [hl] at hr; exact hb r hr
   · rw [hspl k (by omega)] at hr
     exact (hs _ (getD_mem (by omega)) r hr).1
 have hmk : ∀ i, i < pre.length + 1 → markK g (upto i0 (pre.length + 1)) i = 0 := fun i => by
   induction i with
   | zero => intro _; rfl
   | succ i ih =>
     intro hi
     rw [markK, upto_getD hi, marked_noneB (hne (i + 1) (by omega)), if_neg (by decide)]
     exact ih (by omega)
 have hK : markK g (upto i0 (pre.length + 1)) ((upto i0 (pre.length + 1)).length - 1) = 0 := by rw [hlen]; exact hmk _ (by omega)
 have hL : upto i0 (pre.length + 1) ≠ [] := fun e => by rw [e] at hlen; simp at hlen
 unfold findG
 rw [if_neg hL, hK, List.drop_zero, Nat.sub_zero, hlen]
 have hch : chainUp (upto i0 (pre.length + 1)) (pre.length + 1) = true := by
   unfold chainUp
   rw [List.all_eq_true]
   intro i hi
   rw [List.mem_range] at hi
   unfold chainAt
   refine decide_eq_true ?_
   rcases Nat.eq_zero_or_pos i with h | h
   · exact .inl h
   · refine .inr ?_
     rw [upto_getD (by omega), upto_getD hi]; omega
 have hru : restUp g (upto i0 (pre.length + 1)) (pre.length + 1) = true := by
   unfold restUp
   rw [List.all_eq_true]
   intro i hi
   rw [List.mem_range] at hi
   unfold restAt
   rw [upto_getD hi, hlen, empAt_id (hne i (by omega)), Bool.and_true]
   refine decide_eq_true ?_
   by_cases h : i = pre.length
   · exact .inr (by omega)
   · refine .inl ?_
     rw [hspl i (by omega), hg i (by omega)]
 rw [hch, hru, Bool.and_self, if_pos rfl, lastN_upto, hl]
 have hre : recsG g (upto i0 (pre.length + 1)) = pre.flatten ++ (splitB b).1 := by
   unfold recsG
   rw [upto_succ, List.flatMap_append]
   congr 1
   · unfold upto
     rw [List.flatMap_map, ← range_flat pre, List.flatMap_def, List.flatMap_def]
     congr 1
     refine List.map_congr_left fun k hk => ?_
     rw [List.mem_range] at hk
     show fullL (splitB (g ((i0 + k + 1 : Nat) : Int))).1 = _
     rw [fullL_id (hne k (by omega)), hspl k hk]
   · simp only [List.flatMap_cons, List.flatMap_nil, List.append_nil]
     rw [hl]
     exact fullL_id hb
 rw [hre, List.take_zero]
theorem preF_at {pre : List (List (List UInt8))} : ∀ {i0 k : Nat}, k < pre.length → (⟨nameI ((i0 + k + 1 : Nat) : Int), framesB (pre.getD k []), (framesB (pre.getD k [])).length⟩ : DF) ∈ preF i0 pre := by
 induction pre with
 | nil => intro i0 k h; simp at h
 | cons c pre ih =>
   intro i0 k h
   rw [preF]
   cases k with
   | zero => exact List.mem_cons.2 (.inl (by simp))
   | succ k =>
     refine List.mem_cons.2 (.inr ?_)
     have := ih (i0 := i0 + 1) (k := k) (by simpa using h)
     rw [show i0 + 1 + k + 1 = i0 + (k + 1) + 1 by omega] at this
     exact this
def segFiles (i0 : Nat) (pre : List (List (List UInt8))) (b : List UInt8) (d : Nat) : List DF := preF i0 pre ++ [⟨nameI ((i0 + pre.length + 1 : Nat) : Int), b, d⟩]
theorem segF_sorted {i0 : Nat} {pre : List (List (List UInt8))} (b : List UInt8) (d : Nat) (hn : i0 + pre.length + 1 ≤ 99999999) : (segFiles i0 pre b d).Pairwise below := by
 have key : ∀ (pre : List (List (List UInt8))) (i0 : Nat), i0 + pre.length ≤ 99999999 → (preF i0 pre).Pairwise below := by
   intro pre
   induction pre with
   | nil => intro i0 _; exact List.Pairwise.nil
   | cons c pre ih =>
     intro i0 h
     rw [List.length_cons] at h
     rw [preF]
     refine List.pairwise_cons.2 ⟨fun f hf => ?_, ih (i0 + 1) (by omega)⟩
     obtain ⟨k, h1, h2, h3⟩ := preF_mem hf
     show (nameI ((i0 + 1 : Nat) : Int)).toList < f.name.toList
     rw [h3]
     exact nameI_lt (by omega) (by omega) (by omega)
 unfold segFiles
 refine List.pairwise_append.2 ⟨key pre i0 (by omega), List.pairwise_singleton _ _, fun f hf g hg => ?_⟩
 rw [List.mem_singleton] at hg
 subst hg
 obtain ⟨k, h1, h2, h3⟩ := preF_mem hf
 show f.name.toList < (nameI ((i0 + pre.length + 1 : Nat) : Int)).toList
 rw [h3]
 exact nameI_lt (by omega) (by omega) (by omega)
theorem segF_at {i0 : Nat} {pre : List (List (List UInt8))} {b : List UInt8} {d : Nat} (hn : i0 + pre.length + 1 ≤ 99999999) {f : DF} (h : f ∈ segFiles i0 pre b d) : findD (segFiles i0 pre b d) f.name = some f :=
 (mem_iff_findD (sorted_nodup (segF_sorted b d hn)) f).1 h
theorem segF_last {i0 : Nat} {pre : List (List (List UInt8))} {b : List UInt8} {d : Nat} (hn : i0 + pre.length + 1 ≤ 99999999) : findD (segFiles i0 pre b d) (nameI ((i0 + pre.length + 1 : Nat) : Int)) = some ⟨nameI ((i0 + pre.length + 1 : Nat) : Int), b, d⟩ :=
 segF_at hn (f := ⟨nameI ((i0 + pre.length + 1 : Nat) : Int), b, d⟩) (List.mem_append_right _ (List.mem_singleton.2 rfl))
theorem segF_names (i0 : Nat) (pre : List (List (List UInt8))) (b : List UInt8) (d : Nat) : (segFiles i0 pre b d).map DF.name = namesN i0 (pre.length + 1) := by
 have := seg_names ⟨i0, pre, [], 0⟩
 unfold Seg.files at this
 rw [List.map_append] at this
 unfold segFiles
 rw [List.map_append]
 exact this
theorem find_segF {D : DS} {i0 : Nat} {pre : List (List (List UInt8))} {b : List UInt8} {d : Nat} (hd : D.down = false) (hf : D.files = segFiles i0 pre b d) (hn : i0 + pre.length + 1 ≤ 99999999) (hs : ∀ c ∈ pre, ∀ r ∈ c, r ≠ [] ∧ r.length ≤ 1048576) (hb : ∀ r ∈ (splitB b).1, r ≠ []) :
   findS D = ⟨0, [], ((i0 + pre.length + 1 : Nat) : Int), pre.flatten ++ (splitB b).1, b.take (splitB b).2, b.length - (splitB b).2⟩ := by
 have hsg : segsD D = upto i0 (pre.length + 1) := by
   unfold segsD; rw [hf, segF_names, refL_names (by omega)]
 unfold findS
 rw [if_neg (by rw [hd]; decide), hsg]
 refine findG_segs _ i0 pre b (fun k hk => ?_) ?_ hs hb
 · refine (contD_some (f := ⟨nameI ((i0 + k + 1 : Nat) : Int), framesB (pre.getD k []), (framesB (pre.getD k [])).length⟩) hd ?_)
   show findD D.files _ = _
   rw [hf]
   exact segF_at hn (f := ⟨nameI ((i0 + k + 1 : Nat) : Int), framesB (pre.getD k []), (framesB (pre.getD k [])).length⟩) (List.mem_append_left _ (preF_at hk))
 · refine (contD_some (f := ⟨nameI ((i0 + pre.length + 1 : Nat) : Int), b, d⟩) hd ?_)
   show findD D.files _ = _
   rw [hf]; exact segF_last hn
end Go.Proofs.YtgdmdbdljmlkkaaGreatDoor
