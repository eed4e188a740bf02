/- Texts for trimTwice_holds, joined: TrimE, FindD, ScAgainL, ScBegL, TrimP. -/
import Derived.Test.YtgdmdbdljmlkkaaGreatDoorTt29
import Derived.Test.YtgdmdbdljmlkkaaGreatDoorTt24
set_option linter.unusedVariables false
set_option linter.unusedSimpArgs false
namespace Go.Proofs.YtgdmdbdljmlkkaaGreatDoor
open Go.RowKit
def compK (O : DoT) (b : List UInt8) (next : Int) : Nat → DS → DS × Int
  | 0 => fun D => seqG (cleanG O D newNm) fun D => seqG (O D ⟨1, newNm, ⟨#[]⟩, []⟩) fun D => seqG (O D ⟨2, newNm, ⟨#[]⟩, b⟩) fun D => seqG (O D ⟨3, newNm, ⟨#[]⟩, []⟩) fun D => seqG (O D ⟨4, newNm, nameI next, []⟩) fun D => seqG (stepsG O D ((olderL (segsD D) next).map rmO)) fun D => (D, 0)
  | 1 => fun D => seqG (O D ⟨1, newNm, ⟨#[]⟩, []⟩) fun D => seqG (O D ⟨2, newNm, ⟨#[]⟩, b⟩) fun D => seqG (O D ⟨3, newNm, ⟨#[]⟩, []⟩) fun D => seqG (O D ⟨4, newNm, nameI next, []⟩) fun D => seqG (stepsG O D ((olderL (segsD D) next).map rmO)) fun D => (D, 0)
  | 2 => fun D => seqG (O D ⟨2, newNm, ⟨#[]⟩, b⟩) fun D => seqG (O D ⟨3, newNm, ⟨#[]⟩, []⟩) fun D => seqG (O D ⟨4, newNm, nameI next, []⟩) fun D => seqG (stepsG O D ((olderL (segsD D) next).map rmO)) fun D => (D, 0)
  | 3 => fun D => seqG (O D ⟨3, newNm, ⟨#[]⟩, []⟩) fun D => seqG (O D ⟨4, newNm, nameI next, []⟩) fun D => seqG (stepsG O D ((olderL (segsD D) next).map rmO)) fun D => (D, 0)
  | 4 => fun D => seqG (O D ⟨4, newNm, nameI next, []⟩) fun D => seqG (stepsG O D ((olderL (segsD D) next).map rmO)) fun D => (D, 0)
  | 5 => fun D => seqG (stepsG O D ((olderL (segsD D) next).map rmO)) fun D => (D, 0)
  | _ => fun D => (D, 0)
def stepK (b : List UInt8) (next : Int) (k : Nat) (D : DS) : DS × Int :=
  if k = 0 then cleanG doP D newNm else if k = 1 then createD D newNm else if k = 2 then appendD D newNm b else if k = 3 then syncD D newNm else if k = 4 then renameD D newNm (nameI next) else stepsG doP D ((olderL (segsD D) next).map rmO)
theorem compK_step (b : List UInt8) (next : Int) {k : Nat} (h : k < 6) (D : DS) : compK doP b next k D = seqG (stepK b next k D) (compK doP b next (k + 1)) := by
  have : k = 0 ∨ k = 1 ∨ k = 2 ∨ k = 3 ∨ k = 4 ∨ k = 5 := by omega
  rcases this with rfl | rfl | rfl | rfl | rfl | rfl <;> rfl
theorem bnd_rms {s n : Nat} : ∀ (l : List ByteArray) {D : DS}, Bnd D s n → Bnd (stepsG doP D (l.map rmO)).1 s n := by
  intro l
  induction l with
  | nil => intro D h; exact h
  | cons a l ih =>
    intro D h
    have h1 : Bnd (removeD D a).1 s n := bnd_remove h a
    exact bnd_seqG (r := removeD D a) h1 (ih h1)
theorem bnd_stepK {b : List UInt8} {next : Int} {k : Nat} {D : DS} {s n : Nat} (h : Bnd D s n) : Bnd (stepK b next k D).1 (s + (if k = 2 then b.length else 0)) (n + 1) := by
  unfold stepK
  by_cases h0 : k = 0
  · subst h0
    unfold cleanG
    rw [if_pos rfl]
    split
    · have h1 : Bnd (removeD D newNm).1 s n := bnd_remove h newNm
      exact h1.more (by simp) (by omega)
    · exact h.more (by simp) (by omega)
  · rw [if_neg h0]
    by_cases h1 : k = 1
    · subst h1; exact (bnd_create h newNm (by decide)).more (by simp) (by omega)
    · rw [if_neg h1]
      by_cases h2 : k = 2
      · subst h2; exact (bnd_append h newNm b).more (by simp) (by omega)
      · rw [if_neg h2]
        by_cases h3 : k = 3
        · subst h3; exact (bnd_sync h newNm).more (by simp) (by omega)
        · rw [if_neg h3]
          by_cases h4 : k = 4
          · subst h4; exact (bnd_rename h newNm (nameI next) (by have := nameI_size next; omega)).more (by simp) (by omega)
          · rw [if_neg h4, if_neg h2]; exact (bnd_rms _ h).more (by omega) (by omega)
theorem frames_bound (P : List SL) (h : ∀ x ∈ P, x.l.length ≤ 2000) : (framesB (P.map SL.l)).length ≤ 2008 * P.length := by
  induction P with
  | nil => simp [framesB]
  | cons x P ih =>
    have h1 := ih (fun y hy => h y (by simp [hy]))
    have h2 := h x (by simp)
    rw [List.map_cons, framesB_cons, List.length_append, frameB_length, List.length_cons]
    omega
theorem steps6_0 (p : Value) (w : World) : (Instr.index 157 (.agg #[.func (.func 104) #[p] #[], .func (.func 105) #[p] #[], .func (.func 106) #[p] #[], .func (.func 107) #[p] #[], .func (.func 108) #[p] #[], .func (.func 109) #[p] #[]]) (.int .i64 0)).run Tryz.prog w = .ok (.func (.func 104) #[p] #[]) w := by kernel_rfl
theorem steps6_1 (p : Value) (w : World) : (Instr.index 157 (.agg #[.func (.func 104) #[p] #[], .func (.func 105) #[p] #[], .func (.func 106) #[p] #[], .func (.func 107) #[p] #[], .func (.func 108) #[p] #[], .func (.func 109) #[p] #[]]) (.int .i64 1)).run Tryz.prog w = .ok (.func (.func 105) #[p] #[]) w := by kernel_rfl
theorem steps6_2 (p : Value) (w : World) : (Instr.index 157 (.agg #[.func (.func 104) #[p] #[], .func (.func 105) #[p] #[], .func (.func 106) #[p] #[], .func (.func 107) #[p] #[], .func (.func 108) #[p] #[], .func (.func 109) #[p] #[]]) (.int .i64 2)).run Tryz.prog w = .ok (.func (.func 106) #[p] #[]) w := by kernel_rfl
theorem steps6_3 (p : Value) (w : World) : (Instr.index 157 (.agg #[.func (.func 104) #[p] #[], .func (.func 105) #[p] #[], .func (.func 106) #[p] #[], .func (.func 107) #[p] #[], .func (.func 108) #[p] #[], .func (.func 109) #[p] #[]]) (.int .i64 3)).run Tryz.prog w = .ok (.func (.func 107) #[p] #[]) w := by kernel_rfl
theorem steps6_4 (p : Value) (w : World) : (Instr.index 157 (.agg #[.func (.func 104) #[p] #[], .func (.func 105) #[p] #[], .func (.func 106) #[p] #[], .func (.func 107) #[p] #[], .func (.func 108) #[p] #[], .func (.func 109) #[p] #[]]) (.int .i64 4)).run Tryz.prog w = .ok (.func (.func 108) #[p] #[]) w := by kernel_rfl
theorem steps6_5 (p : Value) (w : World) : (Instr.index 157 (.agg #[.func (.func 104) #[p] #[], .func (.func 105) #[p] #[], .func (.func 106) #[p] #[], .func (.func 107) #[p] #[], .func (.func 108) #[p] #[], .func (.func 109) #[p] #[]]) (.int .i64 5)).run Tryz.prog w = .ok (.func (.func 109) #[p] #[]) w := by kernel_rfl
def CompP (w : World) (x : Value) (S : Nat → Prop) (most : Int) (L : LS) (P : List (List UInt8)) (ok : Bool) (r : DS × Int) : Ending → World → Prop := fun e w' =>
  ∃ SS : Nat → Prop, DRep w' x (if ok then r.1 else L.D) SS ∧ (∀ k, SS k → (S k ∨ w.heap.size ≤ k) ∧ k < w'.heap.size) ∧ Chg S w w' ∧
    ((ok = false ∧ e = .returned (.tuple #[.pointer none, .int .i64 2])) ∨ (ok = true ∧ r.2 ≠ 0 ∧ e = .returned (.tuple #[.pointer none, .int .i64 r.2])) ∨
     (ok = true ∧ r.2 = 0 ∧ ∃ bl, e = .returned (.tuple #[.pointer (some ⟨bl, 0, none⟩), .int .i64 0]) ∧
       w'.heap[bl]? = some (.cells #[.int .i64 (L.n + 1), .int .i64 (framesB ([] :: P)).length, .int .i64 0, x, .int .i64 most] 148 (0, 0)) ∧ w.heap.size ≤ bl ∧ ¬ SS bl))
set_option maxRecDepth 100000 in
set_option maxHeartbeats 4000000 in
theorem compact_any (bx bl : Nat) (L : LS) (S : Nat → Prop) (most : Int) (a : Option Addr) (c : Nat) (P : List SL) (w : World) (h : LAt w bl (.pointer (some ⟨bx, 0, none⟩)) L S) (hS : ∀ k, S k → k < w.heap.size) (hT : ∀ w', Chg S w w' → Tab w')
    {s n : Nat} (hb : Bnd L.D s n) (hs : s ≤ 200000) (hn : n ≤ 800) (hn0 : 0 ≤ L.n ∧ L.n ≤ 99999) (hP : SLs w (.slice a P.length c) P) (hPl : P.length ≤ 90) (hPe : ∀ x ∈ P, x.l.length ≤ 2000) :
    Calls Tryz.prog 46 #[.pointer (some ⟨bx, 0, none⟩), .pointer (some ⟨bl, 0, none⟩), .int .i64 most, .slice a P.length c] w
      (CompP w (.pointer (some ⟨bx, 0, none⟩)) S most L (P.map SL.l) (P.all fullB) (compK doP (framesB ([] :: P.map SL.l)) (L.n + 1) 0 L.D)) := by
  have H := Lib.hid h
  have HSS := Lib.hid hS
  have HT := Lib.hid hT
  have HBN := Lib.hid hb
  have HP := Lib.hid hP
  have HPE := Lib.hid hPe
  have HSG := Lib.hid (lsegment_any L bl _ S w h)
  obtain ⟨hn00, hn01⟩ := hn0
  have hmf : ∀ fn first cap w, (Instr.makeFunc fn first cap).run Tryz.prog w = .ok (.func fn first cap) w := fun _ _ _ _ => rfl
  obtain ⟨b, hbd⟩ : ∃ b, b = framesB ([] :: P.map SL.l) := ⟨_, rfl⟩
  have hbl0 : b.length ≤ 200000 := by
    have h1 : (framesB ([] :: P.map SL.l)).length = 8 + (framesB (P.map SL.l)).length := by rw [framesB_cons, List.length_append, frameB_length]; rfl
    have h2 := frames_bound P (fun x hx => HPE.out x hx)
    rw [hbd]; omega
  have HBD := Lib.hid hbd
  rw [← hbd]
  obtain ⟨RR, hRR⟩ : ∃ r, r = compK doP b (L.n + 1) 0 L.D := ⟨_, rfl⟩
  have HRR := Lib.hid hRR
  rw [← hRR]
  obtain ⟨ok, hok⟩ : ∃ ok, ok = P.all fullB := ⟨_, rfl⟩
  have HOK := Lib.hid hok
  rw [← hok]
  clear hbd hRR hok
  clear h hS hT hb hP hPe
  go_enter Tryz.func46, Tryz.ntmps46
  go_wp2_with fail
  refine HSG.out.mono ?_
  rintro e w1 ⟨rfl, hw1⟩
  obtain rfl : w = w1 := hw1.symm
  clear hw1 HSG
  have hnx : ¬ 99999999 < L.n + 1 := by omega
  have HB1 : Hid (Below w.heap.size w (w.alloc (.cells #[.pointer (some ⟨bx, 0, none⟩), .slice none 0 0, .int .i64 (L.n + 1)] 154))) := (Below.refl _ _).alloc (Nat.le_refl _) _
  have HX1 : Hid ((w.alloc (.cells #[.pointer (some ⟨bx, 0, none⟩), .slice none 0 0, .int .i64 (L.n + 1)] 154)).heap[w.heap.size]? = some (.cells #[.pointer (some ⟨bx, 0, none⟩), .slice none 0 0, .int .i64 (L.n + 1)] 154 (0, 0))) := heap_alloc_new _ _
  go_upto_region 4 with fail
  generalize w.alloc (.cells #[.pointer (some ⟨bx, 0, none⟩), .slice none 0 0, .int .i64 (L.n + 1)] 154) = wa at *
  have y2 := cellAt HX1.out 2 rfl
  have hct := lcontains_any a c P wa (HP.out.later HB1.out) (by omega)
  rw [← HOK.out] at hct
  have HCT := Lib.hid hct
  clear hct
  go_wp2_with fail
  refine HCT.out.mono ?_
  rintro e w1 ⟨rfl, hw1⟩
  obtain rfl : wa = w1 := hw1
  clear HCT y2
  cases ok with
  | false =>
    go_wp2
    go_ret2
    refine ⟨fun k => S k ∧ k ≠ bl, H.out.dsk.frame (fun k _ hk => HB1.out.block k hk), fun k hk => ⟨.inl hk.1, Nat.lt_of_lt_of_le (HSS.out k hk.1) HB1.out.size⟩, Chg.ofBelow HB1.out, .inl ⟨rfl, rfl⟩⟩
  | true =>
    have HMK := Lib.hid (tmarked_any a c P wa (HP.out.later HB1.out) (by omega))
    go_wp2_with fail
    refine HMK.out.mono ?_
    rintro e w2 ⟨a2, c2, rfl, hsl2, hb2⟩
    have hjn := fjoin_any a2 c2 (⟨.slice none 0 0, []⟩ :: P) w2 hsl2 (by simp; omega) (fun x hx => by
      rcases List.mem_cons.1 hx with rfl | hx
      · simp
      · exact HPE.out x hx)
    rw [List.length_cons, List.map_cons, show framesB (([] : List UInt8) :: P.map SL.l) = b from HBD.out.symm] at hjn
    have HJN := Lib.hid hjn
    have HB2 := Lib.hid (HB1.out.trans (hb2.mono HB1.out.size))
    have HX2 := Lib.hid ((hb2.block _ (lt_of_heap HX1.out)).trans HX1.out)
    clear hsl2 hb2 hjn HMK HX1
    unfold BytesP at HJN
    go_wp2_with fail
    refine HJN.out.mono ?_
    rintro e w3 ⟨⟨fa, fc, rfl, hrow3⟩, hb3⟩
    have HB3 := Lib.hid (HB2.out.trans (hb3.mono HB2.out.size))
    have HX3 := Lib.hid ((hb3.block _ (lt_of_heap HX2.out)).trans HX2.out)
    have HR3 := Lib.hid hrow3
    have hs2 := HB2.out.size
    have hs2' : w.heap.size < w2.heap.size := lt_of_heap HX2.out
    clear hrow3 hb3 HJN HX2
    obtain ⟨y0, y1, y2⟩ := cells3 HX3.out
    have g1 := freeAt HX3.out 1
    go_upto_region 10 with fail
    have HX4 : Hid ((w3.setCell ⟨w.heap.size, 1, none⟩ (.slice fa b.length fc)).heap[w.heap.size]? = some (.cells #[.pointer (some ⟨bx, 0, none⟩), .slice fa b.length fc, .int .i64 (L.n + 1)] 154 (0, 0))) := heap_store HX3.out 1 _
    have HB4 : Hid (Below w.heap.size w (w3.setCell ⟨w.heap.size, 1, none⟩ (.slice fa b.length fc))) := HB3.out.setCell (p := ⟨w.heap.size, 1, none⟩) (Nat.le_refl _) _
    have HR4 : Hid (Row (w3.setCell ⟨w.heap.size, 1, none⟩ (.slice fa b.length fc)) 5 1 (.slice fa b.length fc) b.length (byts b) (fun k => w2.heap.size ≤ k)) := HR3.out.frame (fun k hk _ => Below.heap_setCell _ _ _ _ (fun e => by have e2 : k = w.heap.size := e; omega))
    have HD4 : Hid (DRep (w3.setCell ⟨w.heap.size, 1, none⟩ (.slice fa b.length fc)) (.pointer (some ⟨bx, 0, none⟩)) L.D (fun k => S k ∧ k ≠ bl)) := H.out.dsk.frame (fun k _ hk => HB4.out.block k hk)
    clear y0 y1 y2 g1 HX3 HB3 HR3 HB2 HP HPE
    generalize w3.setCell ⟨w.heap.size, 1, none⟩ (.slice fa b.length fc) = w4 at *
    go_wp2_with fail
    go_loopw [62] (fun i w' => ∃ (k : Nat) (D1 : DS) (S1 : Nat → Prop), k ≤ 6 ∧ i = .int .i64 k ∧ Hid (RR = compK doP b (L.n + 1) k D1) ∧ Hid (DRep w' (.pointer (some ⟨bx, 0, none⟩)) D1 S1) ∧ Hid (∀ j, S1 j → (S j ∨ w4.heap.size ≤ j) ∧ j < w'.heap.size) ∧ Hid (Chg S w4 w') ∧ Hid (Bnd D1 (s + (if k < 3 then 0 else b.length)) (n + k))) (fun i _ => 6 - (RowKit.intOf i).toNat)
    case atStart => exact ⟨0, L.D, _, by omega, rfl, HRR, HD4, fun j hj => ⟨.inl hj.1, Nat.lt_of_lt_of_le (HSS.out j hj.1) HB4.out.size⟩, Chg.refl _ _, by simpa [Hid] using HBN.out⟩
    case round =>
      obtain ⟨k, D1, S1, hk, rfl, HR, HD1, HS1, HC1, HB1'⟩ := hrel
      have HCW : Hid (Chg S w wr) := (Chg.ofBelow HB4.out : Chg S w w4).trans HC1.out (fun n hn => .inl hn)
      have hw4 : w.heap.size < w4.heap.size := lt_of_heap HX4.out
      have HXr := Lib.hid (HC1.out.heap HX4.out (fun h => by have := HSS.out _ h; omega))
      have hpw1 : ¬ S1 w.heap.size := fun h => by
        rcases (HS1.out _ h).1 with h1 | h1
        · have := HSS.out _ h1; omega
        · omega
      by_cases hlt : k < 6
      · have HRr : Hid (Row wr 5 1 (.slice fa b.length fc) b.length (byts b) (fun j => w2.heap.size ≤ j ∧ j < w4.heap.size)) := HR4.out.tight.frame (fun j hj hl => HC1.out.block j hl (fun h => by have := HSS.out j h; omega))
        have hwk : WorkAt wr w.heap.size (.pointer (some ⟨bx, 0, none⟩)) fa b fc (L.n + 1) S1 :=
          ⟨HXr.out, hpw1, HRr.out.reads, fun ad ha => by
            subst ha
            have h1 := HRr.out.at_block
            exact ⟨fun h => by
              rcases (HS1.out _ h).1 with h2 | h2
              · have := HSS.out _ h2; omega
              · omega, by have := HC1.out.size; omega⟩, fun w' hc => HT.out w' (HCW.out.trans hc (fun n hn => by rcases (HS1.out n hn).1 with h | h; exact .inl h; exact .inr (by omega))), fun j hj => (HS1.out j hj).2⟩
        have hplan := HB1'.out.plan
        have hlen1 := HB1'.out.len
        have hsum1 := HB1'.out.sum
        have hsp : s + (if k < 3 then 0 else b.length) ≤ 500000 := by split <;> omega
        obtain ⟨r, hr⟩ : ∃ r, r = stepK b (L.n + 1) k D1 := ⟨_, rfl⟩
        have HRS : Hid (RR = seqG r (compK doP b (L.n + 1) (k + 1))) := by rw [Hid, HR.out, compK_step b _ hlt, hr]
        have HBR : Hid (Bnd r.1 (s + (if k + 1 < 3 then 0 else b.length)) (n + (k + 1))) := by
          have h1 := bnd_stepK (b := b) (next := L.n + 1) (k := k) HB1'.out
          rw [← hr] at h1
          refine h1.more ?_ (by omega)
          split <;> split <;> split <;> omega
        have h6 : k = 0 ∨ k = 1 ∨ k = 2 ∨ k = 3 ∨ k = 4 ∨ k = 5 := by omega
        rcases h6 with rfl | rfl | rfl | rfl | rfl | rfl
        · have HST := Lib.hid (show Calls Tryz.prog 104 #[.pointer (some ⟨w.heap.size, 0, none⟩)] wr (DPost wr (.pointer (some ⟨bx, 0, none⟩)) S1 r) from by rw [hr]; exact wclean_any hwk HD1.out hplan (by omega) (fun g hg => by have := HB1'.out.nm g hg; unfold maxLen; omega))
          clear hr hwk hplan hlen1 hsum1 hsp HRr HR hpw1
          have hix := steps6_0 (.pointer (some ⟨w.heap.size, 0, none⟩))
          go_wp2_with fail
          refine HST.out.mono ?_
          clear hix
          rintro e w5 ⟨rfl, hd5, hc5⟩
          have HD5 := Lib.hid hd5.tight
          have hr4 := HC1.out.size
          have HC5 : Hid (Chg S w4 w5) := HC1.out.trans hc5 (fun j hj => (HS1.out j hj).1)
          have HS5 : Hid (∀ j, ((S1 j ∨ wr.heap.size ≤ j) ∧ j < w5.heap.size) → (S j ∨ w4.heap.size ≤ j) ∧ j < w5.heap.size) := fun j hj => ⟨by rcases hj.1 with h | h; exact (HS1.out j h).1; exact .inr (by omega), hj.2⟩
          clear hd5 hc5 HST
          obtain ⟨D5, cd⟩ := r
          simp only at HD5 HBR
          by_cases hcd : cd = 0
          · subst hcd
            have HR5 : Hid (RR = compK doP b (L.n + 1) (0 + 1) D5) := by rw [Hid, HRS.out]; unfold seqG; rw [if_neg (fun h => h rfl)]
            go_wp2_with fail
            go_roundw
            case rel => exact ⟨0 + 1, D5, _, by omega, by go_num, HR5, HD5, HS5, HC5, HBR⟩
            case measure => simp [RowKit.intOf] <;> omega
          · have hcn : (cd != 0) = true := by simpa using hcd
            have HR5 : Hid (RR = (D5, cd)) := by rw [Hid, HRS.out]; unfold seqG; rw [if_pos hcd]
            have HCN := Lib.hid hcd
            clear hcd
            go_wp2_with fail
            go_ret2
            refine ⟨_, by rw [if_pos rfl, HR5.out]; exact HD5.out, fun j hj => ⟨by rcases (HS5.out j hj).1 with h | h; exact .inl h; exact .inr (by omega), (HS5.out j hj).2⟩, (Chg.ofBelow HB4.out : Chg S w w4).trans HC5.out (fun n hn => .inl hn), .inr (.inl ⟨rfl, by rw [HR5.out]; exact HCN.out, by rw [HR5.out]; rfl⟩)⟩
        · have HST := Lib.hid (show Calls Tryz.prog 105 #[.pointer (some ⟨w.heap.size, 0, none⟩)] wr (DPost wr (.pointer (some ⟨bx, 0, none⟩)) S1 r) from by rw [hr]; exact wcreate_any hwk HD1.out hplan)
          clear hr hwk hplan hlen1 hsum1 hsp HRr HR hpw1
          have hix := steps6_1 (.pointer (some ⟨w.heap.size, 0, none⟩))
          go_wp2_with fail
          refine HST.out.mono ?_
          clear hix
          rintro e w5 ⟨rfl, hd5, hc5⟩
          have HD5 := Lib.hid hd5.tight
          have hr4 := HC1.out.size
          have HC5 : Hid (Chg S w4 w5) := HC1.out.trans hc5 (fun j hj => (HS1.out j hj).1)
          have HS5 : Hid (∀ j, ((S1 j ∨ wr.heap.size ≤ j) ∧ j < w5.heap.size) → (S j ∨ w4.heap.size ≤ j) ∧ j < w5.heap.size) := fun j hj => ⟨by rcases hj.1 with h | h; exact (HS1.out j h).1; exact .inr (by omega), hj.2⟩
          clear hd5 hc5 HST
          obtain ⟨D5, cd⟩ := r
          simp only at HD5 HBR
          by_cases hcd : cd = 0
          · subst hcd
            have HR5 : Hid (RR = compK doP b (L.n + 1) (1 + 1) D5) := by rw [Hid, HRS.out]; unfold seqG; rw [if_neg (fun h => h rfl)]
            go_wp2_with fail
            go_roundw
            case rel => exact ⟨1 + 1, D5, _, by omega, by go_num, HR5, HD5, HS5, HC5, HBR⟩
            case measure => simp [RowKit.intOf] <;> omega
          · have hcn : (cd != 0) = true := by simpa using hcd
            have HR5 : Hid (RR = (D5, cd)) := by rw [Hid, HRS.out]; unfold seqG; rw [if_pos hcd]
            have HCN := Lib.hid hcd
            clear hcd
            go_wp2_with fail
            go_ret2
            refine ⟨_, by rw [if_pos rfl, HR5.out]; exact HD5.out, fun j hj => ⟨by rcases (HS5.out j hj).1 with h | h; exact .inl h; exact .inr (by omega), (HS5.out j hj).2⟩, (Chg.ofBelow HB4.out : Chg S w w4).trans HC5.out (fun n hn => .inl hn), .inr (.inl ⟨rfl, by rw [HR5.out]; exact HCN.out, by rw [HR5.out]; rfl⟩)⟩
        · have HST := Lib.hid (show Calls Tryz.prog 106 #[.pointer (some ⟨w.heap.size, 0, none⟩)] wr (DPost wr (.pointer (some ⟨bx, 0, none⟩)) S1 r) from by rw [hr]; exact wwrite_any hwk HD1.out hplan (by omega) (by omega))
          clear hr hwk hplan hlen1 hsum1 hsp HRr HR hpw1
          have hix := steps6_2 (.pointer (some ⟨w.heap.size, 0, none⟩))
          go_wp2_with fail
          refine HST.out.mono ?_
          clear hix
          rintro e w5 ⟨rfl, hd5, hc5⟩
          have HD5 := Lib.hid hd5.tight
          have hr4 := HC1.out.size
          have HC5 : Hid (Chg S w4 w5) := HC1.out.trans hc5 (fun j hj => (HS1.out j hj).1)
          have HS5 : Hid (∀ j, ((S1 j ∨ wr.heap.size ≤ j) ∧ j < w5.heap.size) → (S j ∨ w4.heap.size ≤ j) ∧ j < w5.heap.size) := fun j hj => ⟨by rcases hj.1 with h | h; exact (HS1.out j h).1; exact .inr (by omega), hj.2⟩
          clear hd5 hc5 HST
          obtain ⟨D5, cd⟩ := r
          simp only at HD5 HBR
          by_cases hcd : cd = 0
          · subst hcd
            have HR5 : Hid (RR = compK doP b (L.n + 1) (2 + 1) D5) := by rw [Hid, HRS.out]; unfold seqG; rw [if_neg (fun h => h rfl)]
            go_wp2_with fail
            go_roundw
            case rel => exact ⟨2 + 1, D5, _, by omega, by go_num, HR5, HD5, HS5, HC5, HBR⟩
            case measure => simp [RowKit.intOf] <;> omega
          · have hcn : (cd != 0) = true := by simpa using hcd
            have HR5 : Hid (RR = (D5, cd)) := by rw [Hid, HRS.out]; unfold seqG; rw [if_pos hcd]
            have HCN := Lib.hid hcd
            clear hcd
            go_wp2_with fail
            go_ret2
            refine ⟨_, by rw [if_pos rfl, HR5.out]; exact HD5.out, fun j hj => ⟨by rcases (HS5.out j hj).1 with h | h; exact .inl h; exact .inr (by omega), (HS5.out j hj).2⟩, (Chg.ofBelow HB4.out : Chg S w w4).trans HC5.out (fun n hn => .inl hn), .inr (.inl ⟨rfl, by rw [HR5.out]; exact HCN.out, by rw [HR5.out]; rfl⟩)⟩
        · have HST := Lib.hid (show Calls Tryz.prog 107 #[.pointer (some ⟨w.heap.size, 0, none⟩)] wr (DPost wr (.pointer (some ⟨bx, 0, none⟩)) S1 r) from by rw [hr]; exact wsync_any hwk HD1.out hplan)
          clear hr hwk hplan hlen1 hsum1 hsp HRr HR hpw1
          have hix := steps6_3 (.pointer (some ⟨w.heap.size, 0, none⟩))
          go_wp2_with fail
          refine HST.out.mono ?_
          clear hix
          rintro e w5 ⟨rfl, hd5, hc5⟩
          have HD5 := Lib.hid hd5.tight
          have hr4 := HC1.out.size
          have HC5 : Hid (Chg S w4 w5) := HC1.out.trans hc5 (fun j hj => (HS1.out j hj).1)
          have HS5 : Hid (∀ j, ((S1 j ∨ wr.heap.size ≤ j) ∧ j < w5.heap.size) → (S j ∨ w4.heap.size ≤ j) ∧ j < w5.heap.size) := fun j hj => ⟨by rcases hj.1 with h | h; exact (HS1.out j h).1; exact .inr (by omega), hj.2⟩
          clear hd5 hc5 HST
          obtain ⟨D5, cd⟩ := r
          simp only at HD5 HBR
          by_cases hcd : cd = 0
          · subst hcd
            have HR5 : Hid (RR = compK doP b (L.n + 1) (3 + 1) D5) := by rw [Hid, HRS.out]; unfold seqG; rw [if_neg (fun h => h rfl)]
            go_wp2_with fail
            go_roundw
            case rel => exact ⟨3 + 1, D5, _, by omega, by go_num, HR5, HD5, HS5, HC5, HBR⟩
            case measure => simp [RowKit.intOf] <;> omega
          · have hcn : (cd != 0) = true := by simpa using hcd
            have HR5 : Hid (RR = (D5, cd)) := by rw [Hid, HRS.out]; unfold seqG; rw [if_pos hcd]
            have HCN := Lib.hid hcd
            clear hcd
            go_wp2_with fail
            go_ret2
            refine ⟨_, by rw [if_pos rfl, HR5.out]; exact HD5.out, fun j hj => ⟨by rcases (HS5.out j hj).1 with h | h; exact .inl h; exact .inr (by omega), (HS5.out j hj).2⟩, (Chg.ofBelow HB4.out : Chg S w w4).trans HC5.out (fun n hn => .inl hn), .inr (.inl ⟨rfl, by rw [HR5.out]; exact HCN.out, by rw [HR5.out]; rfl⟩)⟩
        · have HST := Lib.hid (show Calls Tryz.prog 108 #[.pointer (some ⟨w.heap.size, 0, none⟩)] wr (DPost wr (.pointer (some ⟨bx, 0, none⟩)) S1 r) from by rw [hr]; exact wrename_any hwk HD1.out hplan)
          clear hr hwk hplan hlen1 hsum1 hsp HRr HR hpw1
          have hix := steps6_4 (.pointer (some ⟨w.heap.size, 0, none⟩))
          go_wp2_with fail
          refine HST.out.mono ?_
          clear hix
          rintro e w5 ⟨rfl, hd5, hc5⟩
          have HD5 := Lib.hid hd5.tight
          have hr4 := HC1.out.size
          have HC5 : Hid (Chg S w4 w5) := HC1.out.trans hc5 (fun j hj => (HS1.out j hj).1)
          have HS5 : Hid (∀ j, ((S1 j ∨ wr.heap.size ≤ j) ∧ j < w5.heap.size) → (S j ∨ w4.heap.size ≤ j) ∧ j < w5.heap.size) := fun j hj => ⟨by rcases hj.1 with h | h; exact (HS1.out j h).1; exact .inr (by omega), hj.2⟩
          clear hd5 hc5 HST
          obtain ⟨D5, cd⟩ := r
          simp only at HD5 HBR
          by_cases hcd : cd = 0
          · subst hcd
            have HR5 : Hid (RR = compK doP b (L.n + 1) (4 + 1) D5) := by rw [Hid, HRS.out]; unfold seqG; rw [if_neg (fun h => h rfl)]
            go_wp2_with fail
            go_roundw
            case rel => exact ⟨4 + 1, D5, _, by omega, by go_num, HR5, HD5, HS5, HC5, HBR⟩
            case measure => simp [RowKit.intOf] <;> omega
          · have hcn : (cd != 0) = true := by simpa using hcd
            have HR5 : Hid (RR = (D5, cd)) := by rw [Hid, HRS.out]; unfold seqG; rw [if_pos hcd]
            have HCN := Lib.hid hcd
            clear hcd
            go_wp2_with fail
            go_ret2
            refine ⟨_, by rw [if_pos rfl, HR5.out]; exact HD5.out, fun j hj => ⟨by rcases (HS5.out j hj).1 with h | h; exact .inl h; exact .inr (by omega), (HS5.out j hj).2⟩, (Chg.ofBelow HB4.out : Chg S w w4).trans HC5.out (fun n hn => .inl hn), .inr (.inl ⟨rfl, by rw [HR5.out]; exact HCN.out, by rw [HR5.out]; rfl⟩)⟩
        · have HST := Lib.hid (show Calls Tryz.prog 109 #[.pointer (some ⟨w.heap.size, 0, none⟩)] wr (DPost wr (.pointer (some ⟨bx, 0, none⟩)) S1 r) from by rw [hr]; exact wremove_any hwk HD1.out HB1'.out (by omega))
          clear hr hwk hplan hlen1 hsum1 hsp HRr HR hpw1
          have hix := steps6_5 (.pointer (some ⟨w.heap.size, 0, none⟩))
          go_wp2_with fail
          refine HST.out.mono ?_
          clear hix
          rintro e w5 ⟨rfl, hd5, hc5⟩
          have HD5 := Lib.hid hd5.tight
          have hr4 := HC1.out.size
          have HC5 : Hid (Chg S w4 w5) := HC1.out.trans hc5 (fun j hj => (HS1.out j hj).1)
          have HS5 : Hid (∀ j, ((S1 j ∨ wr.heap.size ≤ j) ∧ j < w5.heap.size) → (S j ∨ w4.heap.size ≤ j) ∧ j < w5.heap.size) := fun j hj => ⟨by rcases hj.1 with h | h; exact (HS1.out j h).1; exact .inr (by omega), hj.2⟩
          clear hd5 hc5 HST
          obtain ⟨D5, cd⟩ := r
          simp only at HD5 HBR
          by_cases hcd : cd = 0
          · subst hcd
            have HR5 : Hid (RR = compK doP b (L.n + 1) (5 + 1) D5) := by rw [Hid, HRS.out]; unfold seqG; rw [if_neg (fun h => h rfl)]
            go_wp2_with fail
            go_roundw
            case rel => exact ⟨5 + 1, D5, _, by omega, by go_num, HR5, HD5, HS5, HC5, HBR⟩
            case measure => simp [RowKit.intOf] <;> omega
          · have hcn : (cd != 0) = true := by simpa using hcd
            have HR5 : Hid (RR = (D5, cd)) := by rw [Hid, HRS.out]; unfold seqG; rw [if_pos hcd]
            have HCN := Lib.hid hcd
            clear hcd
            go_wp2_with fail
            go_ret2
            refine ⟨_, by rw [if_pos rfl, HR5.out]; exact HD5.out, fun j hj => ⟨by rcases (HS5.out j hj).1 with h | h; exact .inl h; exact .inr (by omega), (HS5.out j hj).2⟩, (Chg.ofBelow HB4.out : Chg S w w4).trans HC5.out (fun n hn => .inl hn), .inr (.inl ⟨rfl, by rw [HR5.out]; exact HCN.out, by rw [HR5.out]; rfl⟩)⟩
      · obtain rfl : k = 6 := by omega
        have hsz := HCW.out.size
        have HRE : Hid (RR = (D1, 0)) := HR.out
        have hbw : Below wr.heap.size wr (wr.alloc (.cells #[.int .i64 (L.n + 1), .int .i64 b.length, .int .i64 0, .pointer (some ⟨bx, 0, none⟩), .int .i64 most] 148)) := (Below.refl _ _).alloc (Nat.le_refl _) _
        have HD9 := Lib.hid (HD1.out.frame (fun j _ hj => hbw.block j hj))
        have HC9 := Lib.hid (HCW.out.trans (Chg.ofBelow hbw : Chg S wr _) (fun n hn => .inl hn))
        have HN9 := Lib.hid (fun (h : S1 wr.heap.size) => by have h1 : wr.heap.size < wr.heap.size := (HS1.out _ h).2; omega)
        have y2 := cellAt HXr.out 2 rfl
        clear HR hbw hpw1 hlt
        go_wp2_with fail
        refine (lnew_any (some ⟨bx, 0, none⟩) most (L.n + 1) b.length wr).mono ?_
        rintro e w5 ⟨rfl, rfl⟩
        go_wp2
        go_ret2
        refine ⟨S1, by rw [if_pos rfl, HRE.out]; exact HD9.out, fun j hj => ⟨by rcases (HS1.out j hj).1 with h | h; exact .inl h; exact .inr (by omega), by have := (HS1.out j hj).2; simp; omega⟩, HC9.out, .inr (.inr ⟨rfl, by rw [HRE.out], wr.heap.size, rfl, by rw [← HBD.out]; exact heap_alloc_new _ _, hsz, fun h => Nat.lt_irrefl _ (HN9.out h)⟩)⟩
theorem mem_segs_fnd (D : DS) (n : Int) : n ∈ segsD D ↔ (1 ≤ n ∧ n ≤ 99999999 ∧ (fnd D (nameI n)).isSome = true) := mem_segs_iff D n
section
variable {φ0 φ ψ : FN} {L : List Int} {last : Int} {front : List UInt8} {j k : Nat}
end
end Go.Proofs.YtgdmdbdljmlkkaaGreatDoor
namespace Go.Proofs.YtgdmdbdljmlkkaaGreatDoor
theorem doR_calm {E : DS} (hd : E.down = false) (hp : E.plan = 0) (o : OP) : (doR E o).1.down = false ∧ (doR E o).1.plan = 0 ∧ (doR E o).1.room = E.room := by
  have hst : (stepF E).down = false ∧ (stepF E).plan = 0 ∧ (stepF E).room = E.room := ⟨hd, by show max (E.plan - 1) 0 = 0; rw [hp]; rfl, rfl⟩
  unfold doR
  generalize kN o.k = k
  unfold doF
  rw [if_neg (by rw [hd]; decide), if_neg (by rw [hp]; decide)]
  split
  · exact hst
  split
  · split <;> exact hst
  · cases hf : findD E.files o.n with
    | none => exact hst
    | some f =>
      simp only
      split
      · split <;> exact hst
      split
      · exact hst
      split <;> exact hst
theorem getD_mem {α : Type} {P : List (List α)} {k : Nat} (h : k < P.length) : P.getD k [] ∈ P := by
  rw [List.getD_eq_getElem?_getD, List.getElem?_eq_getElem h]; exact List.getElem_mem h
theorem fullL_id {X : List (List UInt8)} (h : ∀ r ∈ X, r ≠ []) : fullL X = X := by
  unfold fullL; exact List.filter_eq_self.2 (fun r hr => decide_eq_true (h r hr))
theorem empAt_id {X : List (List UInt8)} (h : ∀ r ∈ X, r ≠ []) (i : Nat) : empAt i X X.length = true := by
  unfold empAt
  rw [List.all_eq_true]
  intro j hj
  rw [List.mem_range] at hj
  exact decide_eq_true (.inl (h _ (getD_mem hj)))
theorem marked_noneB {b : List UInt8} (h : ∀ r ∈ (splitB b).1, r ≠ []) : markedB b = false := by
  rw [marked_split]
  refine decide_eq_false fun e => ?_
  cases hx : (splitB b).1 with
  | nil => rw [hx] at e; cases e
  | cons a l => rw [hx] at e; exact h a (by rw [hx]; simp) (Option.some.inj e)
end Go.Proofs.YtgdmdbdljmlkkaaGreatDoor
namespace Go.Proofs.YtgdmdbdljmlkkaaGreatDoor
open Go.RowKit
def compRL (D : DS) (n : Int) (b : List UInt8) : List OP := cleanL D [newNm] ++ [⟨1, newNm, ⟨#[]⟩, []⟩, ⟨2, newNm, ⟨#[]⟩, b⟩, ⟨3, newNm, ⟨#[]⟩, []⟩, ⟨4, newNm, nameI (n + 1), []⟩] ++ cleanL D (olderL (segsD D) (n + 1))
def compR (M : LS) (most : Int) (ok : Bool) (b : List UInt8) : LS × Int :=
  if ok = false then (M, 2)
  else if (stepsG doR M.D (compRL M.D M.n b)).2 = 0 then (⟨M.n + 1, b.length, 0, most, (stepsG doR M.D (compRL M.D M.n b)).1⟩, 0)
  else (⟨M.n, M.size, M.waiting, M.most, (stepsG doR M.D (compRL M.D M.n b)).1⟩, (stepsG doR M.D (compRL M.D M.n b)).2)
theorem seqG_pure (D : DS) (k : DS → DS × Int) : seqG (D, 0) k = k D := by simp [seqG]
theorem seqG_congr {r : DS × Int} {k k' : DS → DS × Int} (h : r.2 = 0 → k r.1 = k' r.1) : seqG r k = seqG r k' := by
  unfold seqG
  by_cases h0 : r.2 = 0
  · rw [if_neg (by rw [h0]; decide), if_neg (by rw [h0]; decide)]; exact h h0
  · rw [if_pos h0, if_pos h0]
theorem cleanG_steps (D : DS) : cleanG doR D newNm = stepsG doR D (cleanL D [newNm]) := by
  unfold cleanG cleanL
  by_cases h : (findD D.files newNm).isSome = true
  · rw [if_pos h, List.filter_cons_of_pos (by simpa using h)]
    exact (steps_one _ _ _).symm
  · rw [if_neg h, List.filter_cons_of_neg (by simpa using h)]
    rfl
theorem olderL_fnd {D E : DS} {n : Int} (h : ∀ m, m < n → 1 ≤ m → m ≤ 99999999 → fnd E (nameI m) = fnd D (nameI m)) : olderL (segsD E) n = olderL (segsD D) n := by
  unfold olderL
  congr 1
  refine inc_ext (List.Pairwise.sublist List.filter_sublist (inc_segs E)) (List.Pairwise.sublist List.filter_sublist (inc_segs D)) (fun m => ?_)
  rw [List.mem_filter, List.mem_filter, mem_segs_fnd, mem_segs_fnd]
  constructor
  · rintro ⟨⟨h1, h2, h3⟩, h4⟩
    exact ⟨⟨h1, h2, by rw [← h m (of_decide_eq_true h4) h1 h2]; exact h3⟩, h4⟩
  · rintro ⟨⟨h1, h2, h3⟩, h4⟩
    exact ⟨⟨h1, h2, by rw [h m (of_decide_eq_true h4) h1 h2]; exact h3⟩, h4⟩
theorem mem_older {D : DS} {n : Int} {x : ByteArray} (h : x ∈ olderL (segsD D) n) : ∃ m, x = nameI m ∧ 1 ≤ m ∧ m ≤ 99999999 ∧ m < n ∧ (fnd D x).isSome = true := by
  unfold olderL at h
  obtain ⟨m, hm, rfl⟩ := List.mem_map.1 h
  obtain ⟨h1, h2⟩ := List.mem_filter.1 hm
  obtain ⟨h3, h4, h5⟩ := (mem_segs_fnd D m).1 h1
  exact ⟨m, rfl, h3, h4, of_decide_eq_true h2, h5⟩
theorem cleanL_older (D : DS) (n : Int) : cleanL D (olderL (segsD D) n) = (olderL (segsD D) n).map rmO := by
  rw [cleanL_filter, List.filter_eq_self.2]
  intro x hx
  obtain ⟨m, -, -, -, -, h⟩ := mem_older hx
  exact h
theorem comp_steps {D : DS} (hd : D.down = false) (b : List UInt8) (n : Int) (hn : 0 ≤ n ∧ n ≤ 99999) : compK doR b (n + 1) 0 D = stepsG doR D (compRL D n b) := by
  have e0 : compK doR b (n + 1) 0 D = seqG (cleanG doR D newNm) fun D1 => seqG (stepsG doR D1 [⟨1, newNm, ⟨#[]⟩, []⟩, ⟨2, newNm, ⟨#[]⟩, b⟩, ⟨3, newNm, ⟨#[]⟩, []⟩, ⟨4, newNm, nameI (n + 1), []⟩]) fun D2 => stepsG doR D2 ((olderL (segsD D2) (n + 1)).map rmO) := by
    unfold compK
    refine seqG_congr fun _ => ?_
    simp only [stepsG, seqG_assoc, seqG_pure, seqG_ret]
  rw [e0, cleanG_steps]
  unfold compRL
  rw [stepsG_append, stepsG_append, seqG_assoc, cleanL_older]
  refine seqG_congr fun h1 => seqG_congr fun h2 => ?_
  obtain ⟨d1, f1⟩ := steps_ok _ hd h1
  obtain ⟨d2, f2⟩ := steps_ok _ d1 h2
  congr 2
  refine olderL_fnd fun m hm m1 m2 => ?_
  refine (f2 (nameI m) (fun o ho => ?_)).trans (f1 (nameI m) (fun o ho => ?_))
  · have hc := (nameI_cut m).2
    have hne : nameI m ≠ nameI (n + 1) := fun e => by have := nameI_inj ⟨m1, m2⟩ ⟨by omega, by omega⟩ e; omega
    simp only [List.mem_cons, List.not_mem_nil, or_false] at ho
    rcases ho with rfl | rfl | rfl | rfl <;> exact ⟨hc, fun _ => by first | exact hne | simp_all⟩
  · have hc := (nameI_cut m).2
    rw [cleanL_filter] at ho
    obtain ⟨x, hx, rfl⟩ := List.mem_map.1 ho
    have := (List.mem_filter.1 hx).1
    rw [List.mem_singleton] at this
    subst this
    exact ⟨hc, fun h => by simp at h⟩
theorem rel_compK {D F : DS} (h : Rel D F) (b : List UInt8) (n : Int) : (compK doP b n 0 D).2 = (compK doR b n 0 F).2 ∧ Rel (compK doP b n 0 D).1 (compK doR b n 0 F).1 := by
  have h0 : (cleanG doP D newNm).2 = (cleanG doR F newNm).2 ∧ Rel (cleanG doP D newNm).1 (cleanG doR F newNm).1 := by
    unfold cleanG
    rw [h.same]
    split
    · exact rel_do h _
    · exact ⟨rfl, h⟩
  unfold compK
  refine rel_seq h0 fun D F h => rel_seq (rel_do h _) fun D F h => rel_seq (rel_do h _) fun D F h => rel_seq (rel_do h _) fun D F h => rel_seq (rel_do h _) fun D F h => rel_seq ?_ fun D F h => ⟨rfl, h⟩
  rw [rel_segsD h]
  exact rel_steps _ h
theorem comp_rel {L M : LS} (h : RelL L M) (hd : M.D.down = false) (hn : 0 ≤ M.n ∧ M.n ≤ 99999) (b : List UInt8) : (compK doP b (L.n + 1) 0 L.D).2 = (stepsG doR M.D (compRL M.D M.n b)).2 ∧ Rel (compK doP b (L.n + 1) 0 L.D).1 (stepsG doR M.D (compRL M.D M.n b)).1 := by
  rw [h.n, ← comp_steps hd b M.n hn]
  exact rel_compK h.rel b (M.n + 1)
theorem eff_cre (n t : ByteArray) (b : List UInt8) (φ : FN) (x : ByteArray) : effO ⟨1, n, t, b⟩ φ x = if x = n then some ⟨n, [], 0⟩ else φ x := by
  unfold effO effK; rw [if_pos rfl]
theorem eff_app {φ : FN} {n t : ByteArray} {b : List UInt8} {f : DF} (h : φ n = some f) (x : ByteArray) : effO ⟨2, n, t, b⟩ φ x = if x = n then some ⟨n, f.b ++ b, f.d⟩ else φ x := by
  simp [effO, effK, h]
theorem eff_syn {φ : FN} {n t : ByteArray} {b : List UInt8} {f : DF} (h : φ n = some f) (x : ByteArray) : effO ⟨3, n, t, b⟩ φ x = if x = n then some ⟨n, f.b, f.b.length⟩ else φ x := by
  simp [effO, effK, h]
theorem eff_ren {φ : FN} {n t : ByteArray} {b : List UInt8} {f : DF} (h : φ n = some f) (x : ByteArray) : effO ⟨4, n, t, b⟩ φ x = if x = t then some ⟨t, f.b, f.d⟩ else if x = n then none else φ x := by
  simp [effO, effK, h]
open Classical in
theorem eff_rms (l : List ByteArray) : ∀ (φ : FN) (x : ByteArray), effL (l.map rmO) φ x = if x ∈ l then none else φ x := by
  induction l with
  | nil => intro φ x; simp [effL]
  | cons a l ih =>
    intro φ x
    have e : effL ((a :: l).map rmO) φ = effL (l.map rmO) (effO (rmO a) φ) := rfl
    rw [e, ih, effO_rm]
    by_cases h : x ∈ l
    · rw [if_pos h, if_pos (List.mem_cons_of_mem _ h)]
    · rw [if_neg h]
      by_cases h2 : x = a
      · rw [if_pos h2, if_pos (by rw [h2]; exact List.mem_cons_self ..)]
      · rw [if_neg h2, if_neg (by rw [List.mem_cons]; rintro (h3 | h3); exact h2 h3; exact h h3)]
def CompO (φ0 φ : FN) : Prop := ∀ x, x ≠ newNm → φ x = φ0 x
open Classical in
def CompN (φ0 : FN) (n : Int) (b : List UInt8) (old : List ByteArray) (φ : FN) : Prop := ∀ x, φ x = if x = nameI n then some ⟨nameI n, b, b.length⟩ else if x = newNm ∨ x ∈ old then none else φ0 x
theorem comp_eff (E : DS) (n : Int) (b : List UInt8) (hn : 0 ≤ n ∧ n ≤ 99999) (m : Nat) :
    (m < (compRL E n b).length ∧ CompO (fnd E) (effL ((compRL E n b).take m) (fnd E))) ∨ ∃ j, CompN (fnd E) (n + 1) b ((olderL (segsD E) (n + 1)).take j) (effL ((compRL E n b).take m) (fnd E)) ∧ (m = (compRL E n b).length → (olderL (segsD E) (n + 1)).take j = olderL (segsD E) (n + 1)) := by
  unfold compRL
  rw [cleanL_older]
  obtain ⟨A, hA⟩ : ∃ A, A = cleanL E [newNm] := ⟨_, rfl⟩
  rw [← hA]
  have hAk : ∀ k, CompO (fnd E) (effL (A.take k) (fnd E)) := fun k x hx => by
    rw [hA, cleanL_filter, ← List.map_take, eff_rms _ _ x, if_neg]
    intro h
    have h2 := (List.mem_filter.1 (List.mem_of_mem_take h)).1
    rw [List.mem_singleton] at h2
    exact hx h2
  obtain ⟨old, hold⟩ : ∃ l, l = olderL (segsD E) (n + 1) := ⟨_, rfl⟩
  have hon : nameI (n + 1) ∉ old := fun h => by
    rw [hold] at h
    obtain ⟨m, e, m1, m2, m3, -⟩ := mem_older h
    have := nameI_inj (a := n + 1) ⟨by omega, by omega⟩ ⟨m1, m2⟩ e
    omega
  have hnn : newNm ≠ nameI (n + 1) := fun e => (nameI_cut (n + 1)).2 e.symm
  rw [← hold, List.append_assoc, List.take_append, effL_append]
  have h1 := hAk m
  generalize effL (A.take m) (fnd E) = φ1 at *
  have e1 := eff_cre newNm ⟨#[]⟩ [] φ1
  have e2 := eff_app (φ := effO ⟨1, newNm, ⟨#[]⟩, []⟩ φ1) (n := newNm) (t := ⟨#[]⟩) (b := b) (f := ⟨newNm, [], 0⟩) (by rw [e1]; exact if_pos rfl)
  have e3 := eff_syn (φ := effO ⟨2, newNm, ⟨#[]⟩, b⟩ (effO ⟨1, newNm, ⟨#[]⟩, []⟩ φ1)) (n := newNm) (t := ⟨#[]⟩) (b := []) (f := ⟨newNm, [] ++ b, 0⟩) (by rw [e2]; exact if_pos rfl)
  have e4 := eff_ren (φ := effO ⟨3, newNm, ⟨#[]⟩, []⟩ (effO ⟨2, newNm, ⟨#[]⟩, b⟩ (effO ⟨1, newNm, ⟨#[]⟩, []⟩ φ1))) (n := newNm) (t := nameI (n + 1)) (b := []) (f := ⟨newNm, [] ++ b, ([] ++ b).length⟩) (by rw [e3]; exact if_pos rfl)
  have o1 : CompO (fnd E) (effO ⟨1, newNm, ⟨#[]⟩, []⟩ φ1) := fun x hx => by rw [e1, if_neg hx]; exact h1 x hx
  have o2 : CompO (fnd E) (effO ⟨2, newNm, ⟨#[]⟩, b⟩ (effO ⟨1, newNm, ⟨#[]⟩, []⟩ φ1)) := fun x hx => by rw [e2, if_neg hx]; exact o1 x hx
  have o3 : CompO (fnd E) (effO ⟨3, newNm, ⟨#[]⟩, []⟩ (effO ⟨2, newNm, ⟨#[]⟩, b⟩ (effO ⟨1, newNm, ⟨#[]⟩, []⟩ φ1))) := fun x hx => by rw [e3, if_neg hx]; exact o2 x hx
  generalize hk : m - A.length = k
  rw [List.take_append, effL_append]
  rcases Nat.lt_or_ge k 4 with h4 | h4
  · left
    refine ⟨by simp only [List.length_append, List.length_cons, List.length_nil]; omega, ?_⟩
    rw [show k - [(⟨1, newNm, ⟨#[]⟩, []⟩ : OP), ⟨2, newNm, ⟨#[]⟩, b⟩, ⟨3, newNm, ⟨#[]⟩, []⟩, ⟨4, newNm, nameI (n + 1), []⟩].length = 0 by simp; omega, List.take_zero]
    have : k = 0 ∨ k = 1 ∨ k = 2 ∨ k = 3 := by omega
    rcases this with rfl | rfl | rfl | rfl
    · exact h1
    · exact o1
    · exact o2
    · exact o3
  · right
    refine ⟨k - 4, ?_, fun hm => ?_⟩
    · rw [List.take_of_length_le (l := [(⟨1, newNm, ⟨#[]⟩, []⟩ : OP), ⟨2, newNm, ⟨#[]⟩, b⟩, ⟨3, newNm, ⟨#[]⟩, []⟩, ⟨4, newNm, nameI (n + 1), []⟩]) (by simp; omega)]
      have ef : effL [(⟨1, newNm, ⟨#[]⟩, []⟩ : OP), ⟨2, newNm, ⟨#[]⟩, b⟩, ⟨3, newNm, ⟨#[]⟩, []⟩, ⟨4, newNm, nameI (n + 1), []⟩] φ1 = effO ⟨4, newNm, nameI (n + 1), []⟩ (effO ⟨3, newNm, ⟨#[]⟩, []⟩ (effO ⟨2, newNm, ⟨#[]⟩, b⟩ (effO ⟨1, newNm, ⟨#[]⟩, []⟩ φ1))) := rfl
      rw [ef]
      intro x
      rw [← List.map_take, eff_rms, show k - [(⟨1, newNm, ⟨#[]⟩, []⟩ : OP), ⟨2, newNm, ⟨#[]⟩, b⟩, ⟨3, newNm, ⟨#[]⟩, []⟩, ⟨4, newNm, nameI (n + 1), []⟩].length = k - 4 from rfl]
      by_cases hx : x = nameI (n + 1)
      · rw [if_neg (by rw [hx]; exact fun h => hon (List.mem_of_mem_take h)), if_pos hx, e4, if_pos hx, List.nil_append]
      · rw [if_neg hx]
        by_cases hx2 : x ∈ old.take (k - 4)
        · rw [if_pos hx2, if_pos (.inr hx2)]
        · rw [if_neg hx2, e4, if_neg hx]
          by_cases hx3 : x = newNm
          · rw [if_pos hx3, if_pos (.inl hx3)]
          · rw [if_neg hx3, if_neg (by rintro (h | h); exact hx3 h; exact hx2 h)]
            exact o3 x hx3
    · apply List.take_of_length_le
      rw [List.length_append, List.length_append, List.length_map] at hm
      simp only [List.length_cons, List.length_nil] at hm
      omega
end Go.Proofs.YtgdmdbdljmlkkaaGreatDoor
