/- The law ScanAgain returns true. -/
import Derived.Test.YtgdmdbdljmlkkaaGreatDoorScan7
import Derived.Test.YtgdmdbdljmlkkaaGreatDoorScAgainL
import Derived.Test.YtgdmdbdljmlkkaaGreatDoorOpenFiles
import Derived.Test.YtgdmdbdljmlkkaaGreatDoorRFindW
namespace Go.Proofs.YtgdmdbdljmlkkaaGreatDoor
set_option linter.unusedVariables false
set_option linter.unusedSimpArgs false
open Go.RowKit

/-- A log that was opened: the program's disk and log, its records. -/
structure Opened (w : World) (x : Value) (D : DS) (S : Nat → Prop) (most : Int) (f : FR) (bl : Nat) (va : Option Addr) (vc : Nat) (X : List SL) : Prop where
  d : DRep w x D S
  blk : w.heap[bl]? = some (.cells #[.int .i64 (max f.last 1), .int .i64 f.front.length, .int .i64 0, x, .int .i64 most] 148 (0, 0))
  off : ¬ S bl
  lt : ∀ k, S k → k < w.heap.size
/-- The records lie where the disk does not. -/
structure RecsAt (w : World) (S : Nat → Prop) (va : Option Addr) (vc : Nat) (X : List RX) : Prop where
  row : Row w 72 1 (.slice va X.length vc) X.length (X.map RX.v) (fun k => ¬ S k)
  each : ∀ y ∈ X, Row w 5 1 y.v y.l.length (byts y.l) (fun k => ¬ S k)
theorem RecsAt.frame {w w' : World} {S : Nat → Prop} {va : Option Addr} {vc : Nat} {X : List RX} (h : RecsAt w S va vc X) (hc : Chg S w w') : RecsAt w' S va vc X :=
  ⟨h.row.frame (fun k hk hl => hc.block k hl hk), fun y hy => (h.each y hy).frame (fun k hk hl => hc.block k hl hk)⟩
theorem RecsAt.later {w w' : World} {S : Nat → Prop} {va : Option Addr} {vc : Nat} {X : List RX} (h : RecsAt w S va vc X) (hc : Below w.heap.size w w') : RecsAt w' S va vc X :=
  ⟨h.row.frame (fun k hk hl => hc.block k hl), fun y hy => (h.each y hy).frame (fun k hk hl => hc.block k hl)⟩
theorem RecsAt.sls {w : World} {S : Nat → Prop} {va : Option Addr} {vc : Nat} {X : List RX} (h : RecsAt w S va vc X) : SLs w (.slice va (X.map slOf).length vc) (X.map slOf) := by
  rw [List.length_map]
  exact sls_rx (B := 0) h.row (fun x hx => (h.each x hx).mono (fun k _ => Nat.zero_le k))

theorem openP_ok {w w' : World} {x : Value} {S : Nat → Prop} {most : Int} {f : FR} {r : DS × Int} {e : Ending} (h : OpenP w x S most f r e w') (h0 : r.2 = 0) :
    ∃ SS bl ra rc, ∃ X : List RX, e = .returned (.tuple #[.pointer (some ⟨bl, 0, none⟩), .slice ra X.length rc, .int .i64 0]) ∧ DRep w' x r.1 SS ∧ (∀ k, SS k → (S k ∨ w.heap.size ≤ k) ∧ k < w'.heap.size) ∧ Chg S w w' ∧
      w'.heap[bl]? = some (.cells #[.int .i64 (max f.last 1), .int .i64 f.front.length, .int .i64 0, x, .int .i64 most] 148 (0, 0)) ∧ ¬ SS bl ∧ w.heap.size ≤ bl ∧ RecsAt w' SS ra rc X ∧ X.map RX.l = f.recs := by
  obtain ⟨SS, ⟨hd, hss, hc⟩, ⟨h1, rfl⟩ | ⟨-, bl, ra, rc, X, rfl, hblk, hbl, hns, hrow, hrx, hre⟩⟩ := h
  · exact absurd h0 h1
  · exact ⟨SS, bl, ra, rc, X, rfl, hd, hss, hc, hblk, hns, hbl, ⟨hrow.mono (fun k hk => hk.2.1), fun y hy => (hrx y hy).mono (fun k hk => hk.2.1)⟩, hre⟩
theorem openP_bad {w w' : World} {x : Value} {S : Nat → Prop} {most : Int} {f : FR} {r : DS × Int} {e : Ending} (h : OpenP w x S most f r e w') (h0 : r.2 ≠ 0) :
    ∃ SS, e = .returned (.tuple #[.pointer none, .slice none 0 0, .int .i64 r.2]) ∧ DRep w' x r.1 SS ∧ (∀ k, SS k → (S k ∨ w.heap.size ≤ k) ∧ k < w'.heap.size) ∧ Chg S w w' := by
  obtain ⟨SS, ⟨hd, hss, hc⟩, ⟨h1, rfl⟩ | ⟨h1, _⟩⟩ := h
  · exact ⟨SS, rfl, hd, hss, hc⟩
  · exact absurd h1 h0
theorem openP_any {w w' : World} {x : Value} {S : Nat → Prop} {most : Int} {f : FR} {r : DS × Int} {e : Ending} (h : OpenP w x S most f r e w') :
    ∃ SS lp va ca n, e = .returned (.tuple #[.pointer lp, .slice va n ca, .int .i64 r.2]) ∧ DRep w' x r.1 SS ∧ (∀ k, SS k → (S k ∨ w.heap.size ≤ k) ∧ k < w'.heap.size) ∧ Chg S w w' := by
  by_cases h0 : r.2 = 0
  · obtain ⟨SS, bl, ra, rc, X, rfl, h1, h2, h3, -⟩ := openP_ok h h0
    exact ⟨SS, _, ra, rc, X.length, by rw [h0], h1, h2, h3⟩
  · obtain ⟨SS, rfl, h1, h2, h3⟩ := openP_bad h h0
    exact ⟨SS, none, none, 0, 0, rfl, h1, h2, h3⟩
theorem files_dur (P : List FI) : ∀ {E : DS}, E.down = false → E.plan = 0 → Durable (fnd E) → (filesG doR E P).down = false ∧ (filesG doR E P).plan = 0 ∧ (filesG doR E P).room = E.room ∧ Durable (fnd (filesG doR E P)) := by
  induction P with
  | nil => intro E h1 h2 h3; exact ⟨h1, h2, rfl, h3⟩
  | cons f P ih =>
    intro E h1 h2 h3
    obtain ⟨g1, g2, g3, g4⟩ := file_dur h1 h2 h3 f.n f.l
    obtain ⟨k1, k2, k3, k4⟩ := ih g1 g2 g4
    exact ⟨k1, k2, k3.trans g3, k4⟩

theorem open_room {E : DS} : (openS doR E).1.room = E.room := by
  by_cases hc : (findS E).code = 0
  · have hd : E.down = false := by
      cases h : E.down with
      | false => rfl
      | true => unfold findS at hc; rw [if_pos h] at hc; exact absurd (show (10 : Int) = 0 from hc) (by decide)
    rw [open_steps hd hc]
    obtain ⟨m, -, -, h, -⟩ := steps_eff (openOps (findS E) E) E
    exact h
  · unfold openS openG; rw [if_pos hc]

theorem bnd_openD {D : DS} {s n : Nat} (h : Bnd D s n) : Bnd (openS doP D).1 (s + s) (n + 5) := by
  have hf := (findS_small h).1
  unfold openS openG
  split
  · exact h.more (by omega) (by omega)
  · have h1 := bnd_wipe [cutNm, newNm] h
    refine bnd_seqG (h1.more (by omega) (by omega)) ?_
    unfold endG
    have hnm : (nameI (max (findS D).last 1)).size ≤ 300 := by have := nameI_size (max (findS D).last 1); omega
    have hnm2 : (nameI (findS D).last).size ≤ 300 := by have := nameI_size (findS D).last; omega
    split
    · have h2 : Bnd (createD (wipeG doP D [cutNm, newNm]).1 (nameI (max (findS D).last 1))).1 (s + s) (n + 5) := (bnd_create h1 _ hnm).more (by omega) (by omega)
      exact h2
    · have h2 : Bnd (repairG doP (findS D) (wipeG doP D [cutNm, newNm]).1).1 (s + (findS D).front.length) (n + 4) := bnd_repair (nameI (findS D).last) hnm2 (findS D) h1
      have h3 : Bnd (trimG doP (findS D) (repairG doP (findS D) (wipeG doP D [cutNm, newNm]).1).1).1 (s + (findS D).front.length) (n + 4) := bnd_wipe _ h2
      have h4 : Bnd (syncD (trimG doP (findS D) (repairG doP (findS D) (wipeG doP D [cutNm, newNm]).1).1).1 (nameI (max (findS D).last 1))).1 (s + (findS D).front.length) (n + 4) := bnd_sync h3 _
      exact bnd_seqG (h2.more (by omega) (by omega)) (bnd_seqG (h3.more (by omega) (by omega)) (h4.more (by omega) (by omega)))

/-- A log that can be opened, on both sides: opened, and found again. -/
theorem reopenD {D G : DS} (h : Rel D G) {s n : Nat} (hb : Bnd D s n) (hd : G.down = false) (hp : G.plan = 0) (hc : (findS D).code = 0) (hr : (findS D).torn ≠ 0 → (s + s : Int) ≤ G.room) :
    (openS doP D).2 = 0 ∧ Rel (openS doP D).1 (openS doR G).1 ∧ Bnd (openS doP D).1 (s + s) (n + 5) ∧ (openS doR G).1.down = false ∧ (openS doR G).1.plan = 0 ∧ (findS (openS doP D).1).code = 0 ∧ (findS (openS doP D).1).recs = (findS D).recs ∧
      (findS (openS doP D).1).last = max (findS D).last 1 ∧ (findS (openS doP D).1).front = (findS D).front ∧ (findS (openS doP D).1).torn = 0 := by
  have hf := rel_find h
  have hs := (findS_small hb).1
  have hsum := h.sum
  have hb1 := hb.sum
  obtain ⟨a1, a2, a3, a4, a5, a6, a7, a8⟩ := reopen hd hp (by rw [← hf]; exact hc) (fun ht => by
    have := hr (by rw [hf]; exact ht)
    rw [← hf]; omega)
  obtain ⟨r1, r2⟩ := rel_openS h
  have hf2 := rel_find r2
  rw [hf2, hf]
  exact ⟨r1.trans a1, r2, bnd_openD hb, a3, a2, a4, a5, a6, a7, a8⟩

/-- What ScanAgain meets. -/
structure AgainC (D : DS) (D3 : DS) : Prop where
  b3 : Bnd D3 3000 35
  c3 : (findS D3).code = (findS D).code
  e3 : (openS doP D3).2 = (findS D).code
  b4 : Bnd (openS doP D3).1 6000 40
  ok : (findS D).code = 0 → (findS D3).recs = (findS D).recs ∧ (openS doP (openS doP D3).1).2 = 0 ∧ (findS (openS doP D3).1).recs = (findS D).recs ∧ max (findS (openS doP D3).1).last 1 = max (findS D3).last 1 ∧ (findS (openS doP D3).1).front = (findS D3).front ∧
    Bnd (openS doP (openS doP D3).1).1 12000 45 ∧ (findS (openS doP (openS doP D3).1).1).torn = 0 ∧ (findS (openS doP (openS doP D3).1).1).code = 0
theorem again_facts {D : DS} {rm : Int} {l : List DF} {pl : Int} {dn : Bool} {P : List FI} (h : Rel D ⟨rm, l, pl, dn⟩) (hg : (⟨rm, l, pl, dn⟩ : DS) = filesG doR ⟨max 100000 0, [], 0, false⟩ P) (hb : Bnd D 1500 30) {p : Int} (hp0 : 0 ≤ p) (hp1 : p ≤ 255) :
    Bnd { D with plan := p } 1500 30 ∧ Bnd (openS doP { D with plan := p }).1 3000 35 ∧
    ∀ (ss : List (List UInt8)) (ks : List Int), ss.Pairwise (· < ·) → (∀ s : List UInt8, s ∈ ss ↔ ⟨s.toArray⟩ ∈ (openS doP { D with plan := p }).1.files.map DF.name) → AgainC D (crashN (openS doP { D with plan := p }).1 ss ks ss.length) := by
  obtain ⟨g1, g2, g3, g4⟩ := files_dur P (E := ⟨max 100000 0, [], 0, false⟩) rfl rfl (fun x f hx => by cases hx)
  rw [← hg] at g1 g2 g3 g4
  have hb1 : Bnd { D with plan := p } 1500 30 := ⟨hb.sum, hb.len, hb.nm, hb.nd, hp0, by show p ≤ _; omega⟩
  have hb2 := bnd_openD hb1
  refine ⟨hb1, hb2, fun ss ks h1 h2 => ?_⟩
  have hr1 : Rel { D with plan := p } { (⟨rm, l, pl, dn⟩ : DS) with plan := p } := rel_arm h p
  obtain ⟨-, hr2⟩ := rel_openS hr1
  have hr3 := rel_crash hr2 h1 h2 ks
  have hb3 : Bnd (crashN (openS doP { D with plan := p }).1 ss ks ss.length) 3000 35 := bnd_crash hb2 ss ks _
  have hroom : (openS doR { (⟨rm, l, pl, dn⟩ : DS) with plan := p }).1.room = 100000 := by rw [open_room]; exact g3
  obtain ⟨q1, q2⟩ := again_find (F := ⟨rm, l, pl, dn⟩) g1 g4 p ks ⟨(openS doR { (⟨rm, l, pl, dn⟩ : DS) with plan := p }).1.room, crashF (openS doR { (⟨rm, l, pl, dn⟩ : DS) with plan := p }).1.files ks, 0, false⟩ rfl rfl
  rw [← rel_find hr3, ← rel_find h] at q1 q2
  have hb4 := bnd_openD hb3
  generalize crashN (openS doP { D with plan := p }).1 ss ks ss.length = D3 at *
  generalize hG : (⟨(openS doR { (⟨rm, l, pl, dn⟩ : DS) with plan := p }).1.room, crashF (openS doR { (⟨rm, l, pl, dn⟩ : DS) with plan := p }).1.files ks, 0, false⟩ : DS) = G at *
  have hGr : G.room = 100000 := by rw [← hG]; exact hroom
  have hGd : G.down = false := by rw [← hG]
  have hGp : G.plan = 0 := by rw [← hG]
  refine ⟨hb3, q1, ?_, hb4, fun hc => ?_⟩
  · by_cases hc : (findS D).code = 0
    · rw [hc]
      exact (reopenD hr3 hb3 hGd hGp (by rw [q1]; exact hc) (fun _ => by rw [hGr]; decide)).1
    · unfold openS openG; rw [q1, if_pos hc]
  · obtain ⟨a1, a2, a3, a4, a5, a6, a7, a8, a9, a10⟩ := reopenD hr3 hb3 hGd hGp (by rw [q1]; exact hc) (fun _ => by rw [hGr]; decide)
    obtain ⟨b1, b2, b3, b4, b5, b6, b7, b8, b9, b10⟩ := reopenD a2 a3 a4 a5 a6 (fun h => absurd a10 h)
    exact ⟨q2, b1, a7.trans q2, by rw [a8]; omega, a9, b3, b10, b6⟩

set_option maxRecDepth 100000 in
set_option maxHeartbeats 4000000 in
theorem scanAgain_any (plan : Int) (a0 : Option Addr) (c0 : Nat) (P : List FI) (ka : Option Addr) (kc : Nat) (ks : List Int) (w : World) (h : FIs w (.slice a0 P.length c0) P) (hl : P.length ≤ 3518437208780) (hk : Reads w (.slice ka ks.length kc) ks.length 1 (ks.map (Value.int .i64))) (hkl : ks.length ≤ 9223372036854775807) (ht : Tab w) (hp : 0 ≤ plan ∧ plan ≤ 255) :
    Calls Tryz.prog 7 #[.slice a0 P.length c0, .int .u8 plan, .slice ka ks.length kc] w fun e w' => e = .returned (.bool true) ∧ Below w.heap.size w w' := by
  have HT := Lib.hid ht
  have HF := Lib.hid (files_any 100000 a0 c0 P w h hl)
  have HK0 := Lib.hid hk
  obtain ⟨hp0, hp1⟩ := hp
  clear h ht hk
  go_enter Tryz.func7, Tryz.ntmps7
  go_wp2_with fail
  refine HF.out.mono ?_
  rintro e w1 ⟨bx, D, S, rm, a, c, R, pl, dn, T, ok, rfl, hd, hr, hS, hTT, hrel, hb, hok⟩
  unfold rdisk
  have HBA : Hid (Below w.heap.size w (w1.alloc (.cells #[.int .i64 rm, .slice a R.length c, .int .i64 pl, .bool dn] 32))) := hb.alloc hb.size _
  have hba1 : Below w1.heap.size w1 (w1.alloc (.cells #[.int .i64 rm, .slice a R.length c, .int .i64 pl, .bool dn] 32)) := (Below.refl _ _).alloc (Nat.le_refl _) _
  have HDA := Lib.hid (hd.frame (fun k hk hl => hba1.block k hl))
  have HRA := Lib.hid (hr.below hba1)
  have HXA : Hid ((w1.alloc (.cells #[.int .i64 rm, .slice a R.length c, .int .i64 pl, .bool dn] 32)).heap[w1.heap.size]? = some (.cells #[.int .i64 rm, .slice a R.length c, .int .i64 pl, .bool dn] 32 (0, 0))) := heap_alloc_new _ _
  have HREL := Lib.hid hrel
  have HSS : Hid (∀ k, S k → w.heap.size ≤ k ∧ k < w1.heap.size) := fun k hk => hS k hk
  have HTT : Hid (∀ k, T k → ¬ S k) := fun k hk => (hTT k hk).2.2
  clear hr hTT hrel hb hd hS HF hba1
  have hal : ∀ w', Below w.heap.size w w' → Calls Tryz.prog 25 #[] w' fun e w'' => e = .returned (.bool true) ∧ Below w'.heap.size w' w'' := fun w' hb => scalive_any w' (tab_below HT.out hb)
  have HAL := Lib.hid hal
  clear hal
  cases ok with
  | false =>
    clear hok
    go_upto_region 2 with fail
    generalize w1.alloc (.cells #[.int .i64 rm, .slice a R.length c, .int .i64 pl, .bool dn] 32) = wa at *
    go_wp2_with fail
    refine (HAL.out wa HBA.out).mono ?_
    rintro e w2 ⟨rfl, hb2⟩
    have HB2 := Lib.hid (HBA.out.trans (hb2.mono HBA.out.size))
    clear hb2
    go_wp2
    go_ret
    exact ⟨rfl, HB2.out⟩
  | true =>
    obtain ⟨-, hfg, hbn⟩ := hok rfl
    clear hok
    go_upto_region 2 with fail
    have HLT : Hid (w1.heap.size < (w1.alloc (.cells #[.int .i64 rm, .slice a R.length c, .int .i64 pl, .bool dn] 32)).heap.size) := by simp [Hid]
    generalize w1.alloc (.cells #[.int .i64 rm, .slice a R.length c, .int .i64 pl, .bool dn] 32) = wa at *
    have HBN := Lib.hid hbn
    have HFG := Lib.hid hfg
    clear hbn hfg
    by_cases hk30 : ks.length ≤ 30
    · have hRl : R.length ≤ 1000 := by have h1 := HREL.out.len; have h2 := HBN.out.len; simp only [List.length_map] at h1; omega
      have hRb : ∀ r ∈ R, r.f.b.length ≤ 100000 := fun r hr => by
        have h1 := len_le_sum (List.mem_map_of_mem (f := RF.f) hr)
        have h2 : sumD D.files = sumD (R.map RF.f) := HREL.out.sum
        have h3 := HBN.out.sum
        omega
      have hrf := rfindlog_any rm pl dn (.slice a R.length c) R T wa HRA.out hRl hRb
      rw [← rel_find HREL.out] at hrf
      have HRF := Lib.hid hrf
      obtain ⟨hf1, hf2, hf3⟩ := again_facts HREL.out HFG.out HBN.out hp0 hp1
      have HF1 := Lib.hid hf1
      have HF2 := Lib.hid hf2
      have HF3 := Lib.hid hf3
      obtain ⟨x0, x1, x2, x3⟩ := cells4 HXA.out
      have hk31 : ¬ 30 < ks.length := by omega
      obtain ⟨f, hf⟩ : ∃ f, f = findS D := ⟨_, rfl⟩
      rw [← hf] at HRF
      have HFD := Lib.hid hf
      clear hRl hRb hrf HXA HFG hf1 hf2 hf3 hf HREL HBN
      unfold rdisk at HRF
      go_wp2_with fail
      refine HRF.out.mono ?_
      rintro e w2 ⟨hb2, L, va, vr, ca, cr, first, X, rfl, hLr, hXr, hxx, hxl, -, -, hxn⟩
      have hb2a : Below wa.heap.size wa (w2.alloc (.cells #[.slice va L.length ca, .int .i64 first, .int .i64 f.last, .slice vr X.length cr, .int .i64 f.front.length, .int .i64 f.torn, .int .i64 f.code] 61)) := hb2.alloc hb2.size _
      have HB3 := Lib.hid (HBA.out.trans (hb2a.mono HBA.out.size))
      have HY3 : Hid ((w2.alloc (.cells #[.slice va L.length ca, .int .i64 first, .int .i64 f.last, .slice vr X.length cr, .int .i64 f.front.length, .int .i64 f.torn, .int .i64 f.code] 61)).heap[w2.heap.size]? = some (.cells #[.slice va L.length ca, .int .i64 first, .int .i64 f.last, .slice vr X.length cr, .int .i64 f.front.length, .int .i64 f.torn, .int .i64 f.code] 61 (0, 0))) := heap_alloc_new _ _
      have HD3 := Lib.hid (HDA.out.frame (w' := w2.alloc (.cells #[.slice va L.length ca, .int .i64 first, .int .i64 f.last, .slice vr X.length cr, .int .i64 f.front.length, .int .i64 f.torn, .int .i64 f.code] 61)) (fun k hk hl => hb2a.block k hl))
      have HRA3 := Lib.hid (HRA.out.below hb2a)
      have HXR3 := Lib.hid (hXr.frame (w' := w2.alloc (.cells #[.slice va L.length ca, .int .i64 first, .int .i64 f.last, .slice vr X.length cr, .int .i64 f.front.length, .int .i64 f.torn, .int .i64 f.code] 61)) (fun k _ hk => Below.heap_alloc w2 _ _ hk))
      have HXX : Hid (∀ x ∈ X, RdR R x) := fun x hx => (hxx x hx).2
      have HXL := Lib.hid hxl
      have HXN := Lib.hid hxn
      have hsz : wa.heap.size ≤ w2.heap.size := hb2.size
      have HWA : Hid (w1.heap.size < w2.heap.size) := by have h1 := HLT.out; rw [Hid]; omega
      clear hb2 hb2a hLr hXr hxx hxl hxn HRF HDA HRA x0 x1 x2 x3 hk31
      unfold logV at *
      go_upto_region 5 with fail
      generalize w2.alloc (.cells #[.slice va L.length ca, .int .i64 first, .int .i64 f.last, .slice vr X.length cr, .int .i64 f.front.length, .int .i64 f.torn, .int .i64 f.code] 61) = w3 at *
      have hs3 : w2.heap.size < w3.heap.size := lt_of_heap HY3.out
      have HS3 : Hid (∀ k, S k → w.heap.size ≤ k ∧ k < w2.heap.size) := fun k hk => ⟨(HSS.out k hk).1, by have h1 := (HSS.out k hk).2; have h2 := HWA.out; omega⟩
      have hmp : max plan 0 = plan := by omega
      have har := arm_any (.pointer (some ⟨bx, 0, none⟩)) plan D S w3 HD3.out
      rw [hmp] at har
      have HAR := Lib.hid har
      clear har hmp HD3
      go_wp2_with fail
      refine HAR.out.mono ?_
      rintro e w4 ⟨rfl, hd4, hc4⟩
      have HC4 := Lib.hid hc4
      have HB4 : Hid (Below w.heap.size w w4) := HB3.out.trans (hc4.toBelow (B := w.heap.size) HB3.out.size (fun k hk h => by have := (HS3.out k h).1; omega))
      have hs4 := hc4.size
      have HOP := Lib.hid (scopen_any (.pointer (some ⟨bx, 0, none⟩)) { D with plan := plan } S 1000 w4 hd4 (fun k hk => by have h1 := (HS3.out k hk).2; omega) (fun w' hc => tab_below HT.out (HB4.out.trans (hc.toBelow (B := w.heap.size) HB4.out.size (fun k hk h => by have := (HS3.out k h).1; omega)))) HF1.out (by omega) (by omega))
      clear hd4 hc4 HAR
      go_wp2_with fail
      refine HOP.out.mono ?_
      intro e w5 hop
      obtain ⟨SS, lp5, va5, ca5, n5, rfl, hd5, hss5, hc5⟩ := openP_any hop
      have HC5 : Hid (Chg S w3 w5) := HC4.out.trans hc5 (fun n hn => .inl hn)
      have HS5 : Hid (∀ k, SS k → (S k ∨ w3.heap.size ≤ k) ∧ k < w5.heap.size) := fun k hk => ⟨by rcases (hss5 k hk).1 with h | h; exact .inl h; exact .inr (by omega), (hss5 k hk).2⟩
      have HB5 : Hid (Below w.heap.size w w5) := HB3.out.trans (HC5.out.toBelow (B := w.heap.size) HB3.out.size (fun k hk h => by have := (HS3.out k h).1; omega))
      have HSW5 : Hid (∀ k, SS k → w.heap.size ≤ k) := fun k hk => by
        rcases (HS5.out k hk).1 with h | h
        · exact (HS3.out k h).1
        · have := HB3.out.size; omega
      have HCR := Lib.hid (crash_any (.pointer (some ⟨bx, 0, none⟩)) ka kc ks _ SS w5 hd5 (by have := HF2.out.len; omega) (fun g hg => by have := HF2.out.nm g hg; unfold maxLen; omega) (HK0.out.later HB5.out) (by omega) (fun ad had hpos hS => by
        have h1 := HSW5.out _ hS
        obtain ⟨b, o, c', hv, -, hlt, -⟩ := HK0.out.at hpos
        injection hv with h2 h3 h4
        rw [had] at h2
        injection h2 with h2
        rw [h2] at h1
        have h5 : b < w.heap.size := hlt
        have h6 : w.heap.size ≤ b := h1
        omega))
      clear hop hd5 hss5 hc5 HOP HC4 HB4 hs4
      go_wp2_with fail
      refine HCR.out.mono ?_
      rintro e w6 ⟨ss, ⟨hp1', hp2'⟩, rfl, hd6, hc6⟩
      have HAC := Lib.hid (HF3.out ss ks hp1' hp2')
      generalize crashN (openS doP { D with plan := plan }).1 ss ks ss.length = D3 at *
      have HC6 : Hid (Chg S w3 w6) := HC5.out.trans hc6 (fun n hn => (HS5.out n hn).1)
      have HB6 : Hid (Below w.heap.size w w6) := HB3.out.trans (HC6.out.toBelow (B := w.heap.size) HB3.out.size (fun k hk h => by have := (HS3.out k h).1; omega))
      have hs6 := hc6.size
      have HOP2 := Lib.hid (scopen_any (.pointer (some ⟨bx, 0, none⟩)) D3 SS 1000 w6 hd6 (fun k hk => by have h1 := (HS5.out k hk).2; omega) (fun w' hc => tab_below HT.out (HB6.out.trans (hc.toBelow (B := w.heap.size) HB6.out.size (fun k hk h => by have := HSW5.out k h; omega)))) HAC.out.b3 (by omega) (by omega))
      have hs5 := HC5.out.size
      clear hd6 hc6 hp1' hp2' HF1 HF2 HF3 HCR
      by_cases hc0 : (findS D).code = 0
      · have hfc : f.code = 0 := by rw [HFD.out]; exact hc0
        have he0 : (openS doP D3).2 = 0 := by rw [HAC.out.e3]; exact hc0
        obtain ⟨k1, k2, k3, k4, k5, k6, k7, k8⟩ := HAC.out.ok hc0
        have HE0 := Lib.hid he0
        have HK1 := Lib.hid k1
        have HK2 := Lib.hid k2
        have HK3 := Lib.hid k3
        have HK4 := Lib.hid k4
        have HK5 := Lib.hid k5
        have HK6 := Lib.hid k6
        have HK7 := Lib.hid k7
        have HK8 := Lib.hid k8
        have HFC := Lib.hid hfc
        clear hc0 he0 hfc k1 k2 k3 k4 k5 k6 k7 k8
        go_wp2_with fail
        refine HOP2.out.mono ?_
        intro e w7 hop
        obtain ⟨SS2, bl, ra, rc, X2, rfl, hd7, hss7, hc7, hbk7, hns7, hbl7, hrc7, hre7⟩ := openP_ok hop HE0.out
        have HC7 : Hid (Chg S w3 w7) := HC6.out.trans hc7 (fun n hn => (HS5.out n hn).1)
        have HB7 : Hid (Below w.heap.size w w7) := HB3.out.trans (HC7.out.toBelow (B := w.heap.size) HB3.out.size (fun k hk h => by have := (HS3.out k h).1; omega))
        have HY7 := Lib.hid ((HC7.out.block w2.heap.size hs3 (fun h => by have := (HS3.out _ h).2; omega)).trans HY3.out)
        have HS7 : Hid (∀ k, SS2 k → (S k ∨ w3.heap.size ≤ k) ∧ w.heap.size ≤ k ∧ k < w7.heap.size) := fun k hk => by
          have h1 := (hss7 k hk).2
          have h3 := HB3.out.size
          rcases (hss7 k hk).1 with h | h
          · exact ⟨(HS5.out k h).1, HSW5.out k h, h1⟩
          · exact ⟨.inr (by omega), by omega, h1⟩
        have HOP3 := Lib.hid (scopen_any (.pointer (some ⟨bx, 0, none⟩)) _ SS2 1000 w7 hd7 (fun k hk => (HS7.out k hk).2.2) (fun w' hc => tab_below HT.out (HB7.out.trans (hc.toBelow (B := w.heap.size) HB7.out.size (fun k hk h => by have := (HS7.out k h).2.1; omega)))) HAC.out.b4 (by omega) (by omega))
        have HBK7 := Lib.hid hbk7
        have HNS7 := Lib.hid hns7
        have HRC7 := Lib.hid hrc7
        have HRE7 := Lib.hid hre7
        obtain ⟨y0, y1, y2, y3, y4, y5, y6⟩ := cells7 HY7.out
        rw [HFC.out] at y6
        clear hop hd7 hss7 hc7 hbk7 hns7 hbl7 hrc7 hre7 HOP2
        go_wp2_with fail
        refine HOP3.out.mono ?_
        intro e w8 hop
        obtain ⟨SS3, bl3, ra3, rc3, X3, rfl, hd8, hss8, hc8, hbk8, hns8, hbl8, hrc8, hre8⟩ := openP_ok hop HK2.out
        have HC8 : Hid (Chg S w3 w8) := HC7.out.trans hc8 (fun n hn => (HS7.out n hn).1)
        have HB8 : Hid (Below w.heap.size w w8) := HB3.out.trans (HC8.out.toBelow (B := w.heap.size) HB3.out.size (fun k hk h => by have := (HS3.out k h).1; omega))
        have HY8 := Lib.hid ((HC8.out.block w2.heap.size hs3 (fun h => by have := (HS3.out _ h).2; omega)).trans HY3.out)
        have HD8 := Lib.hid hd8
        have hb7 := lt_of_heap HBK7.out
        have HL1 : Hid (LAt w8 bl (.pointer (some ⟨bx, 0, none⟩)) ⟨max (findS D3).last 1, (findS D3).front.length, 0, 1000, (openS doP (openS doP D3).1).1⟩ (fun k => SS3 k ∨ k = bl)) :=
          ⟨(hc8.block bl hb7 HNS7.out).trans HBK7.out, hd8.mono (fun k hk => ⟨.inl hk, fun e => by rw [e] at hk; rcases (hss8 bl hk).1 with h | h; exact HNS7.out h; omega⟩), .inr rfl⟩
        have HL2 : Hid (LAt w8 bl3 (.pointer (some ⟨bx, 0, none⟩)) ⟨max (findS D3).last 1, (findS D3).front.length, 0, 1000, (openS doP (openS doP D3).1).1⟩ (fun k => SS3 k ∨ k = bl3)) :=
          ⟨by rw [← HK4.out, ← HK5.out]; exact hbk8, hd8.mono (fun k hk => ⟨.inl hk, fun e => hns8 (e ▸ hk)⟩), .inr rfl⟩
        have HG2 : Hid (SLs w8 (.slice ra X2.length rc) (X2.map slOf)) := by have := (HRC7.out.frame hc8).sls; rwa [List.length_map] at this
        have HG3 : Hid (SLs w8 (.slice ra3 X3.length rc3) (X3.map slOf)) := by have := hrc8.sls; rwa [List.length_map] at this
        have HR8 := HRA3.out.frame (w' := w8) (fun k hk hl => HC8.out.block k hl (HTT.out k hk))
        have HGX : Hid (SLs w8 (.slice vr X.length cr) X) := ⟨(HXR3.out.frame (w' := w8) (fun k hk hl => HC8.out.block k hl (fun h => by have h1 := (HSS.out k h).2; have h2 := HLT.out; omega))).reads, fun x hx => HXX.out x hx w8 (rdr_of HR8)⟩
        have HE2 : Hid ((X2.map slOf).map SL.l = X.map SL.l) := by
          rw [Hid, List.map_map, HXL.out, HFD.out, ← HK1.out, ← HRE7.out]; rfl
        have HE3 : Hid ((X3.map slOf).map SL.l = (X2.map slOf).map SL.l) := by
          rw [Hid, List.map_map, HE2.out, HXL.out, HFD.out, ← HK3.out, ← hre8]; rfl
        have HN2 : Hid ((X2.map slOf).length ≤ 1000000000) := by
          have h1 := congrArg List.length HE2.out
          have h2 := HXN.out
          simp only [List.length_map] at h1
          rw [Hid, List.length_map]; omega
        have HN3 : Hid ((X3.map slOf).length ≤ 1000000000) := by
          have h1 := congrArg List.length HE3.out
          have h2 := HN2.out
          simp only [List.length_map] at h1 h2
          rw [Hid, List.length_map]; omega
        have HSG1 : Hid (∀ w', Hid (Below w8.heap.size w8 w') → Calls Tryz.prog 35 #[.pointer (some ⟨bl, 0, none⟩)] w' fun e w'' => e = .returned (.int .i64 (max (findS D3).last 1)) ∧ w'' = w') := fun w' hb => lsegment_any _ bl _ _ w' (HL1.out.later hb.out)
        have HSG2 : Hid (∀ w', Hid (Below w8.heap.size w8 w') → Calls Tryz.prog 35 #[.pointer (some ⟨bl3, 0, none⟩)] w' fun e w'' => e = .returned (.int .i64 (max (findS D3).last 1)) ∧ w'' = w') := fun w' hb => lsegment_any _ bl3 _ _ w' (HL2.out.later hb.out)
        have HSI1 : Hid (∀ w', Hid (Below w8.heap.size w8 w') → Calls Tryz.prog 36 #[.pointer (some ⟨bl, 0, none⟩)] w' fun e w'' => e = .returned (.int .i64 (findS D3).front.length) ∧ w'' = w') := fun w' hb => lsize_any _ bl _ _ w' (HL1.out.later hb.out)
        have HSI2 : Hid (∀ w', Hid (Below w8.heap.size w8 w') → Calls Tryz.prog 36 #[.pointer (some ⟨bl3, 0, none⟩)] w' fun e w'' => e = .returned (.int .i64 (findS D3).front.length) ∧ w'' = w') := fun w' hb => lsize_any _ bl3 _ _ w' (HL2.out.later hb.out)
        have HTO : Hid (∀ w', Hid (Below w8.heap.size w8 w') → Calls Tryz.prog 33 #[.pointer (some ⟨bx, 0, none⟩)] w' fun e w'' => e = .returned (.int .i64 0) ∧ Below w'.heap.size w' w'') := fun w' hb => by
          have h1 := torn_any (.pointer (some ⟨bx, 0, none⟩)) _ SS3 w' (HD8.out.frame (fun k _ hk => hb.out.block k hk)) (tab_below HT.out (HB8.out.trans (hb.out.mono HB8.out.size))) (by have := HK6.out.len; omega) (by have := HK6.out.sum; omega) (fun g hg => by have := HK6.out.nm g hg; unfold maxLen; omega)
          rw [HK7.out, if_pos HK8.out] at h1
          exact h1
        generalize max (findS D3).last 1 = N at *
        generalize (findS D3).front.length = M at *
        obtain ⟨y0, y1, y2, y3, y4, y5, y6⟩ := cells7 HY8.out
        clear hop hd8 hss8 hc8 hbk8 hns8 hbl8 hrc8 hre8 HOP3 HR8 HL1 HL2 HY7
        clear y0 y1 y2 y3 y4 y5 y6
        go_wp2_with fail
        refine (HAL.out w8 HB8.out).mono ?_
        rintro e w9 ⟨rfl, hb9⟩
        have HB9 := Lib.hid hb9
        have HY9 := Lib.hid ((hb9.block _ (lt_of_heap HY8.out)).trans HY8.out)
        have y3 := cellAt HY9.out 3 (v := .slice vr X.length cr) rfl
        clear hb9
        go_wp2_with fail
        refine (rsameL_any _ _ (X2.map slOf) X w9 (HG2.out.later HB9.out) (HGX.out.later HB9.out) HE2.out HN2.out).mono ?_
        rintro e w10 ⟨rfl, hb10⟩
        have HB10 := belh_step (w0 := w8) HB9 hb10
        clear hb10 y3
        go_wp2_with fail
        refine (rsameL_any _ _ (X3.map slOf) (X2.map slOf) w10 (HG3.out.later HB10.out) (HG2.out.later HB10.out) HE3.out HN3.out).mono ?_
        rintro e w11 ⟨rfl, hb11⟩
        have HB11 := belh_step (w0 := w8) HB10 hb11
        clear hb11
        go_wp2_with fail
        refine (HTO.out w11 HB11).mono ?_
        rintro e w12 ⟨rfl, hb12⟩
        have HB12 := belh_step (w0 := w8) HB11 hb12
        clear hb12
        go_wp2_with fail
        refine (HSG1.out w12 HB12).mono ?_
        rintro e w13 ⟨rfl, rfl⟩
        go_wp2_with fail
        refine (HSG2.out _ HB12).mono ?_
        rintro e w14 ⟨rfl, rfl⟩
        go_wp2_with fail
        refine (HSI1.out _ HB12).mono ?_
        rintro e w15 ⟨rfl, rfl⟩
        go_wp2_with fail
        refine (HSI2.out _ HB12).mono ?_
        rintro e w16 ⟨rfl, rfl⟩
        go_wp2
        go_ret
        exact ⟨rfl, HB8.out.trans (HB12.out.mono HB8.out.size)⟩
      · have hfc : f.code ≠ 0 := by rw [HFD.out]; exact hc0
        have he0 : (openS doP D3).2 = f.code := by rw [HAC.out.e3, HFD.out]
        have HE0 := Lib.hid he0
        have hfc1 : (f.code != 0) = true := by simpa using hfc
        have HFC := Lib.hid hfc
        clear hc0 he0 hfc
        go_wp2_with fail
        refine HOP2.out.mono ?_
        intro e w7 hop
        obtain ⟨SS2, rfl, hd7, hss7, hc7⟩ := openP_bad hop (by rw [HE0.out]; exact HFC.out)
        rw [HE0.out]
        have HC7 : Hid (Chg S w3 w7) := HC6.out.trans hc7 (fun n hn => (HS5.out n hn).1)
        have HB7 : Hid (Below w.heap.size w w7) := HB3.out.trans (HC7.out.toBelow (B := w.heap.size) HB3.out.size (fun k hk h => by have := (HS3.out k h).1; omega))
        have HY7 := Lib.hid ((HC7.out.block w2.heap.size hs3 (fun h => by have := (HS3.out _ h).2; omega)).trans HY3.out)
        obtain ⟨y0, y1, y2, y3, y4, y5, y6⟩ := cells7 HY7.out
        clear hop hd7 hss7 hc7 HOP2
        go_wp2_with fail
        refine (HAL.out w7 HB7.out).mono ?_
        rintro e w8 ⟨rfl, hb8⟩
        have HB8 := Lib.hid (HB7.out.trans (hb8.mono HB7.out.size))
        clear hb8 y0 y1 y2 y3 y4 y5 y6
        go_wp2
        go_ret
        exact ⟨rfl, HB8.out⟩
    · have hk31 : 30 < ks.length := by omega
      clear hk30
      go_wp2_with fail
      refine (HAL.out wa HBA.out).mono ?_
      rintro e w2 ⟨rfl, hb2⟩
      have HB2 := Lib.hid (HBA.out.trans (hb2.mono HBA.out.size))
      clear hb2
      go_wp2
      go_ret
      exact ⟨rfl, HB2.out⟩
end Go.Proofs.YtgdmdbdljmlkkaaGreatDoor
