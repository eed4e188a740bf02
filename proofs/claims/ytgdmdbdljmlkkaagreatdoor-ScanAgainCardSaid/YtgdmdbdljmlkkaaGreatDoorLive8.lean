/- A log in its first segment on a new disk: the law's start, and the reference's New.
A log on a disk that the law made, whose segments hold just its records. -/
import Derived.Test.YtgdmdbdljmlkkaaGreatDoorRefLog
import Derived.Test.YtgdmdbdljmlkkaaGreatDoorWRecs
import Derived.Test.YtgdmdbdljmlkkaaGreatDoorWal3
import Derived.Test.YtgdmdbdljmlkkaaGreatDoorWalPut
namespace Go.Proofs.YtgdmdbdljmlkkaaGreatDoor
set_option linter.unusedVariables false
set_option linter.unusedSimpArgs false
open Go.RowKit

def seg0 : Seg := ⟨0, [], [], 0⟩
theorem nameI_one : nameI 1 = ⟨#[108, 111, 103, 45, 48, 48, 48, 48, 48, 48, 48, 49]⟩ := by decide +kernel
theorem segD0 (room : Int) : segD room seg0 = ⟨room, [⟨nameI 1, [], 0⟩], 0, false⟩ := by
  unfold segD Seg.files Seg.last seg0
  simp [preF, framesB]
theorem segL0 (room most : Int) : segL room most seg0 = ⟨1, 0, 0, most, ⟨room, [⟨nameI 1, [], 0⟩], 0, false⟩⟩ := by
  have h := segD0 room
  unfold segL
  rw [h]
  simp [seg0, framesB]
theorem seg0_good (most : Int) : seg0.good most where
  num := by decide
  wt := Nat.le_refl _
  lens := by intro r hr; simp [seg0, Seg.all] at hr
  fit := by intro c hc; right; simpa [seg0] using hc
theorem createD_new (room : Int) : createD ⟨room, [], 0, false⟩ (nameI 1) = (⟨room, [⟨nameI 1, [], 0⟩], 0, false⟩, 0) := by
  have hn : namedB (nameI 1) = true := nameI_named (n := 1) (by decide) (by decide)
  unfold createD beginD
  simp [hn, findD]
  decide
theorem doF_new (room : Int) : doF 1 ⟨room, [], 0, false⟩ (nameI 1) ⟨#[]⟩ [] = (⟨room, [⟨nameI 1, [], 0⟩], 0, false⟩, 0) :=
  doF_create (D := ⟨room, [], 0, false⟩) rfl rfl (nameI_named (n := 1) (by decide) (by decide)) rfl
theorem rel_refl0 (room : Int) : Rel ⟨room, [⟨nameI 1, [], 0⟩], 0, false⟩ ⟨room, [⟨nameI 1, [], 0⟩], 0, false⟩ := ⟨rfl, rfl, rfl, by simp, by simp, fun _ => rfl⟩
theorem relL_refl0 (room most : Int) : RelL (segL room most seg0) (segL room most seg0) := ⟨rfl, rfl, rfl, rfl, by rw [segL0]; exact rel_refl0 room⟩

set_option maxRecDepth 100000 in
set_option maxHeartbeats 1000000 in
theorem start_any (room most : Int) (w : World) :
    Calls Tryz.prog 16 #[.int .i64 room, .int .i64 most] w fun e w' => ∃ bx bl, e = .returned (.tuple #[.pointer (some ⟨bx, 0, none⟩), .pointer (some ⟨bl, 0, none⟩)]) ∧
      LAt w' bl (.pointer (some ⟨bx, 0, none⟩)) (segL (max room 0) most seg0) (fun k => w.heap.size ≤ k ∧ k < w'.heap.size) ∧ Below w.heap.size w w' := by
  rw [segL0, nameI_one]
  go_enter Tryz.func16, Tryz.ntmps16
  go_wp2_with fail
  refine (new_any room w).mono ?_
  rintro e w1 ⟨x, rfl, hr1, hb1⟩
  obtain ⟨bx, rfl⟩ : ∃ bx, x = .pointer (some ⟨bx, 0, none⟩) := by
    obtain ⟨bx, bm, col, pv, h, -⟩ := hr1
    exact ⟨bx, h⟩
  have HB1 := Lib.hid hb1
  have HC := Lib.hid (create_any (.pointer (some ⟨bx, 0, none⟩)) (nameI 1) ⟨max room 0, [], 0, false⟩ _ w1 hr1.tight (by show (0 : Int) ≤ 0 ∧ (0 : Int) ≤ 9223372036854775807; omega))
  rw [createD_new] at HC
  rw [nameI_one] at HC
  clear hr1 hb1
  go_wp2_with fail
  refine HC.out.mono ?_
  rintro e w2 ⟨rfl, hd, hch⟩
  have HD := Lib.hid hd.tight
  have HB2 : Hid (Below w.heap.size w w2) := HB1.out.trans (hch.toBelow HB1.out.size (fun k hk e => by have := e.1; omega))
  clear hd hch HC
  go_wp2_with fail
  refine (lnew_any (some ⟨bx, 0, none⟩) most 1 0 w2).mono ?_
  rintro e w3 ⟨rfl, rfl⟩
  have HL : Hid (LAt (w2.alloc (.cells #[.int .i64 1, .int .i64 0, .int .i64 0, .pointer (some ⟨bx, 0, none⟩), .int .i64 most] 148)) w2.heap.size (.pointer (some ⟨bx, 0, none⟩)) ⟨1, 0, 0, most, ⟨max room 0, [⟨⟨#[108, 111, 103, 45, 48, 48, 48, 48, 48, 48, 48, 49]⟩, [], 0⟩], 0, false⟩⟩ (fun k => w.heap.size ≤ k ∧ k < (w2.alloc (.cells #[.int .i64 1, .int .i64 0, .int .i64 0, .pointer (some ⟨bx, 0, none⟩), .int .i64 most] 148)).heap.size)) := by
    have hs := HB2.out.size
    have hs1 := HB1.out.size
    refine ⟨heap_alloc_new _ _, (HD.out.frame (fun k _ hk => Below.heap_alloc _ _ _ hk)).mono (fun k hk => ?_), hs, by simp⟩
    obtain ⟨h1, h2⟩ := hk
    rw [World.size_alloc]
    rcases h1 with h1 | h1
    · exact ⟨⟨h1.1, by omega⟩, by omega⟩
    · exact ⟨⟨by omega, by omega⟩, by omega⟩
  have HB3 := Lib.hid (HB2.out.alloc HB2.out.size (.cells #[.int .i64 1, .int .i64 0, .int .i64 0, .pointer (some ⟨bx, 0, none⟩), .int .i64 most] 148))
  generalize w2.alloc (.cells #[.int .i64 1, .int .i64 0, .int .i64 0, .pointer (some ⟨bx, 0, none⟩), .int .i64 most] 148) = w3 at *
  go_wp2
  go_ret2
  exact ⟨bx, _, rfl, HL.out, HB3.out⟩

set_option maxRecDepth 100000 in
set_option maxHeartbeats 2000000 in
theorem rnewL_any (room most : Int) (w : World) :
    Calls Tryz.prog 18 #[.int .i64 room, .int .i64 most] w fun e w' => ∃ v R, e = .returned (rlog v (segL (max room 0) most seg0)) ∧ R.map RF.f = (segL (max room 0) most seg0).D.files ∧ RLi w' v R (fun k => w.heap.size ≤ k) ∧ Below w.heap.size w w' := by
  rw [segL0, nameI_one]
  have HDO : Hid (∀ w', Calls Tryz.prog 64 #[.agg #[.int .i64 (max room 0), .slice none 0 0, .int .i64 0, .bool false], .agg #[.int .i64 1, .string ⟨#[108, 111, 103, 45, 48, 48, 48, 48, 48, 48, 48, 49]⟩, .string ⟨#[]⟩, .slice none 0 0]] w' (DoP w' (fun _ => False) (⟨max room 0, [⟨⟨#[108, 111, 103, 45, 48, 48, 48, 48, 48, 48, 48, 49]⟩, [], 0⟩], 0, false⟩, 0))) := fun w' => by
    have := rdo1_any (max room 0) 0 false (.slice none 0 0) [] (fun _ => False) (nameI 1) ⟨#[]⟩ [] none 0 w' (RLi.nil _ _) (by simp) (by omega) (by have := nameI_size 1; omega) (Nat.zero_le _) (Reads.nil _ _) (by simp [sumR])
    rw [show doF 1 ⟨max room 0, ([] : List RF).map RF.f, 0, false⟩ (nameI 1) ⟨#[]⟩ [] = _ from doF_new (max room 0)] at this
    rw [nameI_one] at this
    exact this.mono (fun e w2 he => dop_of he)
  have HB0 : Hid (Below w.heap.size w (w.alloc (.cells #[.int .i64 0, .slice none 0 0, .int .i64 0, .bool false, .int .i64 0, .int .i64 0, .int .i64 0, .int .i64 0] 34))) := (Below.refl _ _).alloc (Nat.le_refl _) _
  have HX0 : Hid ((w.alloc (.cells #[.int .i64 0, .slice none 0 0, .int .i64 0, .bool false, .int .i64 0, .int .i64 0, .int .i64 0, .int .i64 0] 34)).heap[w.heap.size]? = some (.cells #[.int .i64 0, .slice none 0 0, .int .i64 0, .bool false, .int .i64 0, .int .i64 0, .int .i64 0, .int .i64 0] 34 (0, 0))) := heap_alloc_new _ _
  go_enter Tryz.func18, Tryz.ntmps18
  go_wp2_with fail
  refine (HDO.out _).mono ?_
  rintro e w3 ⟨a3, c3, R3, rfl, hf3, hr3, hb3⟩
  simp only at hf3 hr3
  have HB1 := Lib.hid (HB0.out.trans (hb3.mono HB0.out.size))
  have HX1 := Lib.hid ((hb3.block _ (lt_of_heap HX0.out)).trans HX0.out)
  have HF := Lib.hid hf3
  have HR := Lib.hid ((hr3.tight.below (w' := w3.alloc (.cells #[.int .i64 (max room 0), .slice a3 R3.length c3, .int .i64 0, .bool false] 32)) ((Below.refl _ _).alloc (Nat.le_refl _) _)))
  have hsz := HB1.out.size
  have HS3 : Hid (w.heap.size + 1 ≤ w3.heap.size) := by have := hb3.size; simp only [World.size_alloc] at this; exact this
  have HS0 : Hid ((w.alloc (.cells #[.int .i64 0, .slice none 0 0, .int .i64 0, .bool false, .int .i64 0, .int .i64 0, .int .i64 0, .int .i64 0] 34)).heap.size = w.heap.size + 1) := World.size_alloc _ _
  clear hf3 hr3 hb3 HDO HX0 HB0
  go_upto_region 2 with fail
  have HX2 : Hid ((w3.alloc (.cells #[.int .i64 (max room 0), .slice a3 R3.length c3, .int .i64 0, .bool false] 32)).heap[w.heap.size]? = _) := (Below.heap_alloc _ _ _ (lt_of_heap HX1.out)).trans HX1.out
  have HD2 : Hid ((w3.alloc (.cells #[.int .i64 (max room 0), .slice a3 R3.length c3, .int .i64 0, .bool false] 32)).heap[w3.heap.size]? = some (.cells #[.int .i64 (max room 0), .slice a3 R3.length c3, .int .i64 0, .bool false] 32 (0, 0))) := heap_alloc_new _ _
  have HB2 := Lib.hid (HB1.out.alloc HB1.out.size (.cells #[.int .i64 (max room 0), .slice a3 R3.length c3, .int .i64 0, .bool false] 32))
  generalize w3.alloc (.cells #[.int .i64 (max room 0), .slice a3 R3.length c3, .int .i64 0, .bool false] 32) = w4 at *
  clear HX1 HB1
  obtain ⟨y0, y1, y2, y3⟩ := cells4 HD2.out
  obtain ⟨z0, z1, z2, z3, z4, z5, z6, z7⟩ := cells8w HX2.out
  have q0 := freeAt HX2.out 0
  have q1 := freeAt HX2.out 1
  have q2 := freeAt HX2.out 2
  have q3 := freeAt HX2.out 3
  have q4 := freeAt HX2.out 4
  have q5 := freeAt HX2.out 5
  have q6 := freeAt HX2.out 6
  have q7 := freeAt HX2.out 7
  go_wp2
  try simp only [Exit.inBlock, Exit.then]
  have hno : ¬ ((False ∨ (w.alloc (.cells #[.int .i64 0, .slice none 0 0, .int .i64 0, .bool false, .int .i64 0, .int .i64 0, .int .i64 0, .int .i64 0] 34)).heap.size ≤ w.heap.size) ∧ w.heap.size < w3.heap.size) := by rw [HS0.out]; rintro ⟨h | h, -⟩; exact h; omega
  refine rlog_end1 Tryz.results18 (b2 := w.heap.size) (room := max room 0) (plan := 0) (down := false) (n := 1) (size := 0) (wt := 0) (most := most) HX2.out rfl ⟨.slice a3 R3.length c3, R3, rfl, HF.out, ?_, ?_⟩
  · exact ((((((((HR.out.store (p := ⟨w.heap.size, 0, none⟩) hno _).store (p := ⟨w.heap.size, 1, none⟩) hno _).store (p := ⟨w.heap.size, 2, none⟩) hno _).store (p := ⟨w.heap.size, 3, none⟩) hno _).store (p := ⟨w.heap.size, 4, none⟩) hno _).store (p := ⟨w.heap.size, 5, none⟩) hno _).store (p := ⟨w.heap.size, 6, none⟩) hno _).store (p := ⟨w.heap.size, 7, none⟩) hno _).mono (fun k hk => by have := hk.1; rw [HS0.out] at this; rcases this with h | h; exact h.elim; omega)
  · exact (((((((HB2.out.setCell (p := ⟨w.heap.size, 0, none⟩) (Nat.le_refl _) _).setCell (p := ⟨w.heap.size, 1, none⟩) (Nat.le_refl _) _).setCell (p := ⟨w.heap.size, 2, none⟩) (Nat.le_refl _) _).setCell (p := ⟨w.heap.size, 3, none⟩) (Nat.le_refl _) _).setCell (p := ⟨w.heap.size, 4, none⟩) (Nat.le_refl _) _).setCell (p := ⟨w.heap.size, 5, none⟩) (Nat.le_refl _) _).setCell (p := ⟨w.heap.size, 6, none⟩) (Nat.le_refl _) _).setCell (p := ⟨w.heap.size, 7, none⟩) (Nat.le_refl _) _
end Go.Proofs.YtgdmdbdljmlkkaaGreatDoor
namespace Go.Proofs.YtgdmdbdljmlkkaaGreatDoor
set_option linter.unusedVariables false
set_option linter.unusedSimpArgs false
open Go.RowKit

structure Live8 (w0 w : World) (bl bx : Nat) (L : LS) (room most : Int) (s : Seg) (q : Nat) (S : Nat → Prop) : Prop where
  log : LAt w bl (.pointer (some ⟨bx, 0, none⟩)) L S
  sub : ∀ k, S k → w0.heap.size ≤ k ∧ k < w.heap.size
  rel : RelL L (segL room most s)
  bnd : BndL L (q * 2008) (q + 1) (2 * q + 1)
  bel : Below w0.heap.size w0 w
  good : s.good most
section
variable {w0 w w' : World} {bl bx : Nat} {L : LS} {room most : Int} {s : Seg} {q : Nat} {S : Nat → Prop}
theorem Live8.later (h : Live8 w0 w bl bx L room most s q S) (hb : Below w.heap.size w w') : Live8 w0 w' bl bx L room most s q S where
  log := h.log.later hb
  sub := fun k hk => ⟨(h.sub k hk).1, Nat.lt_of_lt_of_le (h.sub k hk).2 hb.size⟩
  rel := h.rel
  bnd := h.bnd
  bel := h.bel.trans (hb.mono h.bel.size)
  good := h.good
theorem Live8.mostEq (h : Live8 w0 w bl bx L room most s q S) : L.most = most := h.rel.most
theorem Live8.chg (h : Live8 w0 w bl bx L room most s q S) (hc : Chg S w w') : Below w0.heap.size w0 w' :=
  h.bel.trans (hc.toBelow h.bel.size (fun k hk e => by have := h.sub k e; omega))
/-- Put. -/
theorem Live8.put (h : Live8 w0 w bl bx L room most s q S) (ht : Tab w0) (hq : q ≤ 300) (hm : -1000000 ≤ most ∧ most ≤ 1000000) (ra : Option Addr) (rc : Nat) (r : List UInt8) (hr : Reads w (.slice ra r.length rc) r.length 1 (byts r)) (hl : r.length ≤ 2000)
    (hn : s.i0 + s.pre.length + 2 ≤ 1000) (hroom : ((framesB s.all).length : Int) + (r.length + 8) ≤ room) :
    Calls Tryz.prog 40 #[.pointer (some ⟨bl, 0, none⟩), .slice ra r.length rc] w fun e w' => ∃ L' S', e = .returned (.int .i64 (stepS most s r).2) ∧ Live8 w0 w' bl bx L' room most (stepS most s r).1 (q + 1) S' ∧ Chg S w w' ∧ (∀ k, S' k → S k ∨ w.heap.size ≤ k) := by
  have hrel := rel_put h.rel r
  rw [put_seg h.good hn r hl hroom] at hrel
  refine (put_any L bl _ _ ra rc r w h.log (fun k hk => (h.sub k hk).2) (fun w2 hc => tab_below ht (h.chg hc)) h.bnd (by omega) (by omega) hr (by omega) (by rw [h.mostEq]; omega)).mono ?_
  rintro e w2 ⟨rfl, hlog, hc⟩
  have hs := hc.size
  refine ⟨(putG opsD L r).1, _, by rw [hrel.1], ⟨hlog.tight, fun k hk => ?_, hrel.2, (bnd_put h.bnd r).more (by omega) (by omega) (by omega), h.chg hc, stepS_good h.good hn r hl⟩, hc, fun k hk => hk.1⟩
  have := h.bel.size
  rcases hk.1 with h1 | h1
  · exact ⟨(h.sub k h1).1, hk.2⟩
  · exact ⟨by omega, hk.2⟩
end
theorem live8_start (room most : Int) (w : World) (hr : 0 ≤ room) : Calls Tryz.prog 16 #[.int .i64 room, .int .i64 most] w fun e w' => ∃ bx bl L S, e = .returned (.tuple #[.pointer (some ⟨bx, 0, none⟩), .pointer (some ⟨bl, 0, none⟩)]) ∧ Live8 w w' bl bx L room most seg0 0 S := by
  refine (start_any room most w).mono ?_
  rintro e w1 ⟨bx, bl, rfl, hl, hb⟩
  rw [Int.max_eq_left hr] at hl
  refine ⟨bx, bl, _, _, rfl, hl, fun k hk => hk, relL_refl0 room most, ?_, hb, seg0_good most⟩
  rw [segL0]
  refine ⟨⟨by simp [sumD], by simp, ?_, by simp, by show (0 : Int) ≤ 0 ∧ (0 : Int) ≤ 9223372036854775807; omega⟩, by simp, by simp, by simp⟩
  intro f hf
  rw [List.mem_singleton.1 hf]
  have := nameI_size 1
  show (nameI 1).size ≤ 300
  omega

/-! The example of the chapter. -/
def five : List UInt8 := [0, 0, 0, 0, 0]
theorem step1_five : stepS 20 seg0 five = (⟨0, [], [five], 1⟩, 0) := by
  unfold stepS
  rw [if_neg (by decide), if_neg (by decide), if_neg (by simp [seg0])]
  rfl
theorem frame5 : (framesB [five]).length = 13 := by rw [framesB_one, frameB_length]; rfl
theorem step2_five : stepS 20 ⟨0, [], [five], 1⟩ five = (⟨0, [[five]], [five], 1⟩, 0) := by
  unfold stepS
  rw [if_neg (by decide), if_neg (by decide), if_pos ⟨by simp, by rw [frame5]; decide⟩]
  rfl
theorem reads5 {X : World} {b : Nat} (h : X.heap[b]? = some (.cells #[.int .u8 0, .int .u8 0, .int .u8 0, .int .u8 0, .int .u8 0] 5 (0, 0))) : Reads X (.slice (some ⟨b, 0, none⟩) five.length 5) five.length 1 (byts five) := Reads.block h 5 1 rfl
set_option maxRecDepth 100000 in
set_option maxHeartbeats 2000000 in
theorem alive_any (w : World) (ht : Tab w) : Calls Tryz.prog 15 #[] w fun e w' => e = .returned (.bool true) ∧ Below w.heap.size w w' := by
  have HT := Lib.hid ht
  clear ht
  go_enter Tryz.func15, Tryz.ntmps15
  go_wp2_with fail
  refine (live8_start 1000 20 w (by omega)).mono ?_
  rintro e w1 ⟨bx, bl, L0, S0, rfl, hl⟩
  have HL := Lib.hid hl
  clear hl
  have hmk : ∀ w, (Instr.makeSlice 72 (.int .i64 5) (.int .i64 5)).run Tryz.prog w = .ok (.slice (some ⟨w.heap.size, 0, none⟩) 5 5) (w.alloc (.cells #[.int .u8 0, .int .u8 0, .int .u8 0, .int .u8 0, .int .u8 0] 5)) := fun _ => by kernel_rfl
  have HBA : Hid (Below w1.heap.size w1 (w1.drew.alloc (.cells #[.int .u8 0, .int .u8 0, .int .u8 0, .int .u8 0, .int .u8 0] 5))) := (Below.refl _ _).drew.alloc (Nat.le_refl _) _
  have ZA0 : Hid ((w1.drew.alloc (.cells #[.int .u8 0, .int .u8 0, .int .u8 0, .int .u8 0, .int .u8 0] 5)).heap[w1.heap.size]? = some (.cells #[.int .u8 0, .int .u8 0, .int .u8 0, .int .u8 0, .int .u8 0] 5 (0, 0))) := heap_alloc_new w1.drew _
  have HBAA : Hid (Below w1.heap.size w1 ((w1.drew.alloc (.cells #[.int .u8 0, .int .u8 0, .int .u8 0, .int .u8 0, .int .u8 0] 5)).alloc (.cells #[.int .u8 0, .int .u8 0, .int .u8 0, .int .u8 0, .int .u8 0] 5))) := HBA.out.alloc HBA.out.size _
  have ZAA0 : Hid (((w1.drew.alloc (.cells #[.int .u8 0, .int .u8 0, .int .u8 0, .int .u8 0, .int .u8 0] 5)).alloc (.cells #[.int .u8 0, .int .u8 0, .int .u8 0, .int .u8 0, .int .u8 0] 5)).heap[w1.heap.size]? = some (.cells #[.int .u8 0, .int .u8 0, .int .u8 0, .int .u8 0, .int .u8 0] 5 (0, 0))) := (alloc2_low w1.drew _ _).trans ZA0.out
  have ZAA1 : Hid (((w1.drew.alloc (.cells #[.int .u8 0, .int .u8 0, .int .u8 0, .int .u8 0, .int .u8 0] 5)).alloc (.cells #[.int .u8 0, .int .u8 0, .int .u8 0, .int .u8 0, .int .u8 0] 5)).heap[w1.heap.size + 1]? = some (.cells #[.int .u8 0, .int .u8 0, .int .u8 0, .int .u8 0, .int .u8 0] 5 (0, 0))) := alloc2_high w1.drew _ _ (heap_alloc_new _ _)
  have HP1 : Hid (∀ X b, Hid (Below w1.heap.size w1 X) → Hid (X.heap[b]? = some (.cells #[.int .u8 0, .int .u8 0, .int .u8 0, .int .u8 0, .int .u8 0] 5 (0, 0))) → Calls Tryz.prog 40 #[.pointer (some ⟨bl, 0, none⟩), .slice (some ⟨b, 0, none⟩) 5 5] X fun e w' => ∃ L' S', e = .returned (.int .i64 0) ∧ Live8 w w' bl bx L' 1000 20 ⟨0, [], [five], 1⟩ 1 S' ∧ Chg S0 X w' ∧ (∀ k, S' k → S0 k ∨ X.heap.size ≤ k)) := fun X b hX hb => by
    have := (HL.out.later hX.out).put HT.out (by omega) (by omega) (some ⟨b, 0, none⟩) 5 five (reads5 hb.out) (by decide) (by decide) (by decide)
    rw [step1_five] at this
    exact this
  have HL2 : Hid (∀ L1 w2 S1, Live8 w w2 bl bx L1 1000 20 ⟨0, [], [five], 1⟩ 1 S1 → ∀ X b, Below w2.heap.size w2 X → X.heap[b]? = some (.cells #[.int .u8 0, .int .u8 0, .int .u8 0, .int .u8 0, .int .u8 0] 5 (0, 0)) → Calls Tryz.prog 40 #[.pointer (some ⟨bl, 0, none⟩), .slice (some ⟨b, 0, none⟩) 5 5] X fun e w' => ∃ L' S', e = .returned (.int .i64 0) ∧ Live8 w w' bl bx L' 1000 20 ⟨0, [[five]], [five], 1⟩ 2 S' ∧ Chg S1 X w' ∧ (∀ k, S' k → S1 k ∨ X.heap.size ≤ k)) := fun L1 w2 S1 hl X b hX hb => by
    have := (hl.later hX).put HT.out (by omega) (by omega) (some ⟨b, 0, none⟩) 5 five (reads5 hb) (by decide) (by decide) (by
      show ((framesB [five]).length : Int) + (((five.length : Nat) : Int) + 8) ≤ 1000
      rw [frame5]; decide)
    rw [step2_five] at this
    exact this
  have HS0 : Hid (∀ k, S0 k → k < w1.heap.size) := fun k hk => (HL.out.sub k hk).2
  clear HL
  go_upto_region 2 with fail
  go_region_held3 (fun w' => True) (trivial)
    (first
    | (go_at_call 40; refine (HP1.out _ _ (by assumption) (by assumption)).mono ?_; rintro e w2 ⟨L1, S1, rfl, hl1, hc1, hs1⟩
       have HL1 := Lib.hid hl1
       have HB2 : Hid (Below w2.heap.size w2 w2) := Below.refl _ _
       have HB2a : Hid (Below w2.heap.size w2 (w2.alloc (.cells #[.int .u8 0, .int .u8 0, .int .u8 0, .int .u8 0, .int .u8 0] 5))) := (Below.refl _ _).alloc (Nat.le_refl _) _
       have Z2a : Hid ((w2.alloc (.cells #[.int .u8 0, .int .u8 0, .int .u8 0, .int .u8 0, .int .u8 0] 5)).heap[w2.heap.size]? = some (.cells #[.int .u8 0, .int .u8 0, .int .u8 0, .int .u8 0, .int .u8 0] 5 (0, 0))) := heap_alloc_new _ _
       try have Z20 : Hid (w2.heap[w1.heap.size]? = some (.cells #[.int .u8 0, .int .u8 0, .int .u8 0, .int .u8 0, .int .u8 0] 5 (0, 0))) := hc1.heap ZAA0.out (fun e => by have := HS0.out _ e; omega)
       try have Z21 : Hid (w2.heap[w1.heap.size + 1]? = some (.cells #[.int .u8 0, .int .u8 0, .int .u8 0, .int .u8 0, .int .u8 0] 5 (0, 0))) := hc1.heap ZAA1.out (fun e => by have := HS0.out _ e; omega)
       clear hl1 hc1 hs1 HP1)
    | (go_at_call 40; refine (HL2.out _ _ _ HL1.out _ _ (Hid.out (by assumption)) (Hid.out (by assumption))).mono ?_; rintro e w4 ⟨L2, S2, rfl, hl2, hc2, hs2⟩
       have HLE := Lib.hid hl2
       clear hl2 hc2 hs2))
  all_goals
    have hn : L2.n = 2 := HLE.out.rel.n
    have hsz : L2.size = 13 := by rw [HLE.out.rel.size]; show ((framesB [five]).length : Int) = 13; rw [frame5]; rfl
    have hwt : L2.waiting = 1 := HLE.out.rel.waiting
    have HSG := Lib.hid (lsegment_any L2 bl _ S2 w4 HLE.out.log)
    have HSI := Lib.hid (lsize_any L2 bl _ S2 w4 HLE.out.log)
    have HWT := Lib.hid (lwaiting_any L2 bl _ S2 w4 HLE.out.log)
    rw [hn] at HSG
    rw [hsz] at HSI
    rw [hwt] at HWT
    have HBE := Lib.hid HLE.out.bel
    clear hn hsz hwt HLE
    go_wp2_with (first
      | (go_at_call 35; refine HSG.out.mono ?_; rintro e w5 ⟨rfl, rfl⟩)
      | (go_at_call 36; refine HSI.out.mono ?_; rintro e w5 ⟨rfl, rfl⟩)
      | (go_at_call 53; refine HWT.out.mono ?_; rintro e w5 ⟨rfl, rfl⟩))
    go_ret
    exact ⟨rfl, HBE.out⟩
end Go.Proofs.YtgdmdbdljmlkkaaGreatDoor
