/- RefPut2, DSeq, WLift -/
import Derived.Test.YtgdmdbdljmlkkaaGreatDoorTz36
import Derived.Test.YtgdmdbdljmlkkaaGreatDoorTz37
import Derived.Test.YtgdmdbdljmlkkaaGreatDoorCards
import Derived.Test.YtgdmdbdljmlkkaaGreatDoorTie
import Derived.ProofKit
import Derived.OpenShut
import Derived.Carry
import Derived.Shelf.Strconv.Itoa0
import Derived.LaidMore
import Derived.Lay
import Derived.Stop.Joined
import Derived.SevenTiedAt
set_option maxRecDepth 100000
set_option linter.unusedVariables false
set_option linter.unusedSimpArgs false
namespace Go.Proofs.YtgdmdbdljmlkkaaGreatDoor
open Go.RowKit
structure MidQ (wa W : World) (b4 : Nat) (U : Nat → Prop) (r1 : Int) (a3 : Option Addr) (c3 : Nat) (R3 : List RF) (r3 : Int) (r4 : Bool) : Prop where
 blk : W.heap[b4]? = some (.cells #[.int .i64 r1, .slice a3 R3.length c3, .int .i64 r3, .bool r4] 32 (0, 0))
 lst : RLi W (.slice a3 R3.length c3) R3 (fun k => U k ∨ (wa.heap.size ≤ k ∧ k ≠ b4))
 bel : Below wa.heap.size wa W
 beh : wa.heap.size ≤ b4
theorem mid2_late {wa w3 : World} {n0 m : Nat} {T U : Nat → Prop} {r1 : Int} {a3 : Option Addr} {c3 : Nat} {R3 : List RF} {r3 : Int} {r4 : Bool} (hU : ∀ k, U k → (T k ∧ k < n0) ∨ (n0 + 2 ≤ k ∧ k < wa.heap.size)) (hb : Below wa.heap.size wa w3) (hr : RLi w3 (.slice a3 R3.length c3) R3 (fun k => U k ∨ m ≤ k)) (hm : wa.heap.size ≤ m) :
   MidQ wa (w3.alloc (.cells #[.int .i64 r1, .slice a3 R3.length c3, .int .i64 r3, .bool r4] 32)) w3.heap.size U r1 a3 c3 R3 r3 r4 := by
 have hs := hb.size
 exact ⟨heap_alloc_new _ _, (hr.tight.below ((Below.refl _ _).alloc (Nat.le_refl _) _)).mono (fun k hk => by rcases hk.1 with h | h; exact .inl h; exact .inr ⟨by omega, by have := hk.2; omega⟩), hb.alloc hs _, hs⟩
theorem mid2_set {wa w3 : World} {n0 m b4 : Nat} {T U : Nat → Prop} {r1 : Int} {a3 : Option Addr} {c3 : Nat} {R3 : List RF} {r3 : Int} {r4 : Bool} {x0 x1 x2 x3 : Value} (hU : ∀ k, U k → (T k ∧ k < n0) ∨ (n0 + 2 ≤ k ∧ k < wa.heap.size)) (hz : w3.heap[b4]? = some (.cells #[x0, x1, x2, x3] 32 (0, 0))) (hb : Below wa.heap.size wa w3) (hr : RLi w3 (.slice a3 R3.length c3) R3 (fun k => U k ∨ m ≤ k)) (hm : b4 < m) (h4 : wa.heap.size ≤ b4) (hn0 : n0 ≤ wa.heap.size := by omega) :
   MidQ wa ((((w3.setCell ⟨b4, 0, none⟩ (.int .i64 r1)).setCell ⟨b4, 1, none⟩ (.slice a3 R3.length c3)).setCell ⟨b4, 2, none⟩ (.int .i64 r3)).setCell ⟨b4, 3, none⟩ (.bool r4)) b4 U r1 a3 c3 R3 r3 r4 := by
 have hno : ¬ (U b4 ∨ m ≤ b4) := by
   rintro (h | h)
   · rcases hU _ h with h | h <;> omega
   · omega
 exact ⟨heap_store (heap_store (heap_store (heap_store hz 0 _) 1 _) 2 _) 3 _,
   ((((hr.store (p := ⟨b4, 0, none⟩) hno _).store (p := ⟨b4, 1, none⟩) hno _).store (p := ⟨b4, 2, none⟩) hno _).store (p := ⟨b4, 3, none⟩) hno _).mono (fun k hk => by rcases hk with h | h; exact .inl h; exact .inr ⟨by omega, by omega⟩),
   (((hb.setCell (p := ⟨b4, 0, none⟩) h4 _).setCell (p := ⟨b4, 1, none⟩) h4 _).setCell (p := ⟨b4, 2, none⟩) h4 _).setCell (p := ⟨b4, 3, none⟩) h4 _, h4⟩
set_option maxHeartbeats 16000000 in
theorem rput_next (M : LS) (v : Value) (R : List RF) (T : Nat → Prop) (ra : Option Addr) (rc : Nat) (r : List UInt8) (w : World) (h : RLi w v R T) (hf : R.map RF.f = M.D.files) (hL : R.length ≤ 5000) (hp : 0 ≤ M.D.plan ∧ M.D.plan ≤ 9223372036854775807) (hs : sumR R ≤ 100000000)
   (hr : Reads w (.slice ra r.length rc) r.length 1 (byts r)) (hl : r.length ≤ 10000000) (hsz : 0 ≤ M.size ∧ M.size ≤ 1000000000) (hn0 : 0 ≤ M.n)
   (hmid : (doF 3 M.D (nameI M.n) ⟨#[]⟩ []).1.files.length ≤ 5000 ∧ sumD (doF 3 M.D (nameI M.n) ⟨#[]⟩ []).1.files ≤ 1000000000 ∧ 0 ≤ (doF 3 M.D (nameI M.n) ⟨#[]⟩ []).1.plan ∧ (doF 3 M.D (nameI M.n) ⟨#[]⟩ []).1.plan ≤ 9223372036854775807)
   (hrot : ((rotG opsF M).1.D.files.length ≤ 5000 ∧ (0 ≤ (rotG opsF M).1.D.plan ∧ (rotG opsF M).1.D.plan ≤ 9223372036854775807) ∧ sumD (rotG opsF M).1.D.files ≤ 100000000) ∧ (0 ≤ (rotG opsF M).1.size ∧ (rotG opsF M).1.size ≤ 1000000000) ∧ (0 ≤ (rotG opsF M).1.waiting ∧ (rotG opsF M).1.waiting ≤ 1000000000))
   (hne0 : r ≠ []) (hbig : ¬ 1048576 < r.length) (hlong : ¬ M.most < (r.length : Int) + 8) (hgo : 0 < M.size) (hov : M.most < M.size + (r.length + 8)) :
   Calls Tryz.prog 39 #[rlog v M, .slice ra r.length rc] w (MPst w T (putG opsF M r)) := by
 obtain ⟨a, c, rfl⟩ := slice_form h.row
 have HROT := Lib.hid (fun (w' : World) (T' : Nat → Prop) (h' : RLi w' (.slice a R.length c) R T') => rrot_any M (.slice a R.length c) R T' w' h' hf hL hp (by omega) hn0 hmid)
 obtain ⟨M0, hM0⟩ : ∃ M0, M0 = M := ⟨_, rfl⟩
 have HPUT : Hid (putG opsF M0 r = if (rotG opsF M).2 ≠ 0 then rotG opsF M else appG opsF (rotG opsF M).1 r) := by
   rw [hM0]
   unfold putG
   rw [Hid, if_neg hne0, if_neg (by omega), if_pos ⟨hgo, hov⟩]
 rw [show putG opsF M r = putG opsF M0 r by rw [hM0]]
 obtain ⟨n, size, wt, most, ⟨room, fs, plan, down⟩⟩ := M
 simp only at hf hp hsz hn0 hmid hlong hgo hov
 subst hf
 have HRL := Lib.hid (frameB_length r)
 have hmk := rmake_any ra rc r ((w.alloc (.cells #[.int .i64 room, .slice a R.length c, .int .i64 plan, .bool down, .int .i64 most, .int .i64 n, .int .i64 size, .int .i64 wt] 34)).alloc (.cells #[.int .i64 0, .slice none 0 0, .int .i64 0, .bool false, .int .i64 0, .int .i64 0, .int .i64 0, .int .i64 0] 34)) (hr.later (((Below.refl _ _).alloc (Nat.le_refl _) _).alloc (by simp) _)) (by omega)
 rw [if_neg hbig] at hmk
 obtain ⟨rl, hrl⟩ : ∃ rl, rl = r.length := ⟨_, rfl⟩
 have HLR := Lib.hid hrl
 have hpos : 0 < rl := by rw [hrl]; exact List.length_pos_iff.2 hne0
 rw [← hrl] at hmk hl HRL hlong hbig hov ⊢
 have HMK := Lib.hid hmk
 have HT := Lib.hid h
 have hne : ((rl : Int) == 0) = false := by simp; omega
 have hne2 : decide (rl = 0) = false := by simp; omega
 have hgo2 : decide (0 < size) = true := decide_eq_true hgo
 have HROTB := Lib.hid hrot
 clear hr hmk hrl h hM0 hmid hrot hne0
 generalize hro : rotG opsF ⟨n, size, wt, most, ⟨room, R.map RF.f, plan, down⟩⟩ = ro at HPUT HROT HROTB
 obtain ⟨⟨n', size', wt', most', ⟨room', fs', plan', down'⟩⟩, code'⟩ := ro
 clear hro
 go_enter Tryz.func39, Tryz.ntmps39
 go_upto_region 1 with fail
 have HB0 : Hid (Below w.heap.size w ((w.alloc (.cells #[.int .i64 room, .slice a R.length c, .int .i64 plan, .bool down, .int .i64 most, .int .i64 n, .int .i64 size, .int .i64 wt] 34)).alloc (.cells #[.int .i64 0, .slice none 0 0, .int .i64 0, .bool false, .int .i64 0, .int .i64 0, .int .i64 0, .int .i64 0] 34))) := ((Below.refl _ _).alloc (Nat.le_refl _) _).alloc (by simp) _
 have HX0 : Hid (((w.alloc (.cells #[.int .i64 room, .slice a R.length c, .int .i64 plan, .bool down, .int .i64 most, .int .i64 n, .int .i64 size, .int .i64 wt] 34)).alloc (.cells #[.int .i64 0, .slice none 0 0, .int .i64 0, .bool false, .int .i64 0, .int .i64 0, .int .i64 0, .int .i64 0] 34)).heap[w.heap.size]? = some (.cells #[.int .i64 room, .slice a R.length c, .int .i64 plan, .bool down, .int .i64 most, .int .i64 n, .int .i64 size, .int .i64 wt] 34 (0, 0))) := (alloc2_low w _ _).trans (heap_alloc_new w _)
 have HZ0 : Hid (((w.alloc (.cells #[.int .i64 room, .slice a R.length c, .int .i64 plan, .bool down, .int .i64 most, .int .i64 n, .int .i64 size, .int .i64 wt] 34)).alloc (.cells #[.int .i64 0, .slice none 0 0, .int .i64 0, .bool false, .int .i64 0, .int .i64 0, .int .i64 0, .int .i64 0] 34)).heap[w.heap.size + 1]? = some (.cells #[.int .i64 0, .slice none 0 0, .int .i64 0, .bool false, .int .i64 0, .int .i64 0, .int .i64 0, .int .i64 0] 34 (0, 0))) := alloc2_high w _ _ (heap_alloc_new _ _)
 have hsz0 : w.heap.size + 2 ≤ ((w.alloc (.cells #[.int .i64 room, .slice a R.length c, .int .i64 plan, .bool down, .int .i64 most, .int .i64 n, .int .i64 size, .int .i64 wt] 34)).alloc (.cells #[.int .i64 0, .slice none 0 0, .int .i64 0, .bool false, .int .i64 0, .int .i64 0, .int .i64 0, .int .i64 0] 34)).heap.size := by simp
 have HSZ0 := Lib.hid hsz0
 clear hsz0
 generalize (w.alloc (.cells #[.int .i64 room, .slice a R.length c, .int .i64 plan, .bool down, .int .i64 most, .int .i64 n, .int .i64 size, .int .i64 wt] 34)).alloc (.cells #[.int .i64 0, .slice none 0 0, .int .i64 0, .bool false, .int .i64 0, .int .i64 0, .int .i64 0, .int .i64 0] 34) = w0 at *
 go_wp2_with fail
 refine HMK.out.mono ?_
 rintro e wa ⟨hres, hba⟩
 have HB1 := Lib.hid (HB0.out.trans (hba.mono HB0.out.size))
 have HX1 := Lib.hid ((hba.block _ (lt_of_heap HX0.out)).trans HX0.out)
 have HZ1 := Lib.hid ((hba.block _ (lt_of_heap HZ0.out)).trans HZ0.out)
 have HSZ1 : Hid (w.heap.size + 2 ≤ wa.heap.size) := Nat.le_trans HSZ0.out hba.size
 have HTA : Hid (RLi wa (.slice a R.length c) R (fun k => T k ∧ k < w.heap.size)) := HT.out.tight.below HB1.out
 clear HX0 HZ0 HB0 HMK hba
 obtain ⟨ab, cb, hres, hrow⟩ := hres
 subst hres
 rw [HRL.out] at hrow
 simp only [HRL.out]
 have HRW := Lib.hid (hrow.mono (fun k (hk : w0.heap.size ≤ k) => (show w.heap.size + 2 ≤ k from Nat.le_trans HSZ0.out hk)))
 clear hrow
 obtain ⟨x0, x1, x2, x3, x4, x5, x6, x7⟩ := cells8w HX1.out
 have hov2 : most < size + ((rl : Int) + 8) := hov
 go_upto_region 7 with fail
 go_wp2_with fail
 refine (HROT.out wa _ HTA.out).mono ?_
 rintro e wb ⟨v', R', rfl, hf', hr', hb'⟩
 obtain ⟨a', c', rfl⟩ := slice_form hr'.row
 have HB2 := Lib.hid (HB1.out.trans (hb'.mono HB1.out.size))
 have HX2 := Lib.hid ((hb'.block _ (lt_of_heap HX1.out)).trans HX1.out)
 have HZ2 := Lib.hid ((hb'.block _ (lt_of_heap HZ1.out)).trans HZ1.out)
 have HSZ2 : Hid (w.heap.size + 2 ≤ wb.heap.size) := Nat.le_trans HSZ1.out hb'.size
 have HRW2 := Lib.hid (HRW.out.frame (fun k _ hk => hb'.block k hk))
 have HTB : Hid (RLi wb (.slice a' R'.length c') R' (fun k => ((T k ∧ k < w.heap.size) ∨ wa.heap.size ≤ k) ∧ k < wb.heap.size)) := hr'.tight
 have HF' := Lib.hid (show R'.map RF.f = fs' from hf')
 clear hb' hr' hf' HROT HX1 HZ1 HRW HTA x0 x1 x2 x3 x4 x5 x6 x7
 simp only [rlog]
 obtain ⟨x0, x1, x2, x3, x4, x5, x6, x7⟩ := cells8w HX2.out
 go_upto_region 8 with fail
 have HN3 : Hid ((wb.alloc (.cells #[.int .i64 room', .slice a' R'.length c', .int .i64 plan', .bool down', .int .i64 most', .int .i64 n', .int .i64 size', .int .i64 wt'] 34)).heap[wb.heap.size]? = some (.cells #[.int .i64 room', .slice a' R'.length c', .int .i64 plan', .bool down', .int .i64 most', .int .i64 n', .int .i64 size', .int .i64 wt'] 34 (0, 0))) := heap_alloc_new _ _
 have HX3 : Hid ((wb.alloc (.cells #[.int .i64 room', .slice a' R'.length c', .int .i64 plan', .bool down', .int .i64 most', .int .i64 n', .int .i64 size', .int .i64 wt'] 34)).heap[w.heap.size]? = _) := (Below.heap_alloc _ _ _ (lt_of_heap HX2.out)).trans HX2.out
 have HZ3 : Hid ((wb.alloc (.cells #[.int .i64 room', .slice a' R'.length c', .int .i64 plan', .bool down', .int .i64 most', .int .i64 n', .int .i64 size', .int .i64 wt'] 34)).heap[w.heap.size + 1]? = _) := (Below.heap_alloc _ _ _ (lt_of_heap HZ2.out)).trans HZ2.out
 have HB3 : Hid (Below w.heap.size w (wb.alloc (.cells #[.int .i64 room', .slice a' R'.length c', .int .i64 plan', .bool down', .int .i64 most', .int .i64 n', .int .i64 size', .int .i64 wt'] 34))) := HB2.out.alloc HB2.out.size _
 have HT3 : Hid (RLi (wb.alloc (.cells #[.int .i64 room', .slice a' R'.length c', .int .i64 plan', .bool down', .int .i64 most', .int .i64 n', .int .i64 size', .int .i64 wt'] 34)) (.slice a' R'.length c') R' (fun k => ((T k ∧ k < w.heap.size) ∨ wa.heap.size ≤ k) ∧ k < wb.heap.size)) := HTB.out.below ((Below.refl _ _).alloc (Nat.le_refl _) _)
 have HR3 : Hid (Row (wb.alloc (.cells #[.int .i64 room', .slice a' R'.length c', .int .i64 plan', .bool down', .int .i64 most', .int .i64 n', .int .i64 size', .int .i64 wt'] 34)) 5 1 (.slice ab (rl + 8) cb) (rl + 8) (byts (frameB r)) (fun k => w.heap.size + 2 ≤ k)) := HRW2.out.frame (fun k _ hk => Below.heap_alloc _ _ _ hk)
 have HSZ3 : Hid ((wb.alloc (.cells #[.int .i64 room', .slice a' R'.length c', .int .i64 plan', .bool down', .int .i64 most', .int .i64 n', .int .i64 size', .int .i64 wt'] 34)).heap.size = wb.heap.size + 1) := World.size_alloc _ _
 clear HX2 HZ2 HB2 HTB HRW2 x0 x1 x2 x3 x4 x5 x6 x7
 generalize wb.alloc (.cells #[.int .i64 room', .slice a' R'.length c', .int .i64 plan', .bool down', .int .i64 most', .int .i64 n', .int .i64 size', .int .i64 wt'] 34) = wc at *
 obtain ⟨u0, u1, u2, u3, u4, u5, u6, u7⟩ := cells8w HN3.out
 by_cases hcode : code' = 0
 rotate_left
 · have hcb : (code' != 0) = true := by simpa using hcode
   have hcb2 : (code' == 0) = false := by simpa using hcode
   obtain ⟨z0, z1, z2, z3, z4, z5, z6, z7⟩ := cells8w HZ3.out
   have q0 := freeAt HZ3.out 0
   have q1 := freeAt HZ3.out 1
   have q2 := freeAt HZ3.out 2
   have q3 := freeAt HZ3.out 3
   have q4 := freeAt HZ3.out 4
   have q5 := freeAt HZ3.out 5
   have q6 := freeAt HZ3.out 6
   have q7 := freeAt HZ3.out 7
   have HNOE : Hid (¬ (((T (w.heap.size + 1) ∧ w.heap.size + 1 < w.heap.size) ∨ wa.heap.size ≤ w.heap.size + 1) ∧ w.heap.size + 1 < wb.heap.size)) := by have := HSZ1.out; rintro ⟨h | h, -⟩ <;> omega
   have HTTE : Hid (∀ k, (((T k ∧ k < w.heap.size) ∨ wa.heap.size ≤ k) ∧ k < wb.heap.size) → T k ∨ w.heap.size ≤ k) := fun k hk => by have := HSZ1.out; rcases hk.1 with h | h; exact .inl h.1; exact .inr (by omega)
   have HFIN : Hid (putG opsF M0 r = (⟨n', size', wt', most', ⟨room', R'.map RF.f, plan', down'⟩⟩, code')) := by
     rw [Hid, HPUT.out, if_pos hcode, HF'.out]
   go_wp2
   try simp only [Exit.inBlock, Exit.then]
   exact rlog_end Tryz.results39 (b2 := w.heap.size + 1) (room := room') (plan := plan') (down := down') code' HZ3.out (by omega) HB3.out HT3.out HTTE.out HNOE.out HFIN.out rfl rfl
 subst hcode
 obtain ⟨x0, x1, x2, x3, x4, x5, x6, x7⟩ := cells8w HX3.out
 have g0 := freeAt HX3.out 0
 have g1 := freeAt HX3.out 1
 have g2 := freeAt HX3.out 2
 have g3 := freeAt HX3.out 3
 have g4 := freeAt HX3.out 4
 have g5 := freeAt HX3.out 5
 have g6 := freeAt HX3.out 6
 have g7 := freeAt HX3.out 7
 go_upto_region 11 with fail
 have HXX : Hid (((((((((wc.setCell ⟨w.heap.size, 0, none⟩ (.int .i64 room')).setCell ⟨w.heap.size, 1, none⟩ (.slice a' R'.length c')).setCell ⟨w.heap.size, 2, none⟩ (.int .i64 plan')).setCell ⟨w.heap.size, 3, none⟩ (.bool down')).setCell ⟨w.heap.size, 4, none⟩ (.int .i64 most')).setCell ⟨w.heap.size, 5, none⟩ (.int .i64 n')).setCell ⟨w.heap.size, 6, none⟩ (.int .i64 size')).setCell ⟨w.heap.size, 7, none⟩ (.int .i64 wt')).heap[w.heap.size]? = some (.cells #[.int .i64 room', .slice a' R'.length c', .int .i64 plan', .bool down', .int .i64 most', .int .i64 n', .int .i64 size', .int .i64 wt'] 34 (0, 0))) := heap_store (heap_store (heap_store (heap_store (heap_store (heap_store (heap_store (heap_store HX3.out 0 _) 1 _) 2 _) 3 _) 4 _) 5 _) 6 _) 7 _
 have hn1 : w.heap.size + 1 ≠ w.heap.size := by omega
 have HZX : Hid (((((((((wc.setCell ⟨w.heap.size, 0, none⟩ (.int .i64 room')).setCell ⟨w.heap.size, 1, none⟩ (.slice a' R'.length c')).setCell ⟨w.heap.size, 2, none⟩ (.int .i64 plan')).setCell ⟨w.heap.size, 3, none⟩ (.bool down')).setCell ⟨w.heap.size, 4, none⟩ (.int .i64 most')).setCell ⟨w.heap.size, 5, none⟩ (.int .i64 n')).setCell ⟨w.heap.size, 6, none⟩ (.int .i64 size')).setCell ⟨w.heap.size, 7, none⟩ (.int .i64 wt')).heap[w.heap.size + 1]? = _) := (Below.heap_setCell _ ⟨w.heap.size, 7, none⟩ _ _ hn1).trans ((Below.heap_setCell _ ⟨w.heap.size, 6, none⟩ _ _ hn1).trans ((Below.heap_setCell _ ⟨w.heap.size, 5, none⟩ _ _ hn1).trans ((Below.heap_setCell _ ⟨w.heap.size, 4, none⟩ _ _ hn1).trans ((Below.heap_setCell _ ⟨w.heap.size, 3, none⟩ _ _ hn1).trans ((Below.heap_setCell _ ⟨w.heap.size, 2, none⟩ _ _ hn1).trans ((Below.heap_setCell _ ⟨w.heap.size, 1, none⟩ _ _ hn1).trans ((Below.heap_setCell _ ⟨w.heap.size, 0, none⟩ _ _ hn1).trans (HZ3.out))))))))
 have HBX : Hid (Below w.heap.size w ((((((((wc.setCell ⟨w.heap.size, 0, none⟩ (.int .i64 room')).setCell ⟨w.heap.size, 1, none⟩ (.slice a' R'.length c')).setCell ⟨w.heap.size, 2, none⟩ (.int .i64 plan')).setCell ⟨w.heap.size, 3, none⟩ (.bool down')).setCell ⟨w.heap.size, 4, none⟩ (.int .i64 most')).setCell ⟨w.heap.size, 5, none⟩ (.int .i64 n')).setCell ⟨w.heap.size, 6, none⟩ (.int .i64 size')).setCell ⟨w.heap.size, 7, none⟩ (.int .i64 wt'))) := ((((((((HB3.out).setCell (p := ⟨w.heap.size, 0, none⟩) (Nat.le_refl _) _).setCell (p := ⟨w.heap.size, 1, none⟩) (Nat.le_refl _) _).setCell (p := ⟨w.heap.size, 2, none⟩) (Nat.le_refl _) _).setCell (p := ⟨w.heap.size, 3, none⟩) (Nat.le_refl _) _).setCell (p := ⟨w.heap.size, 4, none⟩) (Nat.le_refl _) _).setCell (p := ⟨w.heap.size, 5, none⟩) (Nat.le_refl _) _).setCell (p := ⟨w.heap.size, 6, none⟩) (Nat.le_refl _) _).setCell (p := ⟨w.heap.size, 7, none⟩) (Nat.le_refl _) _
 have hnoB : ¬ (((T w.heap.size ∧ w.heap.size < w.heap.size) ∨ wa.heap.size ≤ w.heap.size) ∧ w.heap.size < wb.heap.size) := by have := HSZ1.out; rintro ⟨h | h, -⟩ <;> omega
 have HTX0 : Hid (RLi ((((((((wc.setCell ⟨w.heap.size, 0, none⟩ (.int .i64 room')).setCell ⟨w.heap.size, 1, none⟩ (.slice a' R'.length c')).setCell ⟨w.heap.size, 2, none⟩ (.int .i64 plan')).setCell ⟨w.heap.size, 3, none⟩ (.bool down')).setCell ⟨w.heap.size, 4, none⟩ (.int .i64 most')).setCell ⟨w.heap.size, 5, none⟩ (.int .i64 n')).setCell ⟨w.heap.size, 6, none⟩ (.int .i64 size')).setCell ⟨w.heap.size, 7, none⟩ (.int .i64 wt')) (.slice a' R'.length c') R' (fun k => ((T k ∧ k < w.heap.size) ∨ wa.heap.size ≤ k) ∧ k < wb.heap.size)) := ((((((((HT3.out).store (p := ⟨w.heap.size, 0, none⟩) hnoB _).store (p := ⟨w.heap.size, 1, none⟩) hnoB _).store (p := ⟨w.heap.size, 2, none⟩) hnoB _).store (p := ⟨w.heap.size, 3, none⟩) hnoB _).store (p := ⟨w.heap.size, 4, none⟩) hnoB _).store (p := ⟨w.heap.size, 5, none⟩) hnoB _).store (p := ⟨w.heap.size, 6, none⟩) hnoB _).store (p := ⟨w.heap.size, 7, none⟩) hnoB _
 have HROW : Hid (Reads ((((((((wc.setCell ⟨w.heap.size, 0, none⟩ (.int .i64 room')).setCell ⟨w.heap.size, 1, none⟩ (.slice a' R'.length c')).setCell ⟨w.heap.size, 2, none⟩ (.int .i64 plan')).setCell ⟨w.heap.size, 3, none⟩ (.bool down')).setCell ⟨w.heap.size, 4, none⟩ (.int .i64 most')).setCell ⟨w.heap.size, 5, none⟩ (.int .i64 n')).setCell ⟨w.heap.size, 6, none⟩ (.int .i64 size')).setCell ⟨w.heap.size, 7, none⟩ (.int .i64 wt')) (.slice ab (rl + 8) cb) (rl + 8) 1 (byts (frameB r))) := (((((((((HR3.out).store (p := ⟨w.heap.size, 0, none⟩) (by show w.heap.size < w.heap.size + 2; omega) _).store (p := ⟨w.heap.size, 1, none⟩) (by show w.heap.size < w.heap.size + 2; omega) _).store (p := ⟨w.heap.size, 2, none⟩) (by show w.heap.size < w.heap.size + 2; omega) _).store (p := ⟨w.heap.size, 3, none⟩) (by show w.heap.size < w.heap.size + 2; omega) _).store (p := ⟨w.heap.size, 4, none⟩) (by show w.heap.size < w.heap.size + 2; omega) _).store (p := ⟨w.heap.size, 5, none⟩) (by show w.heap.size < w.heap.size + 2; omega) _).store (p := ⟨w.heap.size, 6, none⟩) (by show w.heap.size < w.heap.size + 2; omega) _).store (p := ⟨w.heap.size, 7, none⟩) (by show w.heap.size < w.heap.size + 2; omega) _).reads
 have hszc : ((((((((wc.setCell ⟨w.heap.size, 0, none⟩ (.int .i64 room')).setCell ⟨w.heap.size, 1, none⟩ (.slice a' R'.length c')).setCell ⟨w.heap.size, 2, none⟩ (.int .i64 plan')).setCell ⟨w.heap.size, 3, none⟩ (.bool down')).setCell ⟨w.heap.size, 4, none⟩ (.int .i64 most')).setCell ⟨w.heap.size, 5, none⟩ (.int .i64 n')).setCell ⟨w.heap.size, 6, none⟩ (.int .i64 size')).setCell ⟨w.heap.size, 7, none⟩ (.int .i64 wt')).heap.size = wc.heap.size := by simp [World.setCell]
 have HSX : Hid (w.heap.size + 2 ≤ ((((((((wc.setCell ⟨w.heap.size, 0, none⟩ (.int .i64 room')).setCell ⟨w.heap.size, 1, none⟩ (.slice a' R'.length c')).setCell ⟨w.heap.size, 2, none⟩ (.int .i64 plan')).setCell ⟨w.heap.size, 3, none⟩ (.bool down')).setCell ⟨w.heap.size, 4, none⟩ (.int .i64 most')).setCell ⟨w.heap.size, 5, none⟩ (.int .i64 n')).setCell ⟨w.heap.size, 6, none⟩ (.int .i64 size')).setCell ⟨w.heap.size, 7, none⟩ (.int .i64 wt')).heap.size) := by rw [Hid, hszc, HSZ3.out]; have := HSZ2.out; omega
 have hlt : wb.heap.size < ((((((((wc.setCell ⟨w.heap.size, 0, none⟩ (.int .i64 room')).setCell ⟨w.heap.size, 1, none⟩ (.slice a' R'.length c')).setCell ⟨w.heap.size, 2, none⟩ (.int .i64 plan')).setCell ⟨w.heap.size, 3, none⟩ (.bool down')).setCell ⟨w.heap.size, 4, none⟩ (.int .i64 most')).setCell ⟨w.heap.size, 5, none⟩ (.int .i64 n')).setCell ⟨w.heap.size, 6, none⟩ (.int .i64 size')).setCell ⟨w.heap.size, 7, none⟩ (.int .i64 wt')).heap.size := by rw [hszc, HSZ3.out]; omega
 clear hszc x0 x1 x2 x3 x4 x5 x6 x7 u0 u1 u2 u3 u4 u5 u6 u7 g0 g1 g2 g3 g4 g5 g6 g7 HX3 HZ3 HB3 HT3 HR3 HN3 HSZ3 hnoB
 generalize ((((((((wc.setCell ⟨w.heap.size, 0, none⟩ (.int .i64 room')).setCell ⟨w.heap.size, 1, none⟩ (.slice a' R'.length c')).setCell ⟨w.heap.size, 2, none⟩ (.int .i64 plan')).setCell ⟨w.heap.size, 3, none⟩ (.bool down')).setCell ⟨w.heap.size, 4, none⟩ (.int .i64 most')).setCell ⟨w.heap.size, 5, none⟩ (.int .i64 n')).setCell ⟨w.heap.size, 6, none⟩ (.int .i64 size')).setCell ⟨w.heap.size, 7, none⟩ (.int .i64 wt')) = wx at *
 obtain ⟨U, hUd⟩ : ∃ U : Nat → Prop, U = fun k => ((T k ∧ k < w.heap.size) ∨ wa.heap.size ≤ k) ∧ k < wb.heap.size := ⟨_, rfl⟩
 have HU : Hid (∀ k, U k → (T k ∧ k < w.heap.size) ∨ (w.heap.size + 2 ≤ k ∧ k < wx.heap.size)) := by
   intro k hk
   rw [hUd] at hk
   have := HSZ1.out
   rcases hk.1 with h | h
   · exact .inl h
   · exact .inr ⟨by omega, by have := hk.2; omega⟩
 have HTX : Hid (RLi wx (.slice a' R'.length c') R' U) := by rw [hUd]; exact HTX0.out
 have HLX : Hid (R'.length ≤ 5000 ∧ (0 ≤ plan' ∧ plan' ≤ 9223372036854775807) ∧ sumR R' ≤ 100000000) := by
   have h1 := HROTB.out.1
   try simp only at h1
   rw [← HF'.out, List.length_map, ← sumR_f] at h1
   exact h1
 have hsz' : 0 ≤ size' ∧ size' ≤ 1000000000 := HROTB.out.2.1
 have hwt' : 0 ≤ wt' ∧ wt' ≤ 1000000000 := HROTB.out.2.2
 have HPX : Hid (putG opsF M0 r = appG opsF ⟨n', size', wt', most', ⟨room', R'.map RF.f, plan', down'⟩⟩ r) := by
   rw [Hid, HPUT.out, HF'.out]; rfl
 clear hUd HTX0 HPUT HROTB hlt
 obtain ⟨x0, x1, x2, x3, x4, x5, x6, x7⟩ := cells8w HXX.out
 have HDO : Hid (∀ w', Hid (Below wx.heap.size wx w') → Calls Tryz.prog 64 #[.agg #[.int .i64 room', .slice a' R'.length c', .int .i64 plan', .bool down'], .agg #[.int .i64 2, .string (nameI n'), .string ⟨#[]⟩, .slice ab (rl + 8) cb]] w' (DoP w' U (doF 2 ⟨room', R'.map RF.f, plan', down'⟩ (nameI n') ⟨#[]⟩ (frameB r)))) := fun w' hb => by
   have hrd := HROW.out.later hb.out
   have hnm := nameI_size n'
   have := rdo2_any room' plan' down' _ R' U (nameI n') ⟨#[]⟩ (frameB r) ab cb w' (HTX.out.below hb.out) HLX.out.1 HLX.out.2.1 (by omega) (Nat.zero_le _) (by rw [HRL.out]; exact hrd) (by rw [HRL.out]; have := HLX.out.2.2; omega)
   rw [HRL.out] at this
   exact this.mono (fun e w2 he => dop_of he)
 have HNM : Hid (∀ w', Calls Tryz.prog 96 #[.agg #[.int .i64 room', .slice a' R'.length c', .int .i64 plan', .bool down', .int .i64 most', .int .i64 n', .int .i64 size', .int .i64 wt']] w' fun e w2 => e = .returned (.string (nameI n')) ∧ Below w'.heap.size w' w2) := fun w' =>
   rname_any (.slice a' R'.length c') ⟨n', size', wt', most', ⟨room', R'.map RF.f, plan', down'⟩⟩ w' ⟨_, _, _, rfl⟩
 obtain ⟨rr, hrr⟩ : ∃ rr, rr = doF 2 ⟨room', R'.map RF.f, plan', down'⟩ (nameI n') ⟨#[]⟩ (frameB r) := ⟨_, rfl⟩
 rw [← hrr] at HDO
 have HR := Lib.hid hrr
 generalize nameI n' = nm at HDO HNM
 clear hrr HROW
 obtain ⟨⟨r1, r2, r3, r4⟩, r5⟩ := rr
 have HK : Hid (∀ w', Hid (Below wx.heap.size wx w') → w'.cell? ⟨w.heap.size, 0, none⟩ = some (.int .i64 room') ∧ w'.cell? ⟨w.heap.size, 1, none⟩ = some (.slice a' R'.length c') ∧ w'.cell? ⟨w.heap.size, 2, none⟩ = some (.int .i64 plan') ∧ w'.cell? ⟨w.heap.size, 3, none⟩ = some (.bool down') ∧ w'.cell? ⟨w.heap.size, 4, none⟩ = some (.int .i64 most') ∧ w'.cell? ⟨w.heap.size, 5, none⟩ = some (.int .i64 n') ∧ w'.cell? ⟨w.heap.size, 6, none⟩ = some (.int .i64 size') ∧ w'.cell? ⟨w.heap.size, 7, none⟩ = some (.int .i64 wt')) := fun w' hb => cells8w ((hb.out.block _ (lt_of_heap HXX.out)).trans HXX.out)
 have HBA : Hid (Below wx.heap.size wx wx.drew) := (Below.refl _ _).drew
 have HBB : Hid (Below wx.heap.size wx (wx.drew.alloc (.cells #[.int .i64 0, .slice none 0 0, .int .i64 0, .bool false] 32))) := HBA.out.alloc (Nat.le_refl _) _
 all_goals
   go_upto_region 11 with fail
   go_region_held3 (fun w' => w'.cell? ⟨w.heap.size, 0, none⟩ = some (.int .i64 room') ∧ w'.cell? ⟨w.heap.size, 1, none⟩ = some (.slice a' R'.length c') ∧ w'.cell? ⟨w.heap.size, 2, none⟩ = some (.int .i64 plan') ∧ w'.cell? ⟨w.heap.size, 3, none⟩ = some (.bool down') ∧ w'.cell? ⟨w.heap.size, 4, none⟩ = some (.int .i64 most') ∧ w'.cell? ⟨w.heap.size, 5, none⟩ = some (.int .i64 n') ∧ w'.cell? ⟨w.heap.size, 6, none⟩ = some (.int .i64 size') ∧ w'.cell? ⟨w.heap.size, 7, none⟩ = some (.int .i64 wt')) (first | exact HK.out _ (by assumption) | exact HK.out _ (Lib.hid (by repeat (first | exact Hid.out (by assumption) | (refine Below.setCell ?_ (by first | exact Nat.le_refl _ | (dsimp only; assumption) | (dsimp only; omega)) _)))))
     (first
     | (go_at_call 96; refine (HNM.out _).mono ?_; rintro e w2 ⟨rfl, hb2⟩
        have HB2 := belh_step (w0 := wx) (by assumption) hb2
        have HB2a := Lib.hid (HB2.out.alloc HB2.out.size (.cells #[.int .i64 0, .slice none 0 0, .int .i64 0, .bool false] 32))
        have hs2 := HB2.out.size
        try have Z2 : Hid (w2.heap[wx.heap.size]? = some (.cells #[.int .i64 0, .slice none 0 0, .int .i64 0, .bool false] 32 (0, 0))) := (hb2.block wx.heap.size (by simp)).trans (heap_alloc_new wx.drew _)
        clear hb2)
     | (go_at_call 64; refine (HDO.out _ (by assumption)).mono ?_; rintro e w3 ⟨a3, c3, R3, rfl, hf3, hr3, hb3⟩
        have HF3 := Lib.hid hf3
        have HR3 := Lib.hid hr3
        have HB3 := belh_step (w0 := wx) (by assumption) hb3
        have HB3a := Lib.hid (HB3.out.alloc HB3.out.size (.cells #[.int .i64 0, .slice none 0 0, .int .i64 0, .bool false] 32))
        have HB3b := Lib.hid (HB3.out.alloc HB3.out.size (.cells #[.int .i64 r1, .slice a3 R3.length c3, .int .i64 r3, .bool r4] 32))
        first
        | (have Z3 := Lib.hid ((hb3.block _ (lt_of_heap Z2.out)).trans Z2.out)
           obtain ⟨z0, z1, z2, z3⟩ := cells4 Z3.out
           have f0 := freeAt Z3.out 0
           have f1 := freeAt Z3.out 1
           have f2 := freeAt Z3.out 2
           have f3 := freeAt Z3.out 3)
        | (have Z3 : Hid (w3.heap[w2.heap.size]? = some (.cells #[.int .i64 0, .slice none 0 0, .int .i64 0, .bool false] 32 (0, 0))) := (hb3.block w2.heap.size (by simp)).trans (heap_alloc_new w2 _)
           obtain ⟨z0, z1, z2, z3⟩ := cells4 Z3.out
           have f0 := freeAt Z3.out 0
           have f1 := freeAt Z3.out 1
           have f2 := freeAt Z3.out 2
           have f3 := freeAt Z3.out 3)
        | skip
        clear hf3 hr3 hb3))
   all_goals clear HK HBA HBB HNM HDO x0 x1 x2 x3 x4 x5 x6 x7
   all_goals have hnx : w.heap.size + 2 ≤ wx.heap.size := HSX.out
   all_goals first
   | (have HM := Lib.hid (mid2_set (r1 := r1) (r3 := r3) (r4 := r4) (wa := wx) (b4 := wx.heap.size) HU.out Z3.out HB3.out HR3.out (by have := hs2; have := lt_of_heap Z2.out; omega) (Nat.le_refl _))
      generalize ((((w3.setCell ⟨wx.heap.size, 0, none⟩ (.int .i64 r1)).setCell ⟨wx.heap.size, 1, none⟩ (.slice a3 R3.length c3)).setCell ⟨wx.heap.size, 2, none⟩ (.int .i64 r3)).setCell ⟨wx.heap.size, 3, none⟩ (.bool r4)) = W4 at HM ⊢
      generalize hb4 : wx.heap.size = b4 at HM ⊢)
   | (have HM := Lib.hid (mid2_set (r1 := r1) (r3 := r3) (r4 := r4) (wa := wx) (b4 := w2.heap.size) HU.out Z3.out HB3.out HR3.out (by simp) hs2)
      generalize ((((w3.setCell ⟨w2.heap.size, 0, none⟩ (.int .i64 r1)).setCell ⟨w2.heap.size, 1, none⟩ (.slice a3 R3.length c3)).setCell ⟨w2.heap.size, 2, none⟩ (.int .i64 r3)).setCell ⟨w2.heap.size, 3, none⟩ (.bool r4)) = W4 at HM ⊢
      generalize hb4 : w2.heap.size = b4 at HM ⊢)
   | (have HM := Lib.hid (mid2_late (r1 := r1) (r3 := r3) (r4 := r4) (wa := wx) HU.out HB3.out HR3.out (by have := hs2; simp <;> omega))
      generalize w3.alloc (.cells #[.int .i64 r1, .slice a3 R3.length c3, .int .i64 r3, .bool r4] 32) = W4 at HM ⊢
      generalize hb4 : w3.heap.size = b4 at HM ⊢)
   all_goals
     clear hb4
     have HX4 := Lib.hid ((HM.out.bel.block _ (lt_of_heap HXX.out)).trans HXX.out)
     have HZ4 := Lib.hid ((HM.out.bel.block _ (lt_of_heap HZX.out)).trans HZX.out)
     have HB4 := Lib.hid (HBX.out.trans (HM.out.bel.mono HBX.out.size))
     have hb4 : w.heap.size + 2 ≤ b4 := by have := HM.out.beh; have := HSX.out; omega
     obtain ⟨y0, y1, y2, y3⟩ := cells4 HM.out.blk
     obtain ⟨x0, x1, x2, x3, x4, x5, x6, x7⟩ := cells8w HX4.out
     have g0 := freeAt HX4.out 0
     have g1 := freeAt HX4.out 1
     have g2 := freeAt HX4.out 2
     have g3 := freeAt HX4.out 3
     go_upto_region 13 with fail
     have HX5 : Hid (((((W4.setCell ⟨w.heap.size, 0, none⟩ (.int .i64 r1)).setCell ⟨w.heap.size, 1, none⟩ (.slice a3 R3.length c3)).setCell ⟨w.heap.size, 2, none⟩ (.int .i64 r3)).setCell ⟨w.heap.size, 3, none⟩ (.bool r4)).heap[w.heap.size]? = some (.cells #[.int .i64 r1, .slice a3 R3.length c3, .int .i64 r3, .bool r4, .int .i64 most', .int .i64 n', .int .i64 size', .int .i64 wt'] 34 (0, 0))) := heap_store (heap_store (heap_store (heap_store HX4.out 0 _) 1 _) 2 _) 3 _
     have hn1 : w.heap.size + 1 ≠ w.heap.size := by omega
     have HZ5 : Hid (((((W4.setCell ⟨w.heap.size, 0, none⟩ (.int .i64 r1)).setCell ⟨w.heap.size, 1, none⟩ (.slice a3 R3.length c3)).setCell ⟨w.heap.size, 2, none⟩ (.int .i64 r3)).setCell ⟨w.heap.size, 3, none⟩ (.bool r4)).heap[w.heap.size + 1]? = _) := (Below.heap_setCell _ ⟨w.heap.size, 3, none⟩ _ _ hn1).trans ((Below.heap_setCell _ ⟨w.heap.size, 2, none⟩ _ _ hn1).trans ((Below.heap_setCell _ ⟨w.heap.size, 1, none⟩ _ _ hn1).trans ((Below.heap_setCell _ ⟨w.heap.size, 0, none⟩ _ _ hn1).trans HZ4.out)))
     have HB5 : Hid (Below w.heap.size w ((((W4.setCell ⟨w.heap.size, 0, none⟩ (.int .i64 r1)).setCell ⟨w.heap.size, 1, none⟩ (.slice a3 R3.length c3)).setCell ⟨w.heap.size, 2, none⟩ (.int .i64 r3)).setCell ⟨w.heap.size, 3, none⟩ (.bool r4))) := (((HB4.out.setCell (p := ⟨w.heap.size, 0, none⟩) (Nat.le_refl _) _).setCell (p := ⟨w.heap.size, 1, none⟩) (Nat.le_refl _) _).setCell (p := ⟨w.heap.size, 2, none⟩) (Nat.le_refl _) _).setCell (p := ⟨w.heap.size, 3, none⟩) (Nat.le_refl _) _
     have hno : ¬ (U w.heap.size ∨ (wx.heap.size ≤ w.heap.size ∧ w.heap.size ≠ b4)) := by
       rintro (h | h)
       · rcases HU.out _ h with h | h <;> omega
       · omega
     have HR5 : Hid (RLi ((((W4.setCell ⟨w.heap.size, 0, none⟩ (.int .i64 r1)).setCell ⟨w.heap.size, 1, none⟩ (.slice a3 R3.length c3)).setCell ⟨w.heap.size, 2, none⟩ (.int .i64 r3)).setCell ⟨w.heap.size, 3, none⟩ (.bool r4)) (.slice a3 R3.length c3) R3 (fun k => U k ∨ (wx.heap.size ≤ k ∧ k ≠ b4))) := (((HM.out.lst.store (p := ⟨w.heap.size, 0, none⟩) hno _).store (p := ⟨w.heap.size, 1, none⟩) hno _).store (p := ⟨w.heap.size, 2, none⟩) hno _).store (p := ⟨w.heap.size, 3, none⟩) hno _
     clear x0 x1 x2 x3 x4 x5 x6 x7 y0 y1 y2 y3 g0 g1 g2 g3 HX4 HZ4 HB4 HM
     generalize ((((W4.setCell ⟨w.heap.size, 0, none⟩ (.int .i64 r1)).setCell ⟨w.heap.size, 1, none⟩ (.slice a3 R3.length c3)).setCell ⟨w.heap.size, 2, none⟩ (.int .i64 r3)).setCell ⟨w.heap.size, 3, none⟩ (.bool r4)) = W5 at *
     have hno2 : ¬ (U (w.heap.size + 1) ∨ (wx.heap.size ≤ w.heap.size + 1 ∧ w.heap.size + 1 ≠ b4)) := by
       rintro (h | h)
       · rcases HU.out _ h with h | h <;> omega
       · omega
     have hTT : ∀ k, (U k ∨ (wx.heap.size ≤ k ∧ k ≠ b4)) → T k ∨ w.heap.size ≤ k := fun k hk => by
       rcases hk with h | h
       · rcases HU.out _ h with h | h
         · exact .inl h.1
         · exact .inr (by omega)
       · exact .inr (by omega)
     have HNO := Lib.hid hno2
     have HTT := Lib.hid hTT
     clear hno2 hTT
     have HF := Lib.hid (show R3.map RF.f = r2 from HF3.out)
     obtain ⟨x0, x1, x2, x3, x4, x5, x6, x7⟩ := cells8w HX5.out
     by_cases hr5 : r5 = 0
     · subst hr5
       have g6 := freeAt HX5.out 6
       have g7 := freeAt HX5.out 7
       go_upto_region 16 with fail
       have HX6 : Hid (((W5.setCell ⟨w.heap.size, 6, none⟩ (.int .i64 (size' + (rl + 8)))).setCell ⟨w.heap.size, 7, none⟩ (.int .i64 (wt' + 1))).heap[w.heap.size]? = some (.cells #[.int .i64 r1, .slice a3 R3.length c3, .int .i64 r3, .bool r4, .int .i64 most', .int .i64 n', .int .i64 (size' + (rl + 8)), .int .i64 (wt' + 1)] 34 (0, 0))) := heap_store (heap_store HX5.out 6 _) 7 _
       have HZ6 : Hid (((W5.setCell ⟨w.heap.size, 6, none⟩ (.int .i64 (size' + (rl + 8)))).setCell ⟨w.heap.size, 7, none⟩ (.int .i64 (wt' + 1))).heap[w.heap.size + 1]? = _) := (Below.heap_setCell _ ⟨w.heap.size, 7, none⟩ _ _ hn1).trans ((Below.heap_setCell _ ⟨w.heap.size, 6, none⟩ _ _ hn1).trans HZ5.out)
       have HB6 : Hid (Below w.heap.size w ((W5.setCell ⟨w.heap.size, 6, none⟩ (.int .i64 (size' + (rl + 8)))).setCell ⟨w.heap.size, 7, none⟩ (.int .i64 (wt' + 1)))) := (HB5.out.setCell (p := ⟨w.heap.size, 6, none⟩) (Nat.le_refl _) _).setCell (p := ⟨w.heap.size, 7, none⟩) (Nat.le_refl _) _
       have HR6 : Hid (RLi ((W5.setCell ⟨w.heap.size, 6, none⟩ (.int .i64 (size' + (rl + 8)))).setCell ⟨w.heap.size, 7, none⟩ (.int .i64 (wt' + 1))) (.slice a3 R3.length c3) R3 (fun k => U k ∨ (wx.heap.size ≤ k ∧ k ≠ b4))) := (HR5.out.store (p := ⟨w.heap.size, 6, none⟩) hno _).store (p := ⟨w.heap.size, 7, none⟩) hno _
       clear x0 x1 x2 x3 x4 x5 x6 x7 g6 g7 HX5 HZ5 HB5 HR5
       generalize ((W5.setCell ⟨w.heap.size, 6, none⟩ (.int .i64 (size' + (rl + 8)))).setCell ⟨w.heap.size, 7, none⟩ (.int .i64 (wt' + 1))) = W6 at *
       obtain ⟨x0, x1, x2, x3, x4, x5, x6, x7⟩ := cells8w HX6.out
       obtain ⟨z0, z1, z2, z3, z4, z5, z6, z7⟩ := cells8w HZ6.out
       have q0 := freeAt HZ6.out 0
       have q1 := freeAt HZ6.out 1
       have q2 := freeAt HZ6.out 2
       have q3 := freeAt HZ6.out 3
       have q4 := freeAt HZ6.out 4
       have q5 := freeAt HZ6.out 5
       have q6 := freeAt HZ6.out 6
       have q7 := freeAt HZ6.out 7
       have HFIN : Hid (putG opsF M0 r = (⟨n', size' + (rl + 8), wt' + 1, most', ⟨r1, R3.map RF.f, r3, r4⟩⟩, 0)) := by
         rw [Hid, HPX.out, HF.out, HLR.out]; exact app_done HR.out
       go_wp2
       try simp only [Exit.inBlock, Exit.then]
       exact rlog_end Tryz.results39 (b2 := w.heap.size + 1) (room := r1) (plan := r3) (down := r4) 0 HZ6.out (by omega) HB6.out HR6.out HTT.out HNO.out HFIN.out rfl rfl
     · have hb5 : (r5 == 0) = false := by simpa using hr5
       obtain ⟨z0, z1, z2, z3, z4, z5, z6, z7⟩ := cells8w HZ5.out
       have q0 := freeAt HZ5.out 0
       have q1 := freeAt HZ5.out 1
       have q2 := freeAt HZ5.out 2
       have q3 := freeAt HZ5.out 3
       have q4 := freeAt HZ5.out 4
       have q5 := freeAt HZ5.out 5
       have q6 := freeAt HZ5.out 6
       have q7 := freeAt HZ5.out 7
       have HFIN : Hid (putG opsF M0 r = (⟨n', size', wt', most', ⟨r1, R3.map RF.f, r3, r4⟩⟩, r5)) := by
         rw [Hid, HPX.out, HF.out]; exact app_fell HR.out hr5
       go_wp2
       try simp only [Exit.inBlock, Exit.then]
       exact rlog_end Tryz.results39 (b2 := w.heap.size + 1) (room := r1) (plan := r3) (down := r4) r5 HZ5.out (by omega) HB5.out HR5.out HTT.out HNO.out HFIN.out rfl rfl
end Go.Proofs.YtgdmdbdljmlkkaaGreatDoor
namespace Go.Proofs.YtgdmdbdljmlkkaaGreatDoor
open Go.ChangeShapes Go.WideShapes Go.ChangeAt Go.RowKit
theorem own : ownKnob Tryz.prog.godebug = none := by kernel_rfl
theorem laidOut : laidOutB Tryz.prog = true := by kernel_rfl
section
variable {H : Type} {enc : TypeId × Value → H}
theorem trodAll_below {W W' : World} (bel : Below W.heap.size W W') : ∀ {ts : List TypeId} {vs : List Value} {ds : List (DataW H)} {ps : List MemPlace},
   (∀ t ∈ ts, Tryz.prog.readableRec t = true ∧ t < Tryz.prog.types.size) → DataW.TrodAll enc Tryz.prog W 0 (fun _ => true) true ts vs ds ps → DataW.TrodAll enc Tryz.prog W' 0 (fun b => decide (b < W.heap.size)) true ts vs ds ps
 | [], vs, ds, ps, _, h => by
   obtain ⟨rfl, rfl, rfl⟩ := trodAll_nil h
   exact trodAll_mk0
 | t :: ts, vs, ds, ps, hr, h => by
   obtain ⟨v, vs', d, ds', p, q, rfl, rfl, rfl, h0, r0⟩ := trodAll_cons h
   obtain ⟨h1, h2⟩ := hr t (List.mem_cons_self ..)
   have lt0 : ∀ x ∈ p, x.block < W.heap.size := by obtain ⟨m, hm⟩ := h0; exact DataW.trod_lt m _ _ _ hm
   exact trodAll_cons_mk (Below.trod laidOut h1 h2 h0 bel lt0) (trodAll_below bel (fun t' ht' => hr t' (List.mem_cons_of_mem _ ht')) r0)
theorem law_post {f : Func} {s : ChangeSpec} {W W' : World} {args : Array Value} {ds : List (DataW H)} {before : List MemPlace} {v : Value}
   (hv : v = .bool true) (hrt : f.resultTypes = #[4]) (hvars : s.vars = []) (hr : ∀ t ∈ f.params.toList, Tryz.prog.readableRec t = true ∧ t < Tryz.prog.types.size)
   (hs : s.fn H (ds ++ []) = { results := [.lit (.bool true)], args := ds }) (hW : DataW.Whole enc Tryz.prog f.params.toList s.vars false W args.toList ds [] before)
   (bel : Below W.heap.size W W') : s.post enc Tryz.prog f false true false false W args v W' := by
 subst hv
 have hA : ∃ p, DataW.TrodAll enc Tryz.prog W 0 (fun _ => true) true f.params.toList args.toList ds p := by obtain ⟨p, q, hA, -⟩ := hW; exact ⟨p, hA⟩
 obtain ⟨p, hA⟩ := hA
 refine ⟨ds, [], before, [], p, [], hW, ?_, ?_, ?_, bel.frame _, fun h => by cases h⟩
 · rw [hs, hrt]; exact trodAll_mk1 (shut_bool Tryz.underlying4 _)
 · rw [hs]; exact trodAll_below bel hr hA
 · rw [hvars, hs]; rfl
end
abbrev laidD : List (String × DataW Unit) := Rows.walMatchesRow.laid
theorem laid_met (os : Os) (args : Array Value) : laidMetH Tryz.prog laidD ((World.laidAll Tryz.prog os laidD).forCall (fun _ _ => 0) ⟨#[], args, []⟩).memory := by
 rw [MakeChecks.laidMetH_plain _ _ _ (by kernel_rfl)]
 exact laidMet_laidAll _ (by kernel_rfl) (by kernel_rfl)
theorem cellsU8 : Tryz.prog.cellsOf 5 = 1 := by kernel_rfl
theorem gPow : Tryz.prog.globalNamed powName = some 0 := by kernel_rfl
theorem gPowType : (Tryz.prog.globals[0]?).map (·.type) = some 282 := by kernel_rfl
theorem cellsU64 : Tryz.prog.cellsOf 233 = 1 := by kernel_rfl
theorem cellsPow : Tryz.prog.cellsOf 282 = 20 := by kernel_rfl
theorem tab_of_laid {W : World} (h : laidMetH Tryz.prog laidD W) : Tab W := by
 rw [MakeChecks.laidMetH_plain _ _ _ (by kernel_rfl)] at h
 have h3 := laidMet.filter (fun x => x.1 == powName) h
 exact Lib.tabIs_of_head gPow gPowType Tryz.underlying282 Tryz.underlying233 cellsU64 cellsPow (rest := []) (by exact h3)
end Go.Proofs.YtgdmdbdljmlkkaaGreatDoor
