/- The law's Do: an operation on a disk. -/
import Derived.Test.YtjhhmljebflanaaDoorRel2
import Derived.Test.YtjhhmljebflanaaDoorDNil
import Derived.Test.YtjhhmljebflanaaDoorDKeeps
namespace Go.Proofs.YtjhhmljebflanaaDoor
set_option linter.unusedVariables false
set_option linter.unusedSimpArgs false
open Go.RowKit

/-- An operation, and where its lists lie. -/
structure AC where
  k : Int
  name : ByteArray
  to : ByteArray
  b : List UInt8
  ba : Option Addr
  bc : Nat
  n : Int
  keep : List Int
  ka : Option Addr
  kc : Nat
def AC.val (a : AC) : Value := .agg #[.int .i64 a.k, .string a.name, .string a.to, .slice a.ba a.b.length a.bc, .int .i64 a.n, .slice a.ka a.keep.length a.kc]
structure AC.ok (a : AC) (w : World) (S : Nat → Prop) : Prop where
  rb : Reads w (.slice a.ba a.b.length a.bc) a.b.length 1 (byts a.b)
  nb : ∀ ad, a.ba = some ad → 0 < a.b.length → ¬ S ad.block
  rk : Reads w (.slice a.ka a.keep.length a.kc) a.keep.length 1 (a.keep.map (Value.int .i64))
  nk : ∀ ad, a.ka = some ad → 0 < a.keep.length → ¬ S ad.block
  lb : a.b.length ≤ 100000
  lk : a.keep.length ≤ 100000
  ln : a.name.size ≤ 100000
  lt : a.to.size ≤ 100000

def crashedD (D : DS) (ks : List Int) (D' : DS) : Prop := ∃ ss : List (List UInt8), (ss.Pairwise (· < ·) ∧ ∀ s : List UInt8, s ∈ ss ↔ ⟨s.toArray⟩ ∈ D.files.map DF.name) ∧ D' = crashN D ss ks ss.length
/-- What an operation does to a disk. -/
def ActD (D : DS) (a : AC) (D' : DS) (code : Int) (bs : List UInt8) : Prop :=
  if a.k = 1 then D' = (createD D a.name).1 ∧ code = (createD D a.name).2 ∧ bs = []
  else if a.k = 2 then D' = (appendD D a.name a.b).1 ∧ code = (appendD D a.name a.b).2 ∧ bs = []
  else if a.k = 3 then D' = (syncD D a.name).1 ∧ code = (syncD D a.name).2 ∧ bs = []
  else if a.k = 4 then D' = (renameD D a.name a.to).1 ∧ code = (renameD D a.name a.to).2 ∧ bs = []
  else if a.k = 5 then D' = (removeD D a.name).1 ∧ code = (removeD D a.name).2 ∧ bs = []
  else if a.k = 6 then D' = { D with plan := max a.n 0 } ∧ code = 0 ∧ bs = []
  else if a.k = 7 then crashedD D a.keep D' ∧ code = 0 ∧ bs = []
  else D' = D ∧ code = (readD D a.name).2 ∧ bs = (readD D a.name).1

set_option maxRecDepth 100000 in
set_option maxHeartbeats 2000000 in
theorem dact_any (x : Value) (a : AC) (D : DS) (S : Nat → Prop) (w : World) (h : DRep w x D S) (hp : 0 ≤ D.plan ∧ D.plan ≤ 9223372036854775807) (hs : sumD D.files ≤ 100000000) (hl : D.files.length ≤ 100000) (hnm : ∀ f ∈ D.files, f.name.size ≤ maxLen) (ha : a.ok w S) :
    Calls Tryd.prog 19 #[x, a.val] w fun e w' => ∃ D' code bs v, ActD D a D' code bs ∧ e = .returned (.tuple #[.int .i64 code, v]) ∧ Row w' 5 1 v bs.length (byts bs) (fun k => w.heap.size ≤ k) ∧ DRep w' x D' (fun k => S k ∨ w.heap.size ≤ k) ∧ Chg S w w' := by
  have HNM := Lib.hid hnm
  obtain ⟨k, name, to, b, ba, bc, n, keep, ka, kc⟩ := a
  have HRB := Lib.hid ha.rb
  have HNB := Lib.hid ha.nb
  have HRK := Lib.hid ha.rk
  have HNK := Lib.hid ha.nk
  have hlb : b.length ≤ 100000 := ha.lb
  have hlk : keep.length ≤ 100000 := ha.lk
  simp only [AC.val] at *
  have HAX : Hid ((w.alloc (.cells #[.int .i64 k, .string name, .string to, .slice ba b.length bc, .int .i64 n, .slice ka keep.length kc] 41)).heap[w.heap.size]? = some (.cells #[.int .i64 k, .string name, .string to, .slice ba b.length bc, .int .i64 n, .slice ka keep.length kc] 41 (0, 0))) := heap_alloc_new w _
  have HBel : Hid (Below w.heap.size w (w.alloc (.cells #[.int .i64 k, .string name, .string to, .slice ba b.length bc, .int .i64 n, .slice ka keep.length kc] 41))) := (Below.refl _ _).alloc (Nat.le_refl _) _
  have HD : Hid (DRep (w.alloc (.cells #[.int .i64 k, .string name, .string to, .slice ba b.length bc, .int .i64 n, .slice ka keep.length kc] 41)) x D (fun j => S j ∧ j < w.heap.size)) := h.tight.frame (fun k _ hk => HBel.out.block k hk)
  have HCH : Hid (Chg S w (w.alloc (.cells #[.int .i64 k, .string name, .string to, .slice ba b.length bc, .int .i64 n, .slice ka keep.length kc] 41))) := Chg.ofBelow HBel.out
  obtain ⟨AD, hAD⟩ : ∃ AD, AD = ActD D ⟨k, name, to, b, ba, bc, n, keep, ka, kc⟩ := ⟨_, rfl⟩
  rw [← hAD]
  have HAD := Lib.hid hAD
  clear h hnm ha hAD
  have hcases : k = 1 ∨ k = 2 ∨ k = 3 ∨ k = 4 ∨ k = 5 ∨ k = 6 ∨ k = 7 ∨ (k ≠ 1 ∧ k ≠ 2 ∧ k ≠ 3 ∧ k ≠ 4 ∧ k ≠ 5 ∧ k ≠ 6 ∧ k ≠ 7) := by omega
  go_enter Tryd.func19, Tryd.ntmps19
  go_upto_region 1 with fail
  generalize w.alloc (.cells #[.int .i64 k, .string name, .string to, .slice ba b.length bc, .int .i64 n, .slice ka keep.length kc] 41) = wd at *
  have hx0 := cellAt HAX.out 0 rfl
  have hx1 := cellAt HAX.out 1 rfl
  have hx2 := cellAt HAX.out 2 rfl
  have hx3 := cellAt HAX.out 3 rfl
  have hx4 := cellAt HAX.out 4 rfl
  have hx5 := cellAt HAX.out 5 rfl
  have hsz := HBel.out.size
  have HFIN : Hid (∀ D' w', DRep w' x D' (fun j => (S j ∧ j < w.heap.size) ∨ wd.heap.size ≤ j) → Chg (fun j => S j ∧ j < w.heap.size) wd w' → DRep w' x D' (fun j => S j ∨ w.heap.size ≤ j) ∧ Chg S w w') := fun D' w' hr hc =>
    ⟨hr.mono (fun j hj => by rcases hj with hj | hj; exact .inl hj.1; exact .inr (by omega)), HCH.out.trans (hc.mono (T := S) (fun j hj => hj.1)) (fun j hj => .inl hj)⟩
  rcases hcases with rfl | rfl | rfl | rfl | rfl | rfl | rfl | ⟨h1, h2, h3, h4, h5, h6, h7⟩
  · have HV : Hid (∀ D' code bs, AD D' code bs = (D' = (createD D name).1 ∧ code = (createD D name).2 ∧ bs = [])) := fun D' code bs => by rw [HAD.out]; rfl
    go_wp2_with fail
    refine (create_any x name D _ _ HD.out hp).mono ?_
    rintro e w2 ⟨rfl, hr, hc⟩
    have HF := Lib.hid (HFIN.out _ _ hr hc)
    clear hr hc
    go_wp2
    go_ret2
    exact ⟨_, _, [], .slice none 0 0, by rw [HV.out]; exact ⟨rfl, rfl, rfl⟩, rfl, Row.nil _ _ _ _, HF.out.1, HF.out.2⟩
  · have HV : Hid (∀ D' code bs, AD D' code bs = (D' = (appendD D name b).1 ∧ code = (appendD D name b).2 ∧ bs = [])) := fun D' code bs => by rw [HAD.out]; rfl
    go_wp2_with fail
    refine (append_any x name b ba bc D _ _ HD.out hp (by omega) (by omega) (HRB.out.later HBel.out) (fun ad had h0 hj => HNB.out ad had h0 hj.1)).mono ?_
    rintro e w2 ⟨rfl, hr, hc⟩
    have HF := Lib.hid (HFIN.out _ _ hr hc)
    clear hr hc
    go_wp2
    go_ret2
    exact ⟨_, _, [], .slice none 0 0, by rw [HV.out]; exact ⟨rfl, rfl, rfl⟩, rfl, Row.nil _ _ _ _, HF.out.1, HF.out.2⟩
  · have HV : Hid (∀ D' code bs, AD D' code bs = (D' = (syncD D name).1 ∧ code = (syncD D name).2 ∧ bs = [])) := fun D' code bs => by rw [HAD.out]; rfl
    go_wp2_with fail
    refine (sync_any x name D _ _ HD.out hp).mono ?_
    rintro e w2 ⟨rfl, hr, hc⟩
    have HF := Lib.hid (HFIN.out _ _ hr hc)
    clear hr hc
    go_wp2
    go_ret2
    exact ⟨_, _, [], .slice none 0 0, by rw [HV.out]; exact ⟨rfl, rfl, rfl⟩, rfl, Row.nil _ _ _ _, HF.out.1, HF.out.2⟩
  · have HV : Hid (∀ D' code bs, AD D' code bs = (D' = (renameD D name to).1 ∧ code = (renameD D name to).2 ∧ bs = [])) := fun D' code bs => by rw [HAD.out]; rfl
    go_wp2_with fail
    refine (rename_any x name to D _ _ HD.out hp).mono ?_
    rintro e w2 ⟨rfl, hr, hc⟩
    have HF := Lib.hid (HFIN.out _ _ hr hc)
    clear hr hc
    go_wp2
    go_ret2
    exact ⟨_, _, [], .slice none 0 0, by rw [HV.out]; exact ⟨rfl, rfl, rfl⟩, rfl, Row.nil _ _ _ _, HF.out.1, HF.out.2⟩
  · have HV : Hid (∀ D' code bs, AD D' code bs = (D' = (removeD D name).1 ∧ code = (removeD D name).2 ∧ bs = [])) := fun D' code bs => by rw [HAD.out]; rfl
    go_wp2_with fail
    refine (remove_any x name D _ _ HD.out hp).mono ?_
    rintro e w2 ⟨rfl, hr, hc⟩
    have HF := Lib.hid (HFIN.out _ _ hr hc)
    clear hr hc
    go_wp2
    go_ret2
    exact ⟨_, _, [], .slice none 0 0, by rw [HV.out]; exact ⟨rfl, rfl, rfl⟩, rfl, Row.nil _ _ _ _, HF.out.1, HF.out.2⟩
  · have HV : Hid (∀ D' code bs, AD D' code bs = (D' = { D with plan := max n 0 } ∧ code = 0 ∧ bs = [])) := fun D' code bs => by rw [HAD.out]; rfl
    go_wp2_with fail
    refine (arm_any x n D _ _ HD.out).mono ?_
    rintro e w2 ⟨rfl, hr, hc⟩
    have HF := Lib.hid (HFIN.out _ _ (hr.mono (fun j hj => .inl hj)) hc)
    clear hr hc
    go_wp2
    go_ret2
    exact ⟨_, _, [], .slice none 0 0, by rw [HV.out]; exact ⟨rfl, rfl, rfl⟩, rfl, Row.nil _ _ _ _, HF.out.1, HF.out.2⟩
  · have HV : Hid (∀ D' code bs, AD D' code bs = (crashedD D keep D' ∧ code = 0 ∧ bs = [])) := fun D' code bs => by rw [HAD.out]; rfl
    go_wp2_with fail
    refine (crash_any x ka kc keep D _ _ HD.out hl HNM.out (HRK.out.later HBel.out) hlk (fun ad had h0 hj => HNK.out ad had h0 hj.1)).mono ?_
    rintro e w2 ⟨ss, hss, rfl, hr, hc⟩
    have HF := Lib.hid (HFIN.out _ _ (hr.mono (fun j hj => .inl hj)) hc)
    have HSS := Lib.hid hss
    clear hr hc hss
    go_wp2
    go_ret2
    exact ⟨_, _, [], .slice none 0 0, by rw [HV.out]; exact ⟨⟨ss, HSS.out, rfl⟩, rfl, rfl⟩, rfl, Row.nil _ _ _ _, HF.out.1, HF.out.2⟩
  · have HV : Hid (∀ D' code bs, AD D' code bs = (D' = D ∧ code = (readD D name).2 ∧ bs = (readD D name).1)) := fun D' code bs => by
      rw [HAD.out]
      simp only [ActD, if_neg h1, if_neg h2, if_neg h3, if_neg h4, if_neg h5, if_neg h6, if_neg h7]
    have g1 : (k == 1) = false := by simpa using h1
    have g2 : (k == 2) = false := by simpa using h2
    have g3 : (k == 3) = false := by simpa using h3
    have g4 : (k == 4) = false := by simpa using h4
    have g5 : (k == 5) = false := by simpa using h5
    have g6 : (k == 6) = false := by simpa using h6
    have g7 : (k == 7) = false := by simpa using h7
    clear h1 h2 h3 h4 h5 h6 h7
    go_wp2_with fail
    refine (read_any x name D _ _ HD.out (by omega)).mono ?_
    rintro e w2 ⟨v, rfl, hr, hb⟩
    have HF := Lib.hid (HFIN.out D w2 ((HD.out.frame (fun k _ hk => hb.block k hk)).mono (fun j hj => .inl hj)) (Chg.ofBelow hb))
    have HR := Lib.hid (hr.mono (T := fun k => w.heap.size ≤ k) (fun j hj => by omega))
    clear hr hb
    go_wp2
    go_ret2
    exact ⟨_, _, _, v, by rw [HV.out]; exact ⟨rfl, rfl, rfl⟩, rfl, HR.out, HF.out.1, HF.out.2⟩
end Go.Proofs.YtjhhmljebflanaaDoor
