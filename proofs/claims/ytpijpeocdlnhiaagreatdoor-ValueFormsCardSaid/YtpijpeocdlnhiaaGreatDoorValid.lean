/- value.Valid: a payload that is valid, as a tree. -/
import Derived.Test.YtpijpeocdlnhiaaGreatDoorBlank
import Derived.Test.YtpijpeocdlnhiaaGreatDoorOpenVal
namespace Go.Proofs.YtpijpeocdlnhiaaGreatDoor
set_option linter.unusedVariables false
set_option linter.unusedSimpArgs false
open Go.RowKit

/-- The head of a payload: its kind, and that no other field is set. -/
def headB (left k n : Int) (f : Nat) (s : ByteArray) (len : Nat) : Bool :=
  decide (0 ≤ k ∧ k ≤ 4) && (decide (k = 1) || decide (n = 0)) && (decide (k = 2) || decide (canonB f = 0)) && (decide (k = 3) || decide (s.toList = [])) && (decide (k = 4) || decide (len = 0)) && !(decide (k = 4) && decide (left = 0))
mutual
def goodT : Int → VT → Bool
  | left, .node k n f s l => headB left k n f s l.length && goodL (left - 1) l
def goodL : Int → List VT → Bool
  | _, [] => true
  | left, t :: ts => goodT left t && goodL left ts
end
theorem goodL_iff (left : Int) : ∀ l : List VT, goodL left l = true ↔ ∀ t ∈ l, goodT left t = true
  | [] => by rw [goodL]; simp
  | t :: ts => by rw [goodL, Bool.and_eq_true, goodL_iff left ts]; simp

theorem toList_mk3 (l : List UInt8) : (⟨l.toArray⟩ : ByteArray).toList = l := by rw [ByteArray.toList_eq]
theorem canon_zero : canonB 0 = 0 := by decide
theorem head_blank {left k n : Int} {f : Nat} {s : ByteArray} {a : Option Addr} {len c : Nat} {b : VV} (hk : 0 ≤ k ∧ k ≤ 4) (hf : f < 18446744073709551616) (hb : b = blankV ⟨k, n, f, s, a, len, c⟩) :
    headB left k n f s len = (decide (b.n = 0) && decide (canonB b.f = 0) && decide (b.s.toList = []) && decide (b.l = 0) && !(decide (k = 4) && decide (left = 0))) ∧ b.f < 18446744073709551616 := by
  have h5 : k = 0 ∨ k = 1 ∨ k = 2 ∨ k = 3 ∨ k = 4 := by omega
  have he : (⟨#[]⟩ : ByteArray).toList = [] := toList_mk3 []
  subst hb
  rcases h5 with rfl | rfl | rfl | rfl | rfl <;> simp [headB, blankV, canon_zero, he, hf]

def cloV (bc : Nat) : Value := .func (.func 44) #[] #[.pointer (some ⟨bc, 0, none⟩)]

set_option maxRecDepth 100000 in
set_option maxHeartbeats 4000000 in
theorem valid1_any (bc : Nat) (t : VT) : ∀ (left : Int) (v : VV) (S : Nat → Prop) (w : World), 0 ≤ left → left ≤ 8 → TRead w S t v → wfT t → w.heap[bc]? = some (.cells #[cloV bc] 67 (0, 0)) →
    Calls Tryz.prog 44 #[v.val, .int .i64 left, .pointer (some ⟨bc, 0, none⟩)] w fun e w' => e = .returned (.bool (goodT left t)) ∧ Below w.heap.size w w' := by
  induction t using VT.ind with
  | _ k n f s l ih =>
    intro left v S w hl0 hl8 hv hwf hbc
    rw [wfT] at hwf
    obtain ⟨hwk, hwn, hwf', hws, hwl⟩ := hwf
    have HWL := Lib.hid ((wfL_iff l).1 hwl)
    have HI := Lib.hid ih
    have HV := Lib.hid hv
    have HC := Lib.hid hbc
    have hval : v.val = .agg #[.int .i64 k, .int .i64 n, .float .f64 f, .string s, .slice v.a l.length v.c] := hv.val
    have hmax : l.length ≤ maxLen := hv.small
    unfold maxLen at hmax
    have hlen : l.length ≤ v.c := by obtain ⟨vs, hr, _⟩ := hv.elems; obtain ⟨_, _, _, he, hle, _⟩ := hr; cases he; exact hle
    rw [hval]
    obtain ⟨G, hG⟩ : ∃ G, G = goodT left (.node k n f s l) := ⟨_, rfl⟩
    have HG : Hid (G = (headB left k n f s l.length && goodL (left - 1) l)) := by rw [hG, goodT]; rfl
    rw [← hG]
    clear hG hv ih hwl hval hbc
    obtain ⟨va, hva⟩ : ∃ va, va = v.a := ⟨_, rfl⟩
    have HVA := Lib.hid hva
    rw [← hva]
    clear hva
    have HBL := Lib.hid (blank_any ⟨k, n, f, s, va, l.length, v.c⟩)
    simp only [VV.val] at HBL
    have HKO := Lib.hid (of_any k)
    have HBX : Hid ((w.alloc (.cells #[.int .i64 k, .int .i64 n, .float .f64 f, .string s, .slice va l.length v.c] 26)).heap[w.heap.size]? = some (.cells #[.int .i64 k, .int .i64 n, .float .f64 f, .string s, .slice va l.length v.c] 26 (0, 0))) := heap_alloc_new w _
    have HWA : Hid (Below w.heap.size w (w.alloc (.cells #[.int .i64 k, .int .i64 n, .float .f64 f, .string s, .slice va l.length v.c] 26))) := (Below.refl _ _).alloc (Nat.le_refl _) _
    -- the head
    obtain ⟨b, hb⟩ : ∃ b, b = blankV ⟨k, n, f, s, va, l.length, v.c⟩ := ⟨_, rfl⟩
    rw [← hb] at HBL
    have HB := Lib.hid hb
    clear hb
    obtain ⟨bk, bn, bf, bs, ba, bl, bcc⟩ := b
    go_enter Tryz.func44, Tryz.ntmps44
    go_wp2_with fail
    generalize w.alloc (.cells #[.int .i64 k, .int .i64 n, .float .f64 f, .string s, .slice va l.length v.c] 26) = wa at *
    refine (HBL.out _).mono ?_
    rintro e w1 ⟨rfl, hb1⟩
    have HB1 := Lib.hid ((HWA.out.trans (hb1.mono HWA.out.size)).alloc (by have := hb1.size; have := HWA.out.size; omega) (.cells #[.int .i64 bk, .int .i64 bn, .float .f64 bf, .string bs, .slice ba bl bcc] 26))
    have HX1 : Hid ((w1.alloc (.cells #[.int .i64 bk, .int .i64 bn, .float .f64 bf, .string bs, .slice ba bl bcc] 26)).heap[w.heap.size]? = _) := (Below.heap_alloc _ _ _ (Nat.lt_of_lt_of_le (lt_of_heap HBX.out) hb1.size)).trans ((hb1.block _ (lt_of_heap HBX.out)).trans HBX.out)
    have HY1 : Hid ((w1.alloc (.cells #[.int .i64 bk, .int .i64 bn, .float .f64 bf, .string bs, .slice ba bl bcc] 26)).heap[w1.heap.size]? = some (.cells #[.int .i64 bk, .int .i64 bn, .float .f64 bf, .string bs, .slice ba bl bcc] 26 (0, 0))) := heap_alloc_new _ _
    clear hb1
    simp only [VV.val]
    obtain ⟨hx0, hx1, hx2, hx3, hx4⟩ := cells5 HX1.out
    obtain ⟨hy0, hy1, hy2, hy3, hy4⟩ := cells5 HY1.out
    go_wp2_with fail
    generalize w1.alloc (.cells #[.int .i64 bk, .int .i64 bn, .float .f64 bf, .string bs, .slice ba bl bcc] 26) = w2 at *
    refine (HKO.out _).mono ?_
    rintro e w3 ⟨rfl, rfl⟩
    have hnil : ∀ W, (binOp .eql 64 .nilIface .nilIface).run Tryz.prog W = .ok (.bool true) W := fun _ => by kernel_rfl
    have hn0 : ∀ W, ((binOp .eql 64 (.iface 103 (.agg #[])) .nilIface).run Tryz.prog W = .ok (.bool false) W) ∧ ((eqGuard BinOp.eql 64 (Operand.tmp 13) (Operand.const Value.nilIface) (.iface 103 (.agg #[])) Value.nilIface).run Tryz.prog W = .ok () W) := fun _ => ⟨by kernel_rfl, by kernel_rfl⟩
    have hn1 : ∀ W, ((binOp .eql 64 (.iface 104 (.agg #[])) .nilIface).run Tryz.prog W = .ok (.bool false) W) ∧ ((eqGuard BinOp.eql 64 (Operand.tmp 13) (Operand.const Value.nilIface) (.iface 104 (.agg #[])) Value.nilIface).run Tryz.prog W = .ok () W) := fun _ => ⟨by kernel_rfl, by kernel_rfl⟩
    have hn2 : ∀ W, ((binOp .eql 64 (.iface 105 (.agg #[])) .nilIface).run Tryz.prog W = .ok (.bool false) W) ∧ ((eqGuard BinOp.eql 64 (Operand.tmp 13) (Operand.const Value.nilIface) (.iface 105 (.agg #[])) Value.nilIface).run Tryz.prog W = .ok () W) := fun _ => ⟨by kernel_rfl, by kernel_rfl⟩
    have hn3 : ∀ W, ((binOp .eql 64 (.iface 106 (.agg #[])) .nilIface).run Tryz.prog W = .ok (.bool false) W) ∧ ((eqGuard BinOp.eql 64 (Operand.tmp 13) (Operand.const Value.nilIface) (.iface 106 (.agg #[])) Value.nilIface).run Tryz.prog W = .ok () W) := fun _ => ⟨by kernel_rfl, by kernel_rfl⟩
    have hn4 : ∀ W, ((binOp .eql 64 (.iface 107 (.agg #[])) .nilIface).run Tryz.prog W = .ok (.bool false) W) ∧ ((eqGuard BinOp.eql 64 (Operand.tmp 13) (Operand.const Value.nilIface) (.iface 107 (.agg #[])) Value.nilIface).run Tryz.prog W = .ok () W) := fun _ => ⟨by kernel_rfl, by kernel_rfl⟩
    have hkind : (kindV k = .nilIface ∧ ¬ (0 ≤ k ∧ k ≤ 4)) ∨ ((0 ≤ k ∧ k ≤ 4) ∧ (∀ W, ((binOp .eql 64 (kindV k) .nilIface).run Tryz.prog W = .ok (.bool false) W) ∧ ((eqGuard BinOp.eql 64 (Operand.tmp 13) (Operand.const Value.nilIface) (kindV k) Value.nilIface).run Tryz.prog W = .ok () W))) := by
      by_cases h : 0 ≤ k ∧ k ≤ 4
      · right
        refine ⟨h, ?_⟩
        have h5 : k = 0 ∨ k = 1 ∨ k = 2 ∨ k = 3 ∨ k = 4 := by omega
        rcases h5 with rfl | rfl | rfl | rfl | rfl
        · exact hn0
        · exact hn1
        · exact hn2
        · exact hn3
        · exact hn4
      · exact .inl ⟨kind_other (by omega), h⟩
    clear hn0 hn1 hn2 hn3 hn4
    rcases hkind with ⟨hk1, hk2⟩ | ⟨hk1, hk2⟩
    · have HF : Hid (G = false) := by rw [Hid, HG.out]; unfold headB; rw [decide_eq_false hk2]; simp
      rw [hk1]
      clear hk1 hk2
      go_wp2_with fail
      go_ret
      exact ⟨congrArg (fun x => Ending.returned (.bool x)) HF.out.symm, HB1.out⟩
    · have hhb := head_blank (left := left) hk1 hwf' HB.out
      have HH : Hid (G = ((decide (bn = 0) && decide (canonB bf = 0) && decide (bs.toList = []) && decide (bl = 0) && !(decide (k = 4) && decide (left = 0))) && goodL (left - 1) l)) := by rw [Hid, HG.out, hhb.1]
      have HBI := Lib.hid (nbits_any bf hhb.2)
      clear hhb HG hk1
      generalize kindV k = kv at *
      have hk3 := fun W => (hk2 W).1
      have hk4 := fun W => (hk2 W).2
      clear hk2
      by_cases c1 : bn = 0
      · have e1 : (bn != 0) = false := by simp [c1]
        by_cases c2 : canonB bf = 0
        · have e2 : ((canonB bf : Int) != 0) = false := by simp [c2]
          rw [decide_eq_true c1, decide_eq_true c2] at HH
          clear c1 c2
          generalize canonB bf = cbf at *
          by_cases c3 : bs.toList = []
          · have e3 : bs.toList.isEmpty = true := by simp [c3]
            by_cases c4 : bl = 0
            · subst c4
              by_cases c5 : k = 4 ∧ left = 0
              · obtain ⟨rfl, rfl⟩ := c5
                have HF : Hid (G = false) := by rw [Hid, HH.out]; simp
                clear HH
                go_wp2_with fail
                refine (HBI.out _).mono ?_
                rintro e w4 ⟨rfl, rfl⟩
                go_wp2
                go_ret
                exact ⟨congrArg (fun x => Ending.returned (.bool x)) HF.out.symm, HB1.out⟩
              · have HG2 : Hid (G = goodL (left - 1) l) := by
                  rw [Hid, HH.out, decide_eq_true c3]
                  have : (decide (k = 4) && decide (left = 0)) = false := by
                    rw [Bool.and_eq_false_iff]
                    by_cases h4 : k = 4
                    · exact .inr (decide_eq_false (fun h => c5 ⟨h4, h⟩))
                    · exact .inl (decide_eq_false h4)
                  rw [this]; simp
                have hc : ((k == 4) = true ∧ (left == 0) = false ∧ 1 ≤ left) ∨ ((k == 4) = false ∧ l.length = 0) := by
                  by_cases h4 : k = 4
                  · have : left ≠ 0 := fun h => c5 ⟨h4, h⟩
                    exact .inl ⟨by simp [h4], by simp [this], by omega⟩
                  · refine .inr ⟨by simp [h4], ?_⟩
                    have hb := congrArg VV.l HB.out
                    have hbl : (blankV ⟨k, n, f, s, va, l.length, v.c⟩).l = l.length := by
                      unfold blankV
                      simp only
                      split
                      · rfl
                      · split
                        · rfl
                        · split
                          · rfl
                          · first | rfl | (split <;> first | rfl | (exfalso; omega)) | simp [h4]
                    rw [hbl] at hb
                    exact hb.symm
                clear HH c3 c5
                rcases hc with ⟨e5, e6, hl1⟩ | ⟨e5, hl1⟩
                · have HLB := Lib.hid hl1
                  go_wp2_with fail
                  refine (HBI.out _).mono ?_
                  rintro e w4 ⟨rfl, rfl⟩
                  go_wp2_with fail
                  clear e1 e2 e3 e5 e6 hy0 hy1 hy2 hy3 hy4 hnil hk3 hk4 hx0 hx1 hx2 hx3 hx4
                  go_loopw [49] (fun i w' => ∃ m : Nat, m ≤ l.length ∧ i = .int .i64 m ∧ Hid (∀ j (hj : j < l.length), j < m → goodT (left - 1) l[j] = true) ∧ Hid (Below w.heap.size w w')) (fun i _ => l.length - (RowKit.intOf i).toNat)
                  case atStart => exact ⟨0, by omega, rfl, fun j _ h => by omega, HB1.out⟩
                  case round =>
                    obtain ⟨m, hm, rfl, HLOW, HBr⟩ := hrel
                    by_cases hlt : m < l.length
                    · obtain ⟨b, o, hb0, hcap, hblt, -, p, hp, hc0, hc1, hc2, hc3, hc4⟩ := (HV.out.later HBr.out).child m hlt
                      obtain rfl : va = some ⟨b, o, none⟩ := HVA.out.trans hb0
                      have HCr := Lib.hid ((HBr.out.block _ (lt_of_heap HC.out)).trans HC.out)
                      have HBA := Lib.hid (HBr.out.alloc HBr.out.size (.cells #[.int .i64 p.k, .int .i64 p.n, .float .f64 p.f, .string p.s, .slice p.a p.l p.c] 26))
                      have HCA : Hid ((wr.alloc (.cells #[.int .i64 p.k, .int .i64 p.n, .float .f64 p.f, .string p.s, .slice p.a p.l p.c] 26)).heap[bc]? = _) := (Below.heap_alloc _ _ _ (lt_of_heap HCr.out)).trans HCr.out
                      have hclo := cellAt HCA.out 0 (v := .func (.func 44) #[] #[.pointer (some ⟨bc, 0, none⟩)]) rfl
                      have HIH := Lib.hid (HI.out l[m] (List.getElem_mem hlt) (left - 1) p S (wr.alloc (.cells #[.int .i64 p.k, .int .i64 p.n, .float .f64 p.f, .string p.s, .slice p.a p.l p.c] 26)) (by omega) (by omega) (hp.later ((Below.refl _ _).alloc (Nat.le_refl _) _)) (HWL.out _ (List.getElem_mem hlt)) HCA.out)
                      simp only [VV.val] at HIH
                      have HBAD : Hid (goodT (left - 1) l[m] = false → G = false) := fun h => by
                        rw [HG2.out]
                        refine Bool.eq_false_iff.2 fun h2 => ?_
                        have := (goodL_iff (left - 1) l).1 h2 _ (List.getElem_mem hlt)
                        rw [h] at this; cases this
                      have HN : Hid (goodT (left - 1) l[m] = true → ∀ j (hj : j < l.length), j < m + 1 → goodT (left - 1) l[j] = true) := fun h j hj hjm => by
                        rcases Nat.lt_or_ge j m with h3 | h3
                        · exact HLOW.out j hj h3
                        · have : j = m := by omega
                          subst this; exact h
                      have hw1 : IntKind.i64.wrap (left - 1) = left - 1 := IntWalk.i64_in _ (by omega)
                      clear hp hb0
                      generalize hgg : goodT (left - 1) l[m] = g at *
                      clear hgg
                      go_wp2_with fail
                      refine HIH.out.mono ?_
                      rintro e w5 ⟨rfl, hb5⟩
                      have HB5 := Lib.hid (HBA.out.trans (hb5.mono HBA.out.size))
                      clear hb5 hclo hc0 hc1 hc2 hc3 hc4 hw1
                      cases g
                      · have HF := Lib.hid (HBAD.out rfl)
                        go_wp2
                        go_ret
                        exact ⟨congrArg (fun x => Ending.returned (.bool x)) HF.out.symm, HB5.out⟩
                      · have HN2 := Lib.hid (HN.out rfl)
                        go_wp2
                        go_roundw
                        case rel => exact ⟨m + 1, by omega, by go_num, HN2, HB5⟩
                        case measure => simp [RowKit.intOf]; omega
                    · have HF : Hid (G = true) := by
                        rw [Hid, HG2.out]
                        exact (goodL_iff (left - 1) l).2 (fun t ht => by obtain ⟨j, hj, rfl⟩ := List.mem_iff_getElem.1 ht; exact HLOW.out j hj (by omega))
                      go_wp2
                      go_ret
                      exact ⟨congrArg (fun x => Ending.returned (.bool x)) HF.out.symm, HBr.out⟩
                · obtain rfl : l = [] := List.eq_nil_of_length_eq_zero hl1
                  have HF : Hid (G = true) := by rw [Hid, HG2.out, goodL]
                  clear HG2 hl1
                  simp only [List.length_nil] at *
                  go_wp2_with fail
                  refine (HBI.out _).mono ?_
                  rintro e w4 ⟨rfl, rfl⟩
                  go_wp2_with fail
                  go_loopw [49] (fun i w' => i = .int .i64 0 ∧ w' = w2) (fun i _ => 0)
                  case atStart => exact ⟨rfl, rfl⟩
                  case round =>
                    obtain ⟨rfl, rfl⟩ := hrel
                    go_wp2
                    go_ret
                    exact ⟨congrArg (fun x => Ending.returned (.bool x)) HF.out.symm, HB1.out⟩
            · have HF : Hid (G = false) := by rw [Hid, HH.out]; simp [c4]
              have e4 : decide ((0 : Int) < (bl : Int)) = true := by simp; omega
              clear HH
              go_wp2_with fail
              refine (HBI.out _).mono ?_
              rintro e w4 ⟨rfl, rfl⟩
              go_wp2
              go_ret
              exact ⟨congrArg (fun x => Ending.returned (.bool x)) HF.out.symm, HB1.out⟩
          · have HF : Hid (G = false) := by rw [Hid, HH.out]; simp [c3]
            have e3 : bs.toList.isEmpty = false := by simpa using c3
            clear HH
            go_wp2_with fail
            refine (HBI.out _).mono ?_
            rintro e w4 ⟨rfl, rfl⟩
            go_wp2
            go_ret
            exact ⟨congrArg (fun x => Ending.returned (.bool x)) HF.out.symm, HB1.out⟩
        · have e2 : ((canonB bf : Int) != 0) = true := by simp [c2]
          have HF : Hid (G = false) := by rw [Hid, HH.out]; simp [c2]
          clear c1 c2 HH
          generalize canonB bf = cbf at *
          go_wp2_with fail
          refine (HBI.out _).mono ?_
          rintro e w4 ⟨rfl, rfl⟩
          go_wp2
          go_ret
          exact ⟨congrArg (fun x => Ending.returned (.bool x)) HF.out.symm, HB1.out⟩
      · have e1 : (bn != 0) = true := by simp [c1]
        have HF : Hid (G = false) := by rw [Hid, HH.out]; simp [c1]
        clear c1 HH
        go_wp2
        go_ret
        exact ⟨congrArg (fun x => Ending.returned (.bool x)) HF.out.symm, HB1.out⟩
end Go.Proofs.YtpijpeocdlnhiaaGreatDoor
