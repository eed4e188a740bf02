/- Texts for programTexts_holds, joined: Valid, TopValid, HexL, PText, PKind, PRight, PVText. -/
import Derived.Test.YtpijpeocdlnhiaaGreatDoorTp02
import Derived.Test.YtpijpeocdlnhiaaGreatDoorTp01
import Derived.Laws.IdiomStrings
import Derived.Test.YtpijpeocdlnhiaaGreatDoorChecked
import Derived.Deep.RegionLaw
import Derived.Deep.RegionHeld3
import Derived.StillTailTactics
import Derived.Deep.Cut
import Derived.BigQuiet
set_option linter.unusedVariables false
set_option linter.unusedSimpArgs false
namespace Go.Proofs.YtpijpeocdlnhiaaGreatDoor
open Go.RowKit
def headB (left k n : Int) (f : Nat) (s : ByteArray) (len : Nat) : Bool :=
  decide (0 ≤ k ∧ k ≤ 4) && (decide (k = 1) || decide (n = 0)) && (decide (k = 2) || decide (canonB f = 0)) && (decide (k = 3) || decide (s.toList = [])) && (decide (k = 4) || decide (len = 0)) && !(decide (k = 4) && decide (left = 0))
mutual
def goodT : Int → VT → Bool
  | left, .node k n f s l => headB left k n f s l.length && goodL (left - 1) l
def goodL : Int → List VT → Bool
  | _, [] => true
  | left, t :: ts => goodT left t && goodL left ts
end
theorem goodL_iff (left : Int) : ∀ l : List VT, goodL left l = true ↔ ∀ t ∈ l, goodT left t = true
  | [] => by rw [goodL]; simp
  | t :: ts => by rw [goodL, Bool.and_eq_true, goodL_iff left ts]; simp
theorem toList_mk3 (l : List UInt8) : (⟨l.toArray⟩ : ByteArray).toList = l := by rw [ByteArray.toList_eq]
theorem canon_zero : canonB 0 = 0 := by decide
theorem head_blank {left k n : Int} {f : Nat} {s : ByteArray} {a : Option Addr} {len c : Nat} {b : VV} (hk : 0 ≤ k ∧ k ≤ 4) (hf : f < 18446744073709551616) (hb : b = blankV ⟨k, n, f, s, a, len, c⟩) :
    headB left k n f s len = (decide (b.n = 0) && decide (canonB b.f = 0) && decide (b.s.toList = []) && decide (b.l = 0) && !(decide (k = 4) && decide (left = 0))) ∧ b.f < 18446744073709551616 := by
  have h5 : k = 0 ∨ k = 1 ∨ k = 2 ∨ k = 3 ∨ k = 4 := by omega
  have he : (⟨#[]⟩ : ByteArray).toList = [] := toList_mk3 []
  subst hb
  rcases h5 with rfl | rfl | rfl | rfl | rfl <;> simp [headB, blankV, canon_zero, he, hf]
def cloV (bc : Nat) : Value := .func (.func 44) #[] #[.pointer (some ⟨bc, 0, none⟩)]
set_option maxRecDepth 100000 in
set_option maxHeartbeats 4000000 in
theorem valid1_any (bc : Nat) (t : VT) : ∀ (left : Int) (v : VV) (S : Nat → Prop) (w : World), 0 ≤ left → left ≤ 8 → TRead w S t v → wfT t → w.heap[bc]? = some (.cells #[cloV bc] 67 (0, 0)) →
    Calls Tryz.prog 44 #[v.val, .int .i64 left, .pointer (some ⟨bc, 0, none⟩)] w fun e w' => e = .returned (.bool (goodT left t)) ∧ Below w.heap.size w w' := by
  induction t using VT.ind with
  | _ k n f s l ih =>
    intro left v S w hl0 hl8 hv hwf hbc
    rw [wfT] at hwf
    obtain ⟨hwk, hwn, hwf', hws, hwl⟩ := hwf
    have HWL := Lib.hid ((wfL_iff l).1 hwl)
    have HI := Lib.hid ih
    have HV := Lib.hid hv
    have HC := Lib.hid hbc
    have hval : v.val = .agg #[.int .i64 k, .int .i64 n, .float .f64 f, .string s, .slice v.a l.length v.c] := hv.val
    have hmax : l.length ≤ maxLen := hv.small
    unfold maxLen at hmax
    have hlen : l.length ≤ v.c := by obtain ⟨vs, hr, _⟩ := hv.elems; obtain ⟨_, _, _, he, hle, _⟩ := hr; cases he; exact hle
    rw [hval]
    obtain ⟨G, hG⟩ : ∃ G, G = goodT left (.node k n f s l) := ⟨_, rfl⟩
    have HG : Hid (G = (headB left k n f s l.length && goodL (left - 1) l)) := by rw [hG, goodT]; rfl
    rw [← hG]
    clear hG hv ih hwl hval hbc
    obtain ⟨va, hva⟩ : ∃ va, va = v.a := ⟨_, rfl⟩
    have HVA := Lib.hid hva
    rw [← hva]
    clear hva
    have HBL := Lib.hid (blank_any ⟨k, n, f, s, va, l.length, v.c⟩)
    simp only [VV.val] at HBL
    have HKO := Lib.hid (of_any k)
    have HBX : Hid ((w.alloc (.cells #[.int .i64 k, .int .i64 n, .float .f64 f, .string s, .slice va l.length v.c] 26)).heap[w.heap.size]? = some (.cells #[.int .i64 k, .int .i64 n, .float .f64 f, .string s, .slice va l.length v.c] 26 (0, 0))) := heap_alloc_new w _
    have HWA : Hid (Below w.heap.size w (w.alloc (.cells #[.int .i64 k, .int .i64 n, .float .f64 f, .string s, .slice va l.length v.c] 26))) := (Below.refl _ _).alloc (Nat.le_refl _) _
    -- the head
    obtain ⟨b, hb⟩ : ∃ b, b = blankV ⟨k, n, f, s, va, l.length, v.c⟩ := ⟨_, rfl⟩
    rw [← hb] at HBL
    have HB := Lib.hid hb
    clear hb
    obtain ⟨bk, bn, bf, bs, ba, bl, bcc⟩ := b
    go_enter Tryz.func44, Tryz.ntmps44
    go_wp2_with fail
    generalize w.alloc (.cells #[.int .i64 k, .int .i64 n, .float .f64 f, .string s, .slice va l.length v.c] 26) = wa at *
    refine (HBL.out _).mono ?_
    rintro e w1 ⟨rfl, hb1⟩
    have HB1 := Lib.hid ((HWA.out.trans (hb1.mono HWA.out.size)).alloc (by have := hb1.size; have := HWA.out.size; omega) (.cells #[.int .i64 bk, .int .i64 bn, .float .f64 bf, .string bs, .slice ba bl bcc] 26))
    have HX1 : Hid ((w1.alloc (.cells #[.int .i64 bk, .int .i64 bn, .float .f64 bf, .string bs, .slice ba bl bcc] 26)).heap[w.heap.size]? = _) := (Below.heap_alloc _ _ _ (Nat.lt_of_lt_of_le (lt_of_heap HBX.out) hb1.size)).trans ((hb1.block _ (lt_of_heap HBX.out)).trans HBX.out)
    have HY1 : Hid ((w1.alloc (.cells #[.int .i64 bk, .int .i64 bn, .float .f64 bf, .string bs, .slice ba bl bcc] 26)).heap[w1.heap.size]? = some (.cells #[.int .i64 bk, .int .i64 bn, .float .f64 bf, .string bs, .slice ba bl bcc] 26 (0, 0))) := heap_alloc_new _ _
    clear hb1
    simp only [VV.val]
    obtain ⟨hx0, hx1, hx2, hx3, hx4⟩ := cells5 HX1.out
    obtain ⟨hy0, hy1, hy2, hy3, hy4⟩ := cells5 HY1.out
    go_wp2_with fail
    generalize w1.alloc (.cells #[.int .i64 bk, .int .i64 bn, .float .f64 bf, .string bs, .slice ba bl bcc] 26) = w2 at *
    refine (HKO.out _).mono ?_
    rintro e w3 ⟨rfl, rfl⟩
    have hnil : ∀ W, (binOp .eql 64 .nilIface .nilIface).run Tryz.prog W = .ok (.bool true) W := fun _ => by kernel_rfl
    have hn0 : ∀ W, ((binOp .eql 64 (.iface 103 (.agg #[])) .nilIface).run Tryz.prog W = .ok (.bool false) W) ∧ ((eqGuard BinOp.eql 64 (Operand.tmp 13) (Operand.const Value.nilIface) (.iface 103 (.agg #[])) Value.nilIface).run Tryz.prog W = .ok () W) := fun _ => ⟨by kernel_rfl, by kernel_rfl⟩
    have hn1 : ∀ W, ((binOp .eql 64 (.iface 104 (.agg #[])) .nilIface).run Tryz.prog W = .ok (.bool false) W) ∧ ((eqGuard BinOp.eql 64 (Operand.tmp 13) (Operand.const Value.nilIface) (.iface 104 (.agg #[])) Value.nilIface).run Tryz.prog W = .ok () W) := fun _ => ⟨by kernel_rfl, by kernel_rfl⟩
    have hn2 : ∀ W, ((binOp .eql 64 (.iface 105 (.agg #[])) .nilIface).run Tryz.prog W = .ok (.bool false) W) ∧ ((eqGuard BinOp.eql 64 (Operand.tmp 13) (Operand.const Value.nilIface) (.iface 105 (.agg #[])) Value.nilIface).run Tryz.prog W = .ok () W) := fun _ => ⟨by kernel_rfl, by kernel_rfl⟩
    have hn3 : ∀ W, ((binOp .eql 64 (.iface 106 (.agg #[])) .nilIface).run Tryz.prog W = .ok (.bool false) W) ∧ ((eqGuard BinOp.eql 64 (Operand.tmp 13) (Operand.const Value.nilIface) (.iface 106 (.agg #[])) Value.nilIface).run Tryz.prog W = .ok () W) := fun _ => ⟨by kernel_rfl, by kernel_rfl⟩
    have hn4 : ∀ W, ((binOp .eql 64 (.iface 107 (.agg #[])) .nilIface).run Tryz.prog W = .ok (.bool false) W) ∧ ((eqGuard BinOp.eql 64 (Operand.tmp 13) (Operand.const Value.nilIface) (.iface 107 (.agg #[])) Value.nilIface).run Tryz.prog W = .ok () W) := fun _ => ⟨by kernel_rfl, by kernel_rfl⟩
    have hkind : (kindV k = .nilIface ∧ ¬ (0 ≤ k ∧ k ≤ 4)) ∨ ((0 ≤ k ∧ k ≤ 4) ∧ (∀ W, ((binOp .eql 64 (kindV k) .nilIface).run Tryz.prog W = .ok (.bool false) W) ∧ ((eqGuard BinOp.eql 64 (Operand.tmp 13) (Operand.const Value.nilIface) (kindV k) Value.nilIface).run Tryz.prog W = .ok () W))) := by
      by_cases h : 0 ≤ k ∧ k ≤ 4
      · right
        refine ⟨h, ?_⟩
        have h5 : k = 0 ∨ k = 1 ∨ k = 2 ∨ k = 3 ∨ k = 4 := by omega
        rcases h5 with rfl | rfl | rfl | rfl | rfl
        · exact hn0
        · exact hn1
        · exact hn2
        · exact hn3
        · exact hn4
      · exact .inl ⟨kind_other (by omega), h⟩
    clear hn0 hn1 hn2 hn3 hn4
    rcases hkind with ⟨hk1, hk2⟩ | ⟨hk1, hk2⟩
    · have HF : Hid (G = false) := by rw [Hid, HG.out]; unfold headB; rw [decide_eq_false hk2]; simp
      rw [hk1]
      clear hk1 hk2
      go_wp2_with fail
      go_ret
      exact ⟨congrArg (fun x => Ending.returned (.bool x)) HF.out.symm, HB1.out⟩
    · have hhb := head_blank (left := left) hk1 hwf' HB.out
      have HH : Hid (G = ((decide (bn = 0) && decide (canonB bf = 0) && decide (bs.toList = []) && decide (bl = 0) && !(decide (k = 4) && decide (left = 0))) && goodL (left - 1) l)) := by rw [Hid, HG.out, hhb.1]
      have HBI := Lib.hid (nbits_any bf hhb.2)
      clear hhb HG hk1
      generalize kindV k = kv at *
      have hk3 := fun W => (hk2 W).1
      have hk4 := fun W => (hk2 W).2
      clear hk2
      by_cases c1 : bn = 0
      · have e1 : (bn != 0) = false := by simp [c1]
        by_cases c2 : canonB bf = 0
        · have e2 : ((canonB bf : Int) != 0) = false := by simp [c2]
          rw [decide_eq_true c1, decide_eq_true c2] at HH
          clear c1 c2
          generalize canonB bf = cbf at *
          by_cases c3 : bs.toList = []
          · have e3 : bs.toList.isEmpty = true := by simp [c3]
            by_cases c4 : bl = 0
            · subst c4
              by_cases c5 : k = 4 ∧ left = 0
              · obtain ⟨rfl, rfl⟩ := c5
                have HF : Hid (G = false) := by rw [Hid, HH.out]; simp
                clear HH
                go_wp2_with fail
                refine (HBI.out _).mono ?_
                rintro e w4 ⟨rfl, rfl⟩
                go_wp2
                go_ret
                exact ⟨congrArg (fun x => Ending.returned (.bool x)) HF.out.symm, HB1.out⟩
              · have HG2 : Hid (G = goodL (left - 1) l) := by
                  rw [Hid, HH.out, decide_eq_true c3]
                  have : (decide (k = 4) && decide (left = 0)) = false := by
                    rw [Bool.and_eq_false_iff]
                    by_cases h4 : k = 4
                    · exact .inr (decide_eq_false (fun h => c5 ⟨h4, h⟩))
                    · exact .inl (decide_eq_false h4)
                  rw [this]; simp
                have hc : ((k == 4) = true ∧ (left == 0) = false ∧ 1 ≤ left) ∨ ((k == 4) = false ∧ l.length = 0) := by
                  by_cases h4 : k = 4
                  · have : left ≠ 0 := fun h => c5 ⟨h4, h⟩
                    exact .inl ⟨by simp [h4], by simp [this], by omega⟩
                  · refine .inr ⟨by simp [h4], ?_⟩
                    have hb := congrArg VV.l HB.out
                    have hbl : (blankV ⟨k, n, f, s, va, l.length, v.c⟩).l = l.length := by
                      unfold blankV
                      simp only
                      split
                      · rfl
                      · split
                        · rfl
                        · split
                          · rfl
                          · first | rfl | (split <;> first | rfl | (exfalso; omega)) | simp [h4]
                    rw [hbl] at hb
                    exact hb.symm
                clear HH c3 c5
                rcases hc with ⟨e5, e6, hl1⟩ | ⟨e5, hl1⟩
                · have HLB := Lib.hid hl1
                  go_wp2_with fail
                  refine (HBI.out _).mono ?_
                  rintro e w4 ⟨rfl, rfl⟩
                  go_wp2_with fail
                  clear e1 e2 e3 e5 e6 hy0 hy1 hy2 hy3 hy4 hnil hk3 hk4 hx0 hx1 hx2 hx3 hx4
                  go_loopw [49] (fun i w' => ∃ m : Nat, m ≤ l.length ∧ i = .int .i64 m ∧ Hid (∀ j (hj : j < l.length), j < m → goodT (left - 1) l[j] = true) ∧ Hid (Below w.heap.size w w')) (fun i _ => l.length - (RowKit.intOf i).toNat)
                  case atStart => exact ⟨0, by omega, rfl, fun j _ h => by omega, HB1.out⟩
                  case round =>
                    obtain ⟨m, hm, rfl, HLOW, HBr⟩ := hrel
                    by_cases hlt : m < l.length
                    · obtain ⟨b, o, hb0, hcap, hblt, -, p, hp, hc0, hc1, hc2, hc3, hc4⟩ := (HV.out.later HBr.out).child m hlt
                      obtain rfl : va = some ⟨b, o, none⟩ := HVA.out.trans hb0
                      have HCr := Lib.hid ((HBr.out.block _ (lt_of_heap HC.out)).trans HC.out)
                      have HBA := Lib.hid (HBr.out.alloc HBr.out.size (.cells #[.int .i64 p.k, .int .i64 p.n, .float .f64 p.f, .string p.s, .slice p.a p.l p.c] 26))
                      have HCA : Hid ((wr.alloc (.cells #[.int .i64 p.k, .int .i64 p.n, .float .f64 p.f, .string p.s, .slice p.a p.l p.c] 26)).heap[bc]? = _) := (Below.heap_alloc _ _ _ (lt_of_heap HCr.out)).trans HCr.out
                      have hclo := cellAt HCA.out 0 (v := .func (.func 44) #[] #[.pointer (some ⟨bc, 0, none⟩)]) rfl
                      have HIH := Lib.hid (HI.out l[m] (List.getElem_mem hlt) (left - 1) p S (wr.alloc (.cells #[.int .i64 p.k, .int .i64 p.n, .float .f64 p.f, .string p.s, .slice p.a p.l p.c] 26)) (by omega) (by omega) (hp.later ((Below.refl _ _).alloc (Nat.le_refl _) _)) (HWL.out _ (List.getElem_mem hlt)) HCA.out)
                      simp only [VV.val] at HIH
                      have HBAD : Hid (goodT (left - 1) l[m] = false → G = false) := fun h => by
                        rw [HG2.out]
                        refine Bool.eq_false_iff.2 fun h2 => ?_
                        have := (goodL_iff (left - 1) l).1 h2 _ (List.getElem_mem hlt)
                        rw [h] at this; cases this
                      have HN : Hid (goodT (left - 1) l[m] = true → ∀ j (hj : j < l.length), j < m + 1 → goodT (left - 1) l[j] = true) := fun h j hj hjm => by
                        rcases Nat.lt_or_ge j m with h3 | h3
                        · exact HLOW.out j hj h3
                        · have : j = m := by omega
                          subst this; exact h
                      have hw1 : IntKind.i64.wrap (left - 1) = left - 1 := IntWalk.i64_in _ (by omega)
                      clear hp hb0
                      generalize hgg : goodT (left - 1) l[m] = g at *
                      clear hgg
                      go_wp2_with fail
                      refine HIH.out.mono ?_
                      rintro e w5 ⟨rfl, hb5⟩
                      have HB5 := Lib.hid (HBA.out.trans (hb5.mono HBA.out.size))
                      clear hb5 hclo hc0 hc1 hc2 hc3 hc4 hw1
                      cases g
                      · have HF := Lib.hid (HBAD.out rfl)
                        go_wp2
                        go_ret
                        exact ⟨congrArg (fun x => Ending.returned (.bool x)) HF.out.symm, HB5.out⟩
                      · have HN2 := Lib.hid (HN.out rfl)
                        go_wp2
                        go_roundw
                        case rel => exact ⟨m + 1, by omega, by go_num, HN2, HB5⟩
                        case measure => simp [RowKit.intOf]; omega
                    · have HF : Hid (G = true) := by
                        rw [Hid, HG2.out]
                        exact (goodL_iff (left - 1) l).2 (fun t ht => by obtain ⟨j, hj, rfl⟩ := List.mem_iff_getElem.1 ht; exact HLOW.out j hj (by omega))
                      go_wp2
                      go_ret
                      exact ⟨congrArg (fun x => Ending.returned (.bool x)) HF.out.symm, HBr.out⟩
                · obtain rfl : l = [] := List.eq_nil_of_length_eq_zero hl1
                  have HF : Hid (G = true) := by rw [Hid, HG2.out, goodL]
                  clear HG2 hl1
                  simp only [List.length_nil] at *
                  go_wp2_with fail
                  refine (HBI.out _).mono ?_
                  rintro e w4 ⟨rfl, rfl⟩
                  go_wp2_with fail
                  go_loopw [49] (fun i w' => i = .int .i64 0 ∧ w' = w2) (fun i _ => 0)
                  case atStart => exact ⟨rfl, rfl⟩
                  case round =>
                    obtain ⟨rfl, rfl⟩ := hrel
                    go_wp2
                    go_ret
                    exact ⟨congrArg (fun x => Ending.returned (.bool x)) HF.out.symm, HB1.out⟩
            · have HF : Hid (G = false) := by rw [Hid, HH.out]; simp [c4]
              have e4 : decide ((0 : Int) < (bl : Int)) = true := by simp; omega
              clear HH
              go_wp2_with fail
              refine (HBI.out _).mono ?_
              rintro e w4 ⟨rfl, rfl⟩
              go_wp2
              go_ret
              exact ⟨congrArg (fun x => Ending.returned (.bool x)) HF.out.symm, HB1.out⟩
          · have HF : Hid (G = false) := by rw [Hid, HH.out]; simp [c3]
            have e3 : bs.toList.isEmpty = false := by simpa using c3
            clear HH
            go_wp2_with fail
            refine (HBI.out _).mono ?_
            rintro e w4 ⟨rfl, rfl⟩
            go_wp2
            go_ret
            exact ⟨congrArg (fun x => Ending.returned (.bool x)) HF.out.symm, HB1.out⟩
        · have e2 : ((canonB bf : Int) != 0) = true := by simp [c2]
          have HF : Hid (G = false) := by rw [Hid, HH.out]; simp [c2]
          clear c1 c2 HH
          generalize canonB bf = cbf at *
          go_wp2_with fail
          refine (HBI.out _).mono ?_
          rintro e w4 ⟨rfl, rfl⟩
          go_wp2
          go_ret
          exact ⟨congrArg (fun x => Ending.returned (.bool x)) HF.out.symm, HB1.out⟩
      · have e1 : (bn != 0) = true := by simp [c1]
        have HF : Hid (G = false) := by rw [Hid, HH.out]; simp [c1]
        clear c1 HH
        go_wp2
        go_ret
        exact ⟨congrArg (fun x => Ending.returned (.bool x)) HF.out.symm, HB1.out⟩
@[go_sem] theorem run_store_func {P : Program} {w : World} {a : Addr} {m : Mode} (fn : Fn) (x y : Array Value) : (store a (.func fn x y) m).run P w = stored P w a (.func fn x y) m := run_store P w a _ m rfl
set_option maxRecDepth 100000 in
set_option maxHeartbeats 1000000 in
theorem valid_any (t : VT) (v : VV) (S : Nat → Prop) (w : World) (hv : TRead w S t v) (hwf : wfT t) :
    Calls Tryz.prog 16 #[v.val] w fun e w' => e = .returned (.bool (goodT 8 t)) ∧ Below w.heap.size w w' := by
  have HV := Lib.hid hv
  have HWF := Lib.hid hwf
  have hmf : ∀ fn first cap w, (Instr.makeFunc fn first cap).run Tryz.prog w = .ok (.func fn first cap) w := fun _ _ _ _ => rfl
  obtain ⟨k, n, f, s, a, l, c⟩ := v
  simp only [VV.val]
  clear hv hwf
  have HX0 : Hid (((w.alloc (.cells #[.int .i64 k, .int .i64 n, .float .f64 f, .string s, .slice a l c] 26)).alloc (.cells #[.nilFunc] 67)).heap[w.heap.size]? = some (.cells #[.int .i64 k, .int .i64 n, .float .f64 f, .string s, .slice a l c] 26 (0, 0))) := by
    rw [Hid, Below.heap_alloc _ _ _ (by simp)]; exact heap_alloc_new w _
  have HC0 : Hid (((w.alloc (.cells #[.int .i64 k, .int .i64 n, .float .f64 f, .string s, .slice a l c] 26)).alloc (.cells #[.nilFunc] 67)).heap[w.heap.size + 1]? = some (.cells #[.nilFunc] 67 (0, 0))) := by
    have := heap_alloc_new (w.alloc (.cells #[.int .i64 k, .int .i64 n, .float .f64 f, .string s, .slice a l c] 26)) (.cells #[.nilFunc] 67)
    rwa [World.size_alloc] at this
  have HB0 : Hid (Below w.heap.size w ((w.alloc (.cells #[.int .i64 k, .int .i64 n, .float .f64 f, .string s, .slice a l c] 26)).alloc (.cells #[.nilFunc] 67))) := ((Below.refl _ _).alloc (Nat.le_refl _) _).alloc (by simp) _
  have hc0 := cellAt HC0.out 0 (v := .nilFunc) rfl
  have hf0 := freeAt HC0.out 0
  go_enter Tryz.func16, Tryz.ntmps16
  go_wp2_with fail
  have HB1 : Hid (Below w.heap.size w ((w.alloc (.cells #[.int .i64 k, .int .i64 n, .float .f64 f, .string s, .slice a l c] 26)).alloc (.cells #[cloV (w.heap.size + 1)] 67))) := ((Below.refl _ _).alloc (Nat.le_refl _) _).alloc (by simp) _
  have HC1 : Hid (((w.alloc (.cells #[.int .i64 k, .int .i64 n, .float .f64 f, .string s, .slice a l c] 26)).alloc (.cells #[cloV (w.heap.size + 1)] 67)).heap[w.heap.size + 1]? = some (.cells #[cloV (w.heap.size + 1)] 67 (0, 0))) := by
    have := heap_alloc_new (w.alloc (.cells #[.int .i64 k, .int .i64 n, .float .f64 f, .string s, .slice a l c] 26)) (.cells #[cloV (w.heap.size + 1)] 67)
    rwa [World.size_alloc] at this
  refine (valid1_any (w.heap.size + 1) t 8 ⟨k, n, f, s, a, l, c⟩ S _ (by decide) (by decide) (HV.out.later HB1.out) HWF.out HC1.out).mono ?_
  rintro e w2 ⟨rfl, hb⟩
  have HB2 := Lib.hid (HB1.out.trans (hb.mono HB1.out.size))
  go_wp2
  go_ret
  exact ⟨rfl, HB2.out⟩
def digL : List UInt8 := [48, 49, 50, 51, 52, 53, 54, 55, 56, 57, 97, 98, 99, 100, 101, 102]
def dig (n : Nat) : UInt8 := digL.getD n 0
def hexL : List UInt8 → List UInt8
  | [] => []
  | c :: l => dig (c.toNat / 16) :: dig (c.toNat % 16) :: hexL l
theorem hexL_append (a b : List UInt8) : hexL (a ++ b) = hexL a ++ hexL b := by
  induction a with
  | nil => rfl
  | cons c a ih => simp [hexL, ih]
theorem hexL_length (a : List UInt8) : (hexL a).length = 2 * a.length := by
  induction a with
  | nil => rfl
  | cons c a ih => rw [hexL, List.length_cons, List.length_cons, ih, List.length_cons]; omega
def u8s (l : List UInt8) : List Value := l.map fun c => .int .u8 (c.toNat : Int)
theorem elemU8 : ElemOf Tryz.prog 33 5 (.int .u8 0) 1 1 := ⟨Tryz.underlying33, by kernel_rfl, rfl, by decide⟩
theorem u8s_one (l : List UInt8) : ∀ u ∈ u8s l, u.oneCell' = true := by
  intro u hu
  obtain ⟨c, _, rfl⟩ := List.mem_map.1 hu
  rfl
abbrev digB : ByteArray := ⟨#[48, 49, 50, 51, 52, 53, 54, 55, 56, 57, 97, 98, 99, 100, 101, 102]⟩
theorem dig_all : ∀ n : Fin 16, digB.data[n.val]? = some (dig n.val) := by decide +kernel
theorem dig_at (n : Nat) (h : n < digB.size) : digB[n]'h = dig n := by
  have h16 : n < 16 := h
  have h1 := dig_all ⟨n, h16⟩
  have h2 : n < digB.data.size := h
  rw [Array.getElem?_eq_getElem h2] at h1
  exact Option.some.inj h1
theorem and_all : ∀ n : Fin 256, bits BinOp.and IntKind.u8 ((n.val : Nat) : Int) 15 = ((n.val : Nat) : Int) % 16 := by decide +kernel
theorem and_at (n : Nat) (h : n < 256) : bits BinOp.and IntKind.u8 (n : Int) 15 = (n : Int) % 16 := and_all ⟨n, h⟩
theorem Reads.frame_chg {w w' : World} {b o n c : Nat} {xs : List Value} {T : Nat → Prop} (h : Reads w (.slice (some ⟨b, o, none⟩) n c) n 1 xs) (hc : Chg T w w') (hT : ¬ T b) : Reads w' (.slice (some ⟨b, o, none⟩) n c) n 1 xs := by
  obtain ⟨hl, ao, c', hv, hle, hnn, hcell⟩ := h
  cases hv
  refine ⟨hl, _, c, rfl, hle, hnn, fun ad had j u hu => ?_⟩
  have h1 := hcell ad had j u hu
  cases had
  have hblk : ((⟨b, o, none⟩ : Addr).add j).block = b := by unfold Addr.add; split <;> rfl
  have hlt : b < w.heap.size := by
    have := World.block_lt_of_cell? w _ h1
    rwa [hblk] at this
  rw [← h1]
  exact World.cell?_of_block (by rw [hblk]; exact hc.block _ hlt hT)
theorem bsize (s : ByteArray) : s.data.toList.length = s.size := by simp
theorem reads_bytes (W : World) (s : ByteArray) (c : Nat) (fr : Nat × Nat) (hc : s.size ≤ c) :
    Reads (W.drew.alloc (.cells (bytesRow s c) 5 fr)) (.slice (some ⟨W.heap.size, 0, none⟩) s.size c) s.size 1 (u8s s.data.toList) := by
  refine ⟨by rw [u8s, List.length_map, bsize]; omega, _, c, rfl, hc, (fun h => by cases h), fun ad had j u hu => ?_⟩
  cases had
  rw [Addr.add_lit, Nat.zero_add]
  have hj : j < s.data.size := by
    have := (List.getElem?_eq_some_iff.1 hu).1
    rw [u8s, List.length_map, bsize] at this; exact this
  refine cellAt (heap_alloc_new W.drew _) j ?_
  rw [bytesRow_at s c j hj, ← hu, u8s, List.getElem?_map, List.getElem?_eq_getElem (by simpa using hj)]
  simp
set_option maxRecDepth 100000 in
set_option maxHeartbeats 1000000 in
theorem vtext_any (k n : Int) (f : Nat) (s : ByteArray) (a : Option Addr) (l c : Nat) (w : World) (hs : s.size ≤ 1000000) :
    Calls Tryz.prog 222 #[.agg #[], .agg #[.int .i64 k, .int .i64 n, .float .f64 f, .string s, .slice a l c]] w fun e w' => e = .returned (.string ⟨(34 :: hexL s.data.toList ++ [34]).toArray⟩) ∧ Below w.heap.size w w' := by
  have HX : Hid ((((w.alloc (.cells #[] 106)).alloc (.cells #[.int .i64 k, .int .i64 n, .float .f64 f, .string s, .slice a l c] 26)).alloc (.cells #[.int .u8 34] 5)).heap[w.heap.size + 1]? = some (.cells #[.int .i64 k, .int .i64 n, .float .f64 f, .string s, .slice a l c] 26 (0, 0))) := by
    rw [Hid, Below.heap_alloc _ _ _ (by simp)]
    exact alloc2_high w _ _ (heap_alloc_new _ _)
  have HQ : Hid ((((w.alloc (.cells #[] 106)).alloc (.cells #[.int .i64 k, .int .i64 n, .float .f64 f, .string s, .slice a l c] 26)).alloc (.cells #[.int .u8 34] 5)).heap[w.heap.size + 1 + 1]? = some (.cells #[.int .u8 34] 5 (0, 0))) := by
    have := heap_alloc_new ((w.alloc (.cells #[] 106)).alloc (.cells #[.int .i64 k, .int .i64 n, .float .f64 f, .string s, .slice a l c] 26)) (.cells #[.int .u8 34] 5)
    rwa [World.size_alloc, World.size_alloc] at this
  have HB : Hid (Below w.heap.size w (((w.alloc (.cells #[] 106)).alloc (.cells #[.int .i64 k, .int .i64 n, .float .f64 f, .string s, .slice a l c] 26)).alloc (.cells #[.int .u8 34] 5))) := (((Below.refl _ _).alloc (Nat.le_refl _) _).alloc (by simp) _).alloc (by simp; omega) _
  go_enter Tryz.func222, Tryz.ntmps222
  go_upto_region 2 with fail
  generalize (((w.alloc (.cells #[] 106)).alloc (.cells #[.int .i64 k, .int .i64 n, .float .f64 f, .string s, .slice a l c] 26)).alloc (.cells #[.int .u8 34] 5)) = wa at *
  have x3 := cellAt HX.out 3 rfl
  have hcv := run_bytes_of_string (P := Tryz.prog) wa 9 33 5 s Tryz.underlying9 Tryz.underlying33 Tryz.underlying5
  have hge := grownCap_ge wa s.size 0 5
  have HRB := Lib.hid (reads_bytes wa s _ ((bytesRow s (grownCap wa s.size 0 5)).size, (bytesRow s (grownCap wa s.size 0 5)).size + 1) hge)
  have hb2 : Below wa.heap.size wa (wa.drew.alloc (.cells (bytesRow s (grownCap wa s.size 0 5)) 5 ((bytesRow s (grownCap wa s.size 0 5)).size, (bytesRow s (grownCap wa s.size 0 5)).size + 1))) := ((Below.refl _ _).drew).alloc (Nat.le_refl _) _
  have HB2 := Lib.hid (HB.out.trans (hb2.mono HB.out.size))
  have HW2 : Hid (wa.heap.size < (wa.drew.alloc (.cells (bytesRow s (grownCap wa s.size 0 5)) 5 ((bytesRow s (grownCap wa s.size 0 5)).size, (bytesRow s (grownCap wa s.size 0 5)).size + 1))).heap.size) := by rw [Hid, World.size_alloc]; exact Nat.lt_succ_self _
  have HQ2 : Hid (Row (wa.drew.alloc (.cells (bytesRow s (grownCap wa s.size 0 5)) 5 ((bytesRow s (grownCap wa s.size 0 5)).size, (bytesRow s (grownCap wa s.size 0 5)).size + 1))) 5 1 (.slice (some ⟨w.heap.size + 1 + 1, 0, none⟩) 1 1) 1 (u8s [34]) (fun k => k = w.heap.size + 1 + 1)) :=
    ⟨rfl, .inr ⟨_, 0, 1, _, rfl, rfl, (hb2.block _ (lt_of_heap HQ.out)).trans HQ.out, Nat.le_refl _, by unfold maxLen; omega, by simp, rfl⟩⟩
  have HQL := Lib.hid (lt_of_heap HQ.out)
  generalize (wa.drew.alloc (.cells (bytesRow s (grownCap wa s.size 0 5)) 5 ((bytesRow s (grownCap wa s.size 0 5)).size, (bytesRow s (grownCap wa s.size 0 5)).size + 1))) = w2 at *
  generalize grownCap wa s.size 0 5 = cp at *
  clear hb2
  go_wp2_with fail
  go_loopw [5, 13] (fun out i w' => ∃ m : Nat, m ≤ s.size ∧ i = .int .i64 m ∧ Hid (Row w' 5 1 out (1 + 2 * m) (u8s (34 :: hexL (s.data.toList.take m))) (fun k => k = w.heap.size + 1 + 1 ∨ w2.heap.size ≤ k)) ∧ Hid (Chg (fun k => k = w.heap.size + 1 + 1) w2 w')) (fun _ i _ => s.size - (RowKit.intOf i).toNat)
  case atStart => exact ⟨0, by omega, rfl, HQ2.out.mono (fun k hk => .inl hk), Chg.refl _ _⟩
  case round =>
    obtain ⟨m, hm, rfl, HO, HC⟩ := hrel
    by_cases hlt : m < s.size
    · have hrd := (HRB.out.frame_chg HC.out (fun e => by have e2 : wa.heap.size = w.heap.size + 1 + 1 := e; have := HQL.out; omega))
      obtain ⟨b', o', c', hv, hle, hbl, hcell⟩ := hrd.at (by omega)
      have hlt' : m < s.data.toList.length := by rw [bsize]; exact hlt
      obtain ⟨x, hx⟩ : ∃ x, x = s.data.toList[m] := ⟨_, rfl⟩
      have hc := hcell m (.int .u8 (x.toNat : Int)) (by rw [u8s, List.getElem?_map, List.getElem?_eq_getElem hlt', hx]; rfl)
      cases hv
      rw [Nat.zero_add] at hc
      have hx256 := x.toNat_lt
      have HXX := Lib.hid hx
      clear hcell hx
      have hq1 : 0 ≤ (x.toNat : Int) / 16 ∧ (x.toNat : Int) / 16 < 16 := by omega
      have hq2 : 0 ≤ (x.toNat : Int) % 16 ∧ (x.toNat : Int) % 16 < 16 := by omega
      have hq3 := and_at x.toNat hx256
      have hq4 : ((x.toNat : Int) / 16).toNat = x.toNat / 16 := by omega
      have hq5 : ((x.toNat : Int) % 16).toNat = x.toNat % 16 := by omega
      have hg1 := dig_at (x.toNat / 16)
      have hg2 := dig_at (x.toNat % 16)
      go_wp2_with fail
      have HTK : Hid (u8s (34 :: hexL (s.data.toList.take (m + 1))) = u8s (34 :: hexL (s.data.toList.take m)) ++ u8s [dig (x.toNat / 16), dig (x.toNat % 16)]) := by
        rw [Hid, List.take_succ_eq_append_getElem hlt', hexL_append, ← HXX.out]
        simp [u8s, hexL]
      clear HXX
      clear hlt'
      go_region_law
        (refine step_row elemU8 rfl rfl (S := fun k => k = w.heap.size + 1 + 1 ∨ w2.heap.size ≤ k) (v := u5) (n := 1 + 2 * m) (xs := u8s (34 :: hexL (s.data.toList.take m))) rfl ((show Row wr.drew _ _ _ _ _ _ from HO.out).frame (fun k _ hk => Below.heap_alloc _ _ _ hk)) (y := .slice (some ⟨wr.heap.size, 0, none⟩) 2 2) (m := 2) (news := u8s [dig (x.toNat / 16), dig (x.toNat % 16)]) rfl (Reads.block (heap_alloc_new wr.drew _) 2 1 rfl) (u8s_one _) (by unfold maxLen; omega) (by omega) ?_
         intro v6 w6 hr6 hc6
         have HR6 := Lib.hid hr6
         have HC6 := Lib.hid hc6
         clear hr6 hc6)
      all_goals
        go_wp2
        go_roundw
        case rel =>
          have hw := HC.out.size
          refine ⟨m + 1, by omega, by go_num, ?_, ?_⟩
          · rw [Hid, HTK.out]
            exact HR6.out.mono (fun k hk => by rcases hk with hk | hk; exact hk; simp only [World.size_alloc, World.size_drew] at hk; omega)
          · exact (HC.out.drew.alloc _).trans (HC6.out.mono (T := fun k => k = w.heap.size + 1 + 1 ∨ w2.heap.size ≤ k) (fun k hk => hk)) (fun k hk => hk)
        case measure => simp [RowKit.intOf]; omega
    · obtain rfl : m = s.size := by omega
      rw [← bsize s, List.take_length] at HO
      rw [bsize s] at HO
      have HLN : Hid ((34 :: hexL s.data.toList ++ [34]).length = 1 + 2 * s.size + 1) := by
        rw [Hid, List.length_append, List.length_cons, hexL_length, bsize]; simp; omega
      have hw := HC.out.size
      go_wp2_with (refine wpList_row elemU8 rfl rfl (S := fun k => k = w.heap.size + 1 + 1 ∨ w2.heap.size ≤ k) (v := u5) (n := 1 + 2 * s.size) (xs := u8s (34 :: hexL s.data.toList)) rfl (HO.out.frame (fun k _ hk => Below.heap_alloc _ _ _ hk)) (y := .slice (some ⟨wr.heap.size, 0, none⟩) 1 1) (m := 1) (news := u8s [34]) rfl (Reads.block (heap_alloc_new wr _) 1 1 rfl) (u8s_one _) (by unfold maxLen; omega) (by omega) ?_
                   intro v5 w5 hr5 hc5
                   obtain ⟨b5, o5, c5, rfl, hle5, hb5, hcell5⟩ := hr5.reads.at (by omega)
                   have hcv5 := run_convert_bytes_back (P := Tryz.prog) w5 33 9 5 ⟨b5, o5, none⟩ c5 (34 :: hexL s.data.toList ++ [34]) Tryz.underlying33 Tryz.underlying5 Tryz.underlying9 (fun j hj => by
                     rw [Addr.add_lit]
                     refine hcell5 j _ ?_
                     have e : u8s (34 :: hexL s.data.toList) ++ u8s [34] = u8s (34 :: hexL s.data.toList ++ [34]) := by simp [u8s]
                     rw [e, u8s, List.getElem?_map, List.getElem?_eq_getElem hj]; rfl)
                   rw [HLN.out] at hcv5
                   have HB5 := Lib.hid (HB2.out.trans ((((HC.out.alloc (.cells #[.int .u8 34] 5)).trans (hc5.mono (T := fun k => k = w.heap.size + 1 + 1 ∨ w2.heap.size ≤ k) (fun k hk => hk)) (fun k hk => hk)).toBelow (B := w.heap.size) HB2.out.size (fun j hj e => by have e2 : j = w.heap.size + 1 + 1 := e; omega))))
                   clear hr5 hc5 hcell5)
      go_ret
      exact ⟨rfl, HB5.out⟩
set_option maxRecDepth 100000 in
theorem index_any (a : Option Addr) (c : Nat) (l : List Int) (x : Int) (w : World) (h : Reads w (.slice a l.length c) l.length 1 (l.map (Value.int .i64))) (hl : l.length ≤ 100000) :
    Calls Tryz.prog 140 #[.slice a l.length c, .int .i64 x] w fun e w' => (∃ i : Int, e = .returned (.int .i64 i) ∧ (0 ≤ i ↔ x ∈ l)) ∧ w' = w := by
  have HC : Hid (∀ (j : Nat) (hj : j < l.length), ∃ b o, a = some ⟨b, o, none⟩ ∧ l.length ≤ c ∧ w.cell? ⟨b, o + j, none⟩ = some (.int .i64 l[j])) := by
    intro j hj
    obtain ⟨b, o, c', hv, hle, hb, hc⟩ := h.at (by omega)
    cases hv
    exact ⟨b, o, rfl, hle, hc j _ (by rw [List.getElem?_map, List.getElem?_eq_getElem hj]; rfl)⟩
  clear h
  go_enter Tryz.func140, Tryz.ntmps140
  go_wp2
  go_loop [8] (fun i => ∃ m : Nat, m ≤ l.length ∧ i = .int .i64 m ∧ Hid (∀ j (hj : j < l.length), j < m → l[j] ≠ x)) (fun i => l.length - (RowKit.intOf i).toNat)
  case atStart => exact ⟨0, by omega, rfl, fun j _ h => by omega⟩
  case round =>
    obtain ⟨m, hm, rfl, HLOW⟩ := hrel
    by_cases hlt : m < l.length
    · obtain ⟨b, o, rfl, hle, hc⟩ := HC.out m hlt
      by_cases hx : l[m] = x
      · have HM : Hid (x ∈ l) := hx ▸ List.getElem_mem hlt
        rw [hx] at hc
        clear hx
        go_wp2
        go_ret
        exact ⟨⟨m, rfl, ⟨fun _ => HM.out, fun _ => by omega⟩⟩, rfl⟩
      · have HN : Hid (∀ j (hj : j < l.length), j < m + 1 → l[j] ≠ x) := fun j hj hjm => by
          rcases Nat.lt_or_ge j m with h | h
          · exact HLOW.out j hj h
          · have : j = m := by omega
            subst this; exact hx
        have hb : (x == l[m]) = false := by rw [beq_eq_false_iff_ne]; exact fun e => hx e.symm
        clear hx
        generalize l[m] = y at *
        go_wp2
        go_round
        case rel => exact ⟨m + 1, by omega, by go_num, HN⟩
        case measure => simp [RowKit.intOf]; omega
    · have HM : Hid (¬ x ∈ l) := fun h => by
        obtain ⟨j, hj, he⟩ := List.mem_iff_getElem.1 h
        exact HLOW.out j hj (by omega) he
      go_wp2
      go_ret
      exact ⟨⟨-1, rfl, ⟨fun h => absurd h (by decide), fun h => absurd h HM.out⟩⟩, rfl⟩
set_option maxRecDepth 100000 in
theorem contains_any (a : Option Addr) (c : Nat) (l : List Int) (x : Int) (w : World) (h : Reads w (.slice a l.length c) l.length 1 (l.map (Value.int .i64))) (hl : l.length ≤ 100000) :
    Calls Tryz.prog 116 #[.slice a l.length c, .int .i64 x] w fun e w' => e = .returned (.bool (decide (x ∈ l))) ∧ w' = w := by
  have HI := Lib.hid (index_any a c l x w h hl)
  clear h
  go_enter Tryz.func116, Tryz.ntmps116
  go_wp2_with fail
  refine HI.out.mono ?_
  rintro e w' ⟨⟨i, rfl, hi⟩, rfl⟩
  have HI2 := Lib.hid hi
  clear hi HI
  go_wp2
  go_ret
  exact ⟨congrArg (fun b => Ending.returned (.bool b)) (decide_eq_decide.2 HI2.out), rfl⟩
def numL : List Int := [1, 2, 4, 6, 8, 9]
def namL : List Int := [3, 5, 10, 12]
set_option maxRecDepth 100000 in
theorem numbered_any (k : Int) (w : World) : Calls Tryz.prog 86 #[.int .i64 k] w fun e w' => e = .returned (.bool (decide (k ∈ numL))) ∧ Below w.heap.size w w' := by
  have HB : Hid (Below w.heap.size w (w.alloc (.cells #[.int .i64 1, .int .i64 2, .int .i64 4, .int .i64 6, .int .i64 8, .int .i64 9] 3))) := (Below.refl _ _).alloc (Nat.le_refl _) _
  have HR : Hid (Reads (w.alloc (.cells #[.int .i64 1, .int .i64 2, .int .i64 4, .int .i64 6, .int .i64 8, .int .i64 9] 3)) (.slice (some ⟨w.heap.size, 0, none⟩) 6 6) 6 1 (numL.map (Value.int .i64))) := Reads.block (heap_alloc_new w _) 6 1 rfl
  go_enter Tryz.func86, Tryz.ntmps86
  go_wp2_with fail
  refine (contains_any (some ⟨w.heap.size, 0, none⟩) 6 numL k _ HR.out (by decide)).mono ?_
  rintro e w' ⟨rfl, rfl⟩
  go_wp2
  go_ret
  exact ⟨rfl, HB.out⟩
set_option maxRecDepth 100000 in
theorem named_any (k : Int) (w : World) : Calls Tryz.prog 87 #[.int .i64 k] w fun e w' => e = .returned (.bool (decide (k ∈ namL))) ∧ Below w.heap.size w w' := by
  have HB : Hid (Below w.heap.size w (w.alloc (.cells #[.int .i64 3, .int .i64 5, .int .i64 10, .int .i64 12] 3))) := (Below.refl _ _).alloc (Nat.le_refl _) _
  have HR : Hid (Reads (w.alloc (.cells #[.int .i64 3, .int .i64 5, .int .i64 10, .int .i64 12] 3)) (.slice (some ⟨w.heap.size, 0, none⟩) 4 4) 4 1 (namL.map (Value.int .i64))) := Reads.block (heap_alloc_new w _) 4 1 rfl
  go_enter Tryz.func87, Tryz.ntmps87
  go_wp2_with fail
  refine (contains_any (some ⟨w.heap.size, 0, none⟩) 4 namL k _ HR.out (by decide)).mono ?_
  rintro e w' ⟨rfl, rfl⟩
  go_wp2
  go_ret
  exact ⟨rfl, HB.out⟩
theorem str_ne {a b : ByteArray} (h : ¬ a = b) : (¬ a.toList = b.toList) ∧ (a.toList == b.toList) = false := by
  have h1 : ¬ a.toList = b.toList := fun e => h (by
    have h2 := ba_beq a b
    rw [beq_toListBytes, e] at h2
    simpa using h2)
  exact ⟨h1, by simpa using h1⟩
theorem str_empty {s : ByteArray} (h : ¬ s = ⟨#[]⟩) : ¬ s.toList = [] := by simpa using (str_ne h).1
set_option maxRecDepth 100000 in
set_option maxHeartbeats 2000000 in
theorem right_bare (k : Int) (hk : k = 7 ∨ k = 11) (n : Int) (s : ByteArray) (rs ss : Int) (hr : 0 ≤ rs ∧ rs ≤ 1000000 ∧ 0 ≤ ss ∧ ss ≤ 1000000) (w : World) :
    Calls Tryz.prog 53 #[.agg #[.int .i64 k, .int .i64 n, .string s], .int .i64 rs, .int .i64 ss] w fun e w' => e = .returned (.bool (decide (n = 0) && decide (s = ⟨#[]⟩))) ∧ Below w.heap.size w w' := by
  have h1 : decide (k ∈ numL) = false := by rcases hk with rfl | rfl <;> decide
  have h2 : decide (k ∈ namL) = false := by rcases hk with rfl | rfl <;> decide
  have H1 := Lib.hid h1
  have H2 := Lib.hid h2
  clear h1 h2
  have hb2 : Below w.heap.size w ((w.alloc (.cells #[.int .i64 k, .int .i64 n, .string s] 82)).alloc (.cells #[.int .i64 k, .int .i64 0, .string ⟨#[]⟩] 82)) := ((Below.refl _ _).alloc (Nat.le_refl _) _).alloc (by simp) _
  have HX : Hid (((w.alloc (.cells #[.int .i64 k, .int .i64 n, .string s] 82)).alloc (.cells #[.int .i64 k, .int .i64 0, .string ⟨#[]⟩] 82)).heap[w.heap.size]? = some (.cells #[.int .i64 k, .int .i64 n, .string s] 82 (0, 0))) := (alloc2_low w _ _).trans (heap_alloc_new w _)
  have HY : Hid (((w.alloc (.cells #[.int .i64 k, .int .i64 n, .string s] 82)).alloc (.cells #[.int .i64 k, .int .i64 0, .string ⟨#[]⟩] 82)).heap[w.heap.size + 1]? = some (.cells #[.int .i64 k, .int .i64 0, .string ⟨#[]⟩] 82 (0, 0))) := alloc2_high w _ _ (heap_alloc_new _ _)
  have HB := Lib.hid hb2
  have hmf : ∀ fn first cap w, (Instr.makeFunc fn first cap).run Tryz.prog w = .ok (.func fn first cap) w := fun _ _ _ _ => rfl
  clear hb2
  go_enter Tryz.func53, Tryz.ntmps53
  go_upto_region 2 with fail
  generalize (w.alloc (.cells #[.int .i64 k, .int .i64 n, .string s] 82)).alloc (.cells #[.int .i64 k, .int .i64 0, .string ⟨#[]⟩] 82) = wd at *
  have x0 := cellAt HX.out 0 rfl
  go_wp2_with fail
  refine (numbered_any k _).mono ?_
  rintro e w2 ⟨rfl, hb2⟩
  rw [H1.out]
  have HX2 := Lib.hid ((hb2.block _ (lt_of_heap HX.out)).trans HX.out)
  have HY2 := Lib.hid ((hb2.block _ (lt_of_heap HY.out)).trans HY.out)
  have HB2 := Lib.hid (HB.out.trans (hb2.mono HB.out.size))
  clear hb2 x0
  have x0 := cellAt HX2.out 0 rfl
  go_wp2_with fail
  refine (named_any k _).mono ?_
  rintro e w5 ⟨rfl, hb5⟩
  rw [H2.out]
  have HX5 := Lib.hid ((hb5.block _ (lt_of_heap HX2.out)).trans HX2.out)
  have HY5 := Lib.hid ((hb5.block _ (lt_of_heap HY2.out)).trans HY2.out)
  have HB5 := Lib.hid (HB2.out.trans (hb5.mono HB2.out.size))
  clear hb5 x0
  have x0 := cellAt HX5.out 0 rfl
  have x1 := cellAt HX5.out 1 rfl
  have x2 := cellAt HX5.out 2 rfl
  have y0 := cellAt HY5.out 0 rfl
  have y1 := cellAt HY5.out 1 rfl
  have y2 := cellAt HY5.out 2 rfl
  have g0 : ¬ k ≤ 0 := by omega
  have g13 : ¬ 13 ≤ k := by omega
  have e3 : (k == 3) = false := by rw [beq_eq_false_iff_ne]; omega
  have e5 : (k == 5) = false := by rw [beq_eq_false_iff_ne]; omega
  have e4 : (k == 4) = false := by rw [beq_eq_false_iff_ne]; omega
  have e6 : (k == 6) = false := by rw [beq_eq_false_iff_ne]; omega
  have e8 : (k == 8) = false := by rw [beq_eq_false_iff_ne]; omega
  have e9 : (k == 9) = false := by rw [beq_eq_false_iff_ne]; omega
  clear hk hr
  by_cases hn : n = 0
  · subst hn
    by_cases hs : s = ⟨#[]⟩
    · subst hs
      go_wp2
      go_ret
      exact ⟨rfl, HB5.out⟩
    · have HS : Hid (decide (s = ⟨#[]⟩) = false) := decide_eq_false hs
      have hs1 := str_empty hs
      clear hs
      go_wp2
      go_ret
      exact ⟨by rw [HS.out]; rfl, HB5.out⟩
  · have HN : Hid (decide (n = 0) = false) := decide_eq_false hn
    have hn2 : (n == 0) = false := by rw [beq_eq_false_iff_ne]; exact hn
    clear hn
    go_wp2
    go_ret
    exact ⟨by rw [HN.out]; rfl, HB5.out⟩
set_option maxRecDepth 100000 in
set_option maxHeartbeats 2000000 in
theorem right_call (k : Int) (hk : k = 3 ∨ k = 5) (n : Int) (s : ByteArray) (rs ss : Int) (hr : 0 ≤ rs ∧ rs ≤ 1000000 ∧ 0 ≤ ss ∧ ss ≤ 1000000) (w : World) :
    Calls Tryz.prog 53 #[.agg #[.int .i64 k, .int .i64 n, .string s], .int .i64 rs, .int .i64 ss] w fun e w' => e = .returned (.bool (decide (n = 0) && decide (s.size ≤ 1000) && !decide (s = ⟨#[]⟩))) ∧ Below w.heap.size w w' := by
  have h1 : decide (k ∈ numL) = false := by rcases hk with rfl | rfl <;> decide
  have h2 : decide (k ∈ namL) = true := by rcases hk with rfl | rfl <;> decide
  have H1 := Lib.hid h1
  have H2 := Lib.hid h2
  clear h1 h2
  have hb2 : Below w.heap.size w ((w.alloc (.cells #[.int .i64 k, .int .i64 n, .string s] 82)).alloc (.cells #[.int .i64 k, .int .i64 0, .string ⟨#[]⟩] 82)) := ((Below.refl _ _).alloc (Nat.le_refl _) _).alloc (by simp) _
  have HX : Hid (((w.alloc (.cells #[.int .i64 k, .int .i64 n, .string s] 82)).alloc (.cells #[.int .i64 k, .int .i64 0, .string ⟨#[]⟩] 82)).heap[w.heap.size]? = some (.cells #[.int .i64 k, .int .i64 n, .string s] 82 (0, 0))) := (alloc2_low w _ _).trans (heap_alloc_new w _)
  have HY : Hid (((w.alloc (.cells #[.int .i64 k, .int .i64 n, .string s] 82)).alloc (.cells #[.int .i64 k, .int .i64 0, .string ⟨#[]⟩] 82)).heap[w.heap.size + 1]? = some (.cells #[.int .i64 k, .int .i64 0, .string ⟨#[]⟩] 82 (0, 0))) := alloc2_high w _ _ (heap_alloc_new _ _)
  have HB := Lib.hid hb2
  have hmf : ∀ fn first cap w, (Instr.makeFunc fn first cap).run Tryz.prog w = .ok (.func fn first cap) w := fun _ _ _ _ => rfl
  clear hb2
  go_enter Tryz.func53, Tryz.ntmps53
  go_upto_region 2 with fail
  generalize (w.alloc (.cells #[.int .i64 k, .int .i64 n, .string s] 82)).alloc (.cells #[.int .i64 k, .int .i64 0, .string ⟨#[]⟩] 82) = wd at *
  have x0 := cellAt HX.out 0 rfl
  go_wp2_with fail
  refine (numbered_any k _).mono ?_
  rintro e w2 ⟨rfl, hb2⟩
  rw [H1.out]
  have HX2 := Lib.hid ((hb2.block _ (lt_of_heap HX.out)).trans HX.out)
  have HY2 := Lib.hid ((hb2.block _ (lt_of_heap HY.out)).trans HY.out)
  have HB2 := Lib.hid (HB.out.trans (hb2.mono HB.out.size))
  clear hb2 x0
  have x0 := cellAt HX2.out 0 rfl
  go_wp2_with fail
  refine (named_any k _).mono ?_
  rintro e w5 ⟨rfl, hb5⟩
  rw [H2.out]
  have HX5 := Lib.hid ((hb5.block _ (lt_of_heap HX2.out)).trans HX2.out)
  have HY5 := Lib.hid ((hb5.block _ (lt_of_heap HY2.out)).trans HY2.out)
  have HB5 := Lib.hid (HB2.out.trans (hb5.mono HB2.out.size))
  clear hb5 x0
  have x2 := cellAt HX5.out 2 rfl
  have f2 := freeAt HY5.out 2
  have y2 := cellAt HY5.out 2 rfl
  go_upto_region 6 with fail
  have HX6 : Hid ((w5.setCell ⟨w.heap.size + 1, 2, none⟩ (.string s)).heap[w.heap.size]? = _) := (Below.heap_setCell _ ⟨w.heap.size + 1, 2, none⟩ _ _ (by show w.heap.size ≠ w.heap.size + 1; omega)).trans HX5.out
  have HY6 : Hid ((w5.setCell ⟨w.heap.size + 1, 2, none⟩ (.string s)).heap[w.heap.size + 1]? = some (.cells #[.int .i64 k, .int .i64 0, .string s] 82 (0, 0))) := heap_store HY5.out 2 _
  have HB6 := Lib.hid (HB5.out.setCell (p := ⟨w.heap.size + 1, 2, none⟩) (by show w.heap.size ≤ w.heap.size + 1; omega) (.string s))
  generalize w5.setCell ⟨w.heap.size + 1, 2, none⟩ (.string s) = w6 at *
  clear x2 f2 y2 HX5 HY5
  have x0 := cellAt HX6.out 0 rfl
  have x1 := cellAt HX6.out 1 rfl
  have x2 := cellAt HX6.out 2 rfl
  have y0 := cellAt HY6.out 0 rfl
  have y1 := cellAt HY6.out 1 rfl
  have y2 := cellAt HY6.out 2 rfl
  have g0 : ¬ k ≤ 0 := by omega
  have g13 : ¬ 13 ≤ k := by omega
  rcases hk with rfl | rfl
  all_goals
    clear hr
    by_cases hn : n = 0
    · subst hn
      by_cases hz : 1000 < (s.size : Int)
      · have HZ : Hid (decide (s.size ≤ 1000) = false) := decide_eq_false (by omega)
        go_wp2
        go_ret
        exact ⟨by rw [HZ.out]; rfl, HB6.out⟩
      · have HZ : Hid (decide (s.size ≤ 1000) = true) := decide_eq_true (by omega)
        by_cases hs : s = ⟨#[]⟩
        · subst hs
          go_wp2
          go_ret
          exact ⟨rfl, HB6.out⟩
        · have HS : Hid (decide (s = ⟨#[]⟩) = false) := decide_eq_false hs
          have HE : Hid (s.toList.isEmpty = false) := by rw [Hid, List.isEmpty_eq_false_iff]; exact str_empty hs
          clear hs
          go_wp2
          go_ret
          exact ⟨by rw [HZ.out, HS.out]; exact congrArg (fun b => Ending.returned (.bool (!b))) HE.out, HB6.out⟩
    · have HN : Hid (decide (n = 0) = false) := decide_eq_false hn
      have hn2 : (n == 0) = false := by rw [beq_eq_false_iff_ne]; exact hn
      clear hn
      go_wp2
      go_ret
      exact ⟨by rw [HN.out]; rfl, HB6.out⟩
theorem good_text (s : ByteArray) : goodT 8 (.node 3 0 0 s []) = true := by
  have hc : canonB 0 = 0 := by decide +kernel
  simp [goodT, goodL, headB, hc]
theorem bel_step {w0 a b : World} (h : Hid (Below w0.heap.size w0 a)) (hb : Below a.heap.size a b) : Hid (Below w0.heap.size w0 b) := h.out.trans (hb.mono h.out.size)
def quoted (s : ByteArray) : ByteArray := ⟨(34 :: hexL s.data.toList ++ [34]).toArray⟩
set_option maxRecDepth 100000 in
set_option maxHeartbeats 2000000 in
theorem vtop_text (s : ByteArray) (w : World) (hs : s.size ≤ 1000000) :
    Calls Tryz.prog 12 #[.agg #[.int .i64 3, .int .i64 0, .float .f64 0, .string s, .slice none 0 0]] w fun e w' => e = .returned (.string (quoted s)) ∧ Below w.heap.size w w' := by
  have hX : (w.alloc (.cells #[.int .i64 3, .int .i64 0, .float .f64 0, .string s, .slice none 0 0] 26)).heap[w.heap.size]? = some (.cells #[.int .i64 3, .int .i64 0, .float .f64 0, .string s, .slice none 0 0] 26 (0, 0)) := heap_alloc_new w _
  have HX := Lib.hid hX
  have HBel : Hid (Below w.heap.size w (w.alloc (.cells #[.int .i64 3, .int .i64 0, .float .f64 0, .string s, .slice none 0 0] 26))) := (Below.refl _ _).alloc (Nat.le_refl _) _
  clear hX
  have hm : ∀ q, (342 : Nat) = q → ∀ W, (method q 106 (.agg #[]) "clockwork/value.text").run Tryz.prog W = .ok (222, .agg #[]) W := by
    rintro q rfl W
    kernel_rfl
  have hm2 := hm 342 rfl
  clear hm
  go_enter Tryz.func12, Tryz.ntmps12
  go_upto_region 1 with fail
  generalize w.alloc (.cells #[.int .i64 3, .int .i64 0, .float .f64 0, .string s, .slice none 0 0] 26) = wa at *
  obtain ⟨x0, x1, x2, x3, x4⟩ := cells5 HX.out
  have HVA := Lib.hid (valid_any (.node 3 0 0 s []) ⟨3, 0, 0, s, none, 0, 0⟩ (fun _ => True) wa (by rw [TRead]; exact ⟨rfl, rfl, rfl, rfl, rfl, Nat.zero_le _, [], Reads.nil _ _, fun h => absurd rfl h, by rw [TReads]⟩) (by rw [wfT]; refine ⟨by omega, by omega, by omega, by unfold maxLen; omega, ?_⟩; rw [wfL]; trivial))
  rw [good_text] at HVA
  simp only [VV.val] at HVA
  go_wp2_with fail
  refine HVA.out.mono ?_
  rintro e w2 ⟨rfl, hb2⟩
  have HB2 := Lib.hid (HBel.out.trans (hb2.mono HBel.out.size))
  have HX2 := Lib.hid ((hb2.block _ (lt_of_heap HX.out)).trans HX.out)
  clear hb2 x0 x1 x2 x3 x4 HVA
  have HKS : Hid (∀ w', Hid (Below w2.heap.size w2 w') → (w'.cell? ⟨w.heap.size, 0, none⟩ = some (.int .i64 3) ∧ w'.cell? ⟨w.heap.size, 1, none⟩ = some (.int .i64 0) ∧ w'.cell? ⟨w.heap.size, 2, none⟩ = some (.float .f64 0) ∧ w'.cell? ⟨w.heap.size, 3, none⟩ = some (.string s) ∧ w'.cell? ⟨w.heap.size, 4, none⟩ = some (.slice none 0 0))) := fun w' hb =>
    cells5 ((hb.out.block _ (lt_of_heap HX2.out)).trans HX2.out)
  have HB0 : Hid (Below w2.heap.size w2 w2.drew) := (Below.refl _ _).drew
  have HB00 : Hid (Below w2.heap.size w2 w2) := Below.refl _ _
  have HK3 : Hid (kindV 3 = .iface 106 (.agg #[])) := rfl
  go_upto_region 3 with fail
  go_region_held3 (fun w' => w'.cell? ⟨w.heap.size, 0, none⟩ = some (.int .i64 3) ∧ w'.cell? ⟨w.heap.size, 1, none⟩ = some (.int .i64 0) ∧ w'.cell? ⟨w.heap.size, 2, none⟩ = some (.float .f64 0) ∧ w'.cell? ⟨w.heap.size, 3, none⟩ = some (.string s) ∧ w'.cell? ⟨w.heap.size, 4, none⟩ = some (.slice none 0 0)) (exact HKS.out _ (by assumption))
    (first
    | (go_at_call 39; refine (of_any 3 _).mono ?_; rintro e w3 ⟨rfl, rfl⟩; rw [HK3.out])
    | (go_at_call 222; refine (vtext_any 3 0 0 s none 0 0 _ hs).mono ?_; rintro e w4 ⟨rfl, hb4⟩
       have HB4 := bel_step (by assumption) hb4
       clear hb4)
    | fail)
  all_goals
    have HBE := Lib.hid (HB2.out.trans (HB4.out.mono HB2.out.size))
    go_wp2
    go_ret
    exact ⟨rfl, HBE.out⟩
end Go.Proofs.YtpijpeocdlnhiaaGreatDoor
