/- The reference's reader of numbers. -/
import Derived.Test.YtpijpeocdlnhiaaGreatDoorTRefN
import Derived.Test.YtpijpeocdlnhiaaGreatDoorTNumP
namespace Go.Proofs.YtpijpeocdlnhiaaGreatDoor
set_option linter.unusedVariables false
set_option linter.unusedSimpArgs false
open Go.RowKit

theorem bitsR_snoc (l : List UInt8) (x : UInt8) (h : l ≠ []) : bitsR (l ++ [x]) = stepH (bitsR l) x := by
  unfold bitsR
  rw [List.tail_append_of_ne_nil h, List.foldl_append]
  rfl
theorem find_hit {s : List UInt8} {cs : List Nat} {j x : Nat} (hc : candR s = cs) (hx : cs[j]? = some x) (ht : numTextL x = s) (hn : ∀ (i y : Nat), i < j → cs[i]? = some y → numTextL y ≠ s) : numParseR s = (x, true) := by
  unfold numParseR
  rw [hc]
  have h : cs.find? (fun x => decide (numTextL x = s)) = some x := by
    rw [List.find?_eq_some_iff_getElem]
    obtain ⟨hj, hxe⟩ := List.getElem?_eq_some_iff.1 hx
    refine ⟨decide_eq_true ht, j, hj, hxe, fun i hi => ?_⟩
    have := hn i _ hi (List.getElem?_eq_getElem (by omega))
    simp [this]
  rw [h]
theorem find_none {s : List UInt8} {cs : List Nat} (hc : candR s = cs) (hl : cs.length = 6) (hn : ∀ (i y : Nat), i < 6 → cs[i]? = some y → numTextL y ≠ s) : numParseR s = (0, false) := by
  unfold numParseR
  rw [hc]
  have h : cs.find? (fun x => decide (numTextL x = s)) = none := by
    rw [List.find?_eq_none]
    intro x hx
    obtain ⟨i, hi, he⟩ := List.getElem_of_mem hx
    have := hn i x (by omega) (by rw [List.getElem?_eq_getElem hi, he])
    simp [this]
  rw [h]
theorem take_ne {l : List UInt8} {m : Nat} (h1 : 1 ≤ m) (h2 : m < l.length) : l.take m ≠ [] := by
  intro h
  rw [List.take_eq_nil_iff] at h
  rcases h with h | h
  · omega
  · rw [h] at h2; simp at h2
set_option maxRecDepth 100000 in
set_option maxHeartbeats 4000000 in
theorem rnparse_any (s : ByteArray) (hs : s.size ≤ 1000000) (w : World) :
    Calls Tryz.prog 107 #[.string s] w fun e w' => e = .returned (.tuple #[.float .f64 (numParseR s.data.toList).1, .bool (numParseR s.data.toList).2]) ∧ Below w.heap.size w w' := by
  go_enter Tryz.func107, Tryz.ntmps107
  go_wp2_with fail
  go_loopw [4, 5] (fun a i w' => ∃ (m : Nat) (q : Nat), i = .int .i64 m ∧ a = .int .u64 q ∧ 1 ≤ m ∧ (m ≤ s.size ∨ m = 1) ∧ q < 18446744073709551616 ∧ Hid (q = bitsR (s.data.toList.take m)) ∧ w' = w) (fun _ i _ => s.size - (RowKit.intOf i).toNat)
  case atStart =>
    refine ⟨1, 0, rfl, rfl, Nat.le_refl _, .inr rfl, by decide, ?_, rfl⟩
    rw [Hid]
    cases s.data.toList <;> rfl
  case round =>
    obtain ⟨m, q, rfl, rfl, hm1, hm, hq, HQ, rfl⟩ := hrel
    by_cases hlt : m < s.size
    · have hlt' : m < s.data.toList.length := by rw [bsize]; exact hlt
      obtain ⟨x, hx⟩ : ∃ x, x = s[m]'hlt := ⟨_, rfl⟩
      have hx2 : s.data.toList[m] = x := by rw [hx]; exact Array.getElem_toList _
      have hxe : s[m]'hlt = x := hx.symm
      have hx256 : x.toNat < 256 := x.toNat_lt
      have HN : Hid (bitsR (s.data.toList.take (m + 1)) = stepH q x) := by
        rw [Hid, List.take_succ_eq_append_getElem hlt', bitsR_snoc _ _ (take_ne hm1 hlt'), hx2, ← HQ.out]
      clear hx hx2 hlt'
      by_cases hd : 48 ≤ x.toNat ∧ x.toNat ≤ 57
      · have h1 : (48 : Int) ≤ (x.toNat : Int) := by omega
        have h2 : (x.toNat : Int) ≤ 57 := by omega
        have h3 : ¬ (97 : Int) ≤ (x.toNat : Int) := by omega
        have hst : stepH q x = (q * 16 + (x.toNat - 48)) % 18446744073709551616 := by unfold stepH; rw [if_neg (by omega), if_pos hd]
        have hw1 : IntKind.u64.wrap ((q : Int) * 16) = ((q * 16 % 18446744073709551616 : Nat) : Int) := by rw [IntKind.wrap_u64]; omega
        have hw2 : IntKind.u8.wrap ((x.toNat : Int) - 48) = ((x.toNat - 48 : Nat) : Int) := by rw [IntKind.wrap_u8]; omega
        have hw4 : IntKind.u64.wrap ((x.toNat - 48 : Nat) : Int) = ((x.toNat - 48 : Nat) : Int) := by rw [IntKind.wrap_u64]; omega
        have hw3 : IntKind.u64.wrap (((q * 16 % 18446744073709551616 : Nat) : Int) + ((x.toNat - 48 : Nat) : Int)) = (stepH q x : Int) := by rw [IntKind.wrap_u64, hst]; omega
        have hlt2 : stepH q x < 18446744073709551616 := by rw [hst]; exact Nat.mod_lt _ (by decide)
        generalize stepH q x = q2 at *
        generalize q * 16 % 18446744073709551616 = q10 at *
        generalize x.toNat - 48 = x48 at *
        clear hst hd
        go_wp2_with fail
        refine ⟨⟨m + 1, q2, by go_num, rfl, by omega, by omega, hlt2, HN.out.symm, trivial⟩, ?_⟩
        simp [RowKit.intOf]; omega
      · by_cases hl : 97 ≤ x.toNat ∧ x.toNat ≤ 102
        · have h1 : (48 : Int) ≤ (x.toNat : Int) := by omega
          have h2 : ¬ (x.toNat : Int) ≤ 57 := by omega
          have h3 : (97 : Int) ≤ (x.toNat : Int) := by omega
          have h4 : (x.toNat : Int) ≤ 102 := by omega
          have hst : stepH q x = (q * 16 + (x.toNat - 97) + 10) % 18446744073709551616 := by unfold stepH; rw [if_pos hl, if_neg hd]
          have hw1 : IntKind.u64.wrap ((q : Int) * 16) = ((q * 16 % 18446744073709551616 : Nat) : Int) := by rw [IntKind.wrap_u64]; omega
          have hw2 : IntKind.u8.wrap ((x.toNat : Int) - 97) = ((x.toNat - 97 : Nat) : Int) := by rw [IntKind.wrap_u8]; omega
          have hw4 : IntKind.u64.wrap ((x.toNat - 97 : Nat) : Int) = ((x.toNat - 97 : Nat) : Int) := by rw [IntKind.wrap_u64]; omega
          obtain ⟨qm, hqm⟩ : ∃ qm : Nat, qm = (q * 16 % 18446744073709551616 + (x.toNat - 97)) % 18446744073709551616 := ⟨_, rfl⟩
          have hw5 : IntKind.u64.wrap (((q * 16 % 18446744073709551616 : Nat) : Int) + ((x.toNat - 97 : Nat) : Int)) = (qm : Int) := by rw [IntKind.wrap_u64, hqm]; omega
          have hw3 : IntKind.u64.wrap ((qm : Int) + 10) = (stepH q x : Int) := by rw [IntKind.wrap_u64, hst, hqm]; omega
          have hlt2 : stepH q x < 18446744073709551616 := by rw [hst]; exact Nat.mod_lt _ (by decide)
          generalize stepH q x = q2 at *
          generalize q * 16 % 18446744073709551616 = q10 at *
          generalize x.toNat - 97 = x48 at *
          clear hst hd hl hqm
          go_wp2_with fail
          refine ⟨⟨m + 1, q2, by go_num, rfl, by omega, by omega, hlt2, HN.out.symm, trivial⟩, ?_⟩
          simp [RowKit.intOf]; omega
        · have hst : stepH q x = q := by unfold stepH; rw [if_neg hl, if_neg hd]
          rw [hst] at HN
          clear hst
          obtain ⟨c1, hc1⟩ : ∃ c, decide ((48 : Int) ≤ (x.toNat : Int)) = c := ⟨_, rfl⟩
          obtain ⟨c2, hc2⟩ : ∃ c, decide ((x.toNat : Int) ≤ 57) = c := ⟨_, rfl⟩
          obtain ⟨c3, hc3⟩ : ∃ c, decide ((97 : Int) ≤ (x.toNat : Int)) = c := ⟨_, rfl⟩
          obtain ⟨c4, hc4⟩ : ∃ c, decide ((x.toNat : Int) ≤ 102) = c := ⟨_, rfl⟩
          have HL : Hid (x.toNat < 48 ∨ (57 < x.toNat ∧ x.toNat < 97) ∨ 102 < x.toNat) := by rw [Hid]; omega
          clear hd hl hc1 hc2 hc3 hc4
          rcases HL.out with h | ⟨h, h'⟩ | h
          · have g1 : ¬ (48 : Int) ≤ (x.toNat : Int) := by omega
            have g3 : ¬ (97 : Int) ≤ (x.toNat : Int) := by omega
            clear h
            go_wp2_with fail
            refine ⟨⟨m + 1, q, by go_num, rfl, by omega, by omega, hq, HN.out.symm, trivial⟩, ?_⟩
            simp [RowKit.intOf]; omega
          · have g1 : (48 : Int) ≤ (x.toNat : Int) := by omega
            have g2 : ¬ (x.toNat : Int) ≤ 57 := by omega
            have g3 : ¬ (97 : Int) ≤ (x.toNat : Int) := by omega
            clear h h'
            go_wp2_with fail
            refine ⟨⟨m + 1, q, by go_num, rfl, by omega, by omega, hq, HN.out.symm, trivial⟩, ?_⟩
            simp [RowKit.intOf]; omega
          · have g1 : (48 : Int) ≤ (x.toNat : Int) := by omega
            have g2 : ¬ (x.toNat : Int) ≤ 57 := by omega
            have g3 : (97 : Int) ≤ (x.toNat : Int) := by omega
            have g4 : ¬ (x.toNat : Int) ≤ 102 := by omega
            clear h
            go_wp2_with fail
            refine ⟨⟨m + 1, q, by go_num, rfl, by omega, by omega, hq, HN.out.symm, trivial⟩, ?_⟩
            simp [RowKit.intOf]; omega
    · have hqn : q = bitsR s.data.toList := by
        have h := HQ.out
        rcases hm with h1 | h1
        · rwa [List.take_of_length_le (by rw [bsize]; omega)] at h
        · rwa [List.take_of_length_le (by rw [bsize]; omega)] at h
      obtain ⟨cs, hcs⟩ : ∃ cs : List Nat, cs = [q, 9221120237041090561, 9218868437227405312, 18442240474082181120, 0, 9223372036854775808] := ⟨_, rfl⟩
      have hcand : candR s.data.toList = cs := by unfold candR; rw [hcs, hqn]
      have hcl : cs.length = 6 := by rw [hcs]; rfl
      have HCB : Hid (∀ x ∈ cs, x < 18446744073709551616) := by
        rw [Hid, hcs]
        intro x hx
        simp only [List.mem_cons, List.not_mem_nil, or_false] at hx
        omega
      have HCD := Lib.hid hcand
      have HCL := Lib.hid hcl
      have HNA : Hid ((wr.alloc (.cells #[.int .u64 q, .int .u64 9221120237041090561, .int .u64 9218868437227405312, .int .u64 18442240474082181120, .int .u64 0, .int .u64 9223372036854775808] 70)).heap[wr.heap.size]? = some (.cells #[.int .u64 q, .int .u64 9221120237041090561, .int .u64 9218868437227405312, .int .u64 18442240474082181120, .int .u64 0, .int .u64 9223372036854775808] 70 (0, 0))) := heap_alloc_new _ _
      have HCE : Hid (∀ (j : Nat) (x : Nat), cs[j]? = some x → (wr.alloc (.cells #[.int .u64 q, .int .u64 9221120237041090561, .int .u64 9218868437227405312, .int .u64 18442240474082181120, .int .u64 0, .int .u64 9223372036854775808] 70)).cell? ⟨wr.heap.size, j, none⟩ = some (.int .u64 x)) := by
        intro j x hj
        refine cellAt HNA.out j ?_
        rw [hcs] at hj
        match j, hj with
        | 0, hj => cases hj; rfl
        | 1, hj => cases hj; rfl
        | 2, hj => cases hj; rfl
        | 3, hj => cases hj; rfl
        | 4, hj => cases hj; rfl
        | 5, hj => cases hj; rfl
      have HBB : Hid (Below wr.heap.size wr (wr.alloc (.cells #[.int .u64 q, .int .u64 9221120237041090561, .int .u64 9218868437227405312, .int .u64 18442240474082181120, .int .u64 0, .int .u64 9223372036854775808] 70))) := (Below.refl _ _).alloc (Nat.le_refl _) _
      clear hqn hcs hcand hcl HNA
      go_wp2_with fail
      generalize (wr.alloc (.cells #[.int .u64 q, .int .u64 9221120237041090561, .int .u64 9218868437227405312, .int .u64 18442240474082181120, .int .u64 0, .int .u64 9223372036854775808] 70)) = w1 at *
      go_loopw [8] (fun i w' => ∃ (j : Nat), i = .int .i64 j ∧ j ≤ 6 ∧ Hid (∀ (i x : Nat), i < j → cs[i]? = some x → numTextL x ≠ s.data.toList) ∧ w' = w1) (fun i _ => 6 - (RowKit.intOf i).toNat)
      case atStart => exact ⟨0, rfl, by decide, fun i x hi => absurd hi (Nat.not_lt_zero _), rfl⟩
      case round =>
        obtain ⟨j, rfl, hj, HJ, rfl⟩ := hrel
        by_cases hj6 : j < 6
        · have hjc : j < cs.length := by rw [HCL.out]; exact hj6
          obtain ⟨x, hx⟩ : ∃ x, cs[j]? = some x := ⟨_, List.getElem?_eq_getElem hjc⟩
          have hcx := HCE.out j x hx
          have hx64 := HCB.out x (List.mem_of_getElem? hx)
          have hb2 : ∀ (w : World), (callFunc 110 #[.int .u64 x]).run Tryz.prog w = .ok (.value (.float .f64 x)) w := call_bits2 x
          have HT := Lib.hid (rtext_num x hx64)
          obtain ⟨d, hd⟩ : ∃ d : ByteArray, d = ⟨(numTextL x).toArray⟩ := ⟨_, rfl⟩
          have he := str_eqL d s _ hd
          simp only [← hd] at HT
          obtain ⟨c, hc⟩ : ∃ c, c = decide (numTextL x = s.data.toList) := ⟨_, rfl⟩
          rw [← hc] at he
          have HC := Lib.hid hc
          have HXJ := Lib.hid hx
          clear hd hc hx hjc
          go_wp2_with fail
          refine (HT.out _).mono ?_
          rintro e w2 ⟨rfl, rfl⟩
          cases c with
          | true =>
            have hp : numParseR s.data.toList = (x, true) := find_hit HCD.out HXJ.out (of_decide_eq_true HC.out.symm) HJ.out
            have HP := Lib.hid hp
            clear hp
            go_wp2_with fail
            go_ret2
            exact ⟨by rw [HP.out]; rfl, HBB.out⟩
          | false =>
            have HN : Hid (∀ (i y : Nat), i < j + 1 → cs[i]? = some y → numTextL y ≠ s.data.toList) := by
              intro i y hi hy
              rcases Nat.lt_or_ge i j with h | h
              · exact HJ.out i y h hy
              · have : i = j := by omega
                subst this
                rw [HXJ.out] at hy
                cases hy
                exact of_decide_eq_false HC.out.symm
            go_wp2_with fail
            refine ⟨⟨j + 1, by go_num, by omega, HN.out, trivial⟩, ?_⟩
            simp [RowKit.intOf]; omega
        · obtain rfl : j = 6 := by omega
          have hp : numParseR s.data.toList = (0, false) := find_none HCD.out HCL.out HJ.out
          have HP := Lib.hid hp
          clear hp
          go_wp2_with fail
          go_ret2
          exact ⟨by rw [HP.out]; rfl, HBB.out⟩
end Go.Proofs.YtpijpeocdlnhiaaGreatDoor
