/- The law ValueParses: value.Parse returns the payload of the reference, whose text it is, or none. -/
import Derived.Test.YtpijpeocdlnhiaaGreatDoorTTop
namespace Go.Proofs.YtpijpeocdlnhiaaGreatDoor
set_option linter.unusedVariables false
set_option linter.unusedSimpArgs false
open Go.RowKit

def aliveT : VT := .node 4 0 0 ⟨#[]⟩ [.node 1 (-5) 0 ⟨#[]⟩ [], .node 3 0 0 ⟨#[97]⟩ []]
theorem alive_text : (⟨(textTop aliveT).toArray⟩ : ByteArray) = ⟨#[91, 45, 53, 32, 34, 54, 49, 34, 93]⟩ := by
  have h : textTop aliveT = [91, 45, 53, 32, 34, 54, 49, 34, 93] := by kernel_rfl
  rw [h]
theorem alive_len : (textT aliveT).length = 9 := by kernel_rfl
theorem alive_wf : wfT aliveT := by
  have hm : (maxLen : Nat) = maxLen := rfl
  have h0 : (⟨#[]⟩ : ByteArray).size ≤ maxLen := Nat.zero_le _
  have h1 : (⟨#[97]⟩ : ByteArray).size ≤ maxLen := by show 1 ≤ maxLen; unfold maxLen; omega
  unfold aliveT
  rw [wfT, wfL, wfL, wfL, wfT, wfT, wfL]
  exact ⟨by omega, by omega, by omega, h0, ⟨by omega, by omega, by omega, h0, trivial⟩, ⟨by omega, by omega, by omega, h1, trivial⟩, trivial⟩
theorem leaf_read (w : World) (S : Nat → Prop) (k n : Int) (f : Nat) (s : ByteArray) : TRead w S (.node k n f s []) ⟨k, n, f, s, none, 0, 0⟩ := by
  rw [TRead]
  exact ⟨rfl, rfl, rfl, rfl, rfl, Nat.zero_le _, [], Reads.nil _ _, fun h => absurd rfl h, by rw [TReads]⟩
theorem alive_read (w : World) : TRead (w.alloc (.cells #[.int .i64 1, .int .i64 (-5), .float .f64 0, .string ⟨#[]⟩, .slice none 0 0, .int .i64 3, .int .i64 0, .float .f64 0, .string ⟨#[97]⟩, .slice none 0 0] 26)) (fun _ => True) aliveT ⟨4, 0, 0, ⟨#[]⟩, some ⟨w.heap.size, 0, none⟩, 2, 2⟩ := by
  unfold aliveT
  rw [TRead]
  refine ⟨rfl, rfl, rfl, rfl, rfl, by show 2 ≤ maxLen; unfold maxLen; omega, [⟨1, -5, 0, ⟨#[]⟩, none, 0, 0⟩, ⟨3, 0, 0, ⟨#[97]⟩, none, 0, 0⟩], Reads.block (heap_alloc_new w _) 2 5 rfl, fun _ _ _ => trivial, ?_⟩
  rw [TReads]
  refine ⟨_, _, rfl, leaf_read _ _ _ _ _ _, ?_⟩
  rw [TReads]
  refine ⟨_, _, rfl, leaf_read _ _ _ _ _ _, ?_⟩
  rw [TReads]
set_option maxRecDepth 100000 in
set_option maxHeartbeats 1000000 in
theorem valive_any (w : World) (hT : Tabs w) : Calls Tryz.prog 8 #[] w fun e w' => e = .returned (.bool true) ∧ Below w.heap.size w w' := by
  have HB1 : Hid (Below w.heap.size w (w.alloc (.cells #[.int .i64 1, .int .i64 (-5), .float .f64 0, .string ⟨#[]⟩, .slice none 0 0, .int .i64 3, .int .i64 0, .float .f64 0, .string ⟨#[97]⟩, .slice none 0 0] 26))) := (Below.refl _ _).alloc (Nat.le_refl _) _
  have HC := Lib.hid (vtop_any aliveT _ _ _ (alive_read w) alive_wf (fun _ => by rw [alive_len]; omega) (hT.later HB1.out))
  rw [alive_text] at HC
  simp only [VV.val] at HC
  clear hT
  go_enter Tryz.func8, Tryz.ntmps8
  go_wp2_with fail
  refine HC.out.mono ?_
  rintro e w2 ⟨rfl, hb2⟩
  have HB2 := Lib.hid (HB1.out.trans (hb2.mono HB1.out.size))
  clear hb2
  go_wp2_with fail
  go_ret
  exact ⟨by simp, HB2.out⟩
/-- What the law makes of the two results. -/
theorem same_parse (s : ByteArray) (hs : s.size ≤ 9000) : sameT (ParseP s.data.toList).1 (ParseR s.data.toList).1 = true ∧ (ParseP s.data.toList).2 = (ParseR s.data.toList).2 ∧ ((ParseP s.data.toList).2 = true → textTop (ParseP s.data.toList).1 = s.data.toList) := by
  have h := parse_law s.data.toList (by rw [← Lib.size_eq]; unfold maxLen; omega)
  exact ⟨sameT_canon _ _ h.2.1, h.1, h.2.2⟩
theorem ParseP_wf (s : ByteArray) (hs : s.size ≤ 9000) : wfT (ParseP s.data.toList).1 := by
  unfold ParseP
  split
  · exact (parseP_ok 8 s.data.toList (by rw [← Lib.size_eq]; unfold maxLen; omega)).1
  · exact zeroT_wf
theorem ParseP_len (s : ByteArray) (hs : s.size ≤ 9000) : (textT (ParseP s.data.toList).1).length ≤ 1000000 := by
  unfold ParseP
  split
  · have := parseP_len 8 s.data.toList
    rw [← Lib.size_eq] at this
    show (textT (parseP 8 s.data.toList).1).length ≤ _
    omega
  · show (textT zeroT).length ≤ _
    rw [zero_text]
    show 3 ≤ 1000000
    omega
set_option maxRecDepth 100000 in
set_option maxHeartbeats 4000000 in
theorem valueParses_any (s : ByteArray) (w : World) (hB : Base w) (hT : Tabs w) : Calls Tryz.prog 3 #[.string s] w fun e w' => e = .returned (.bool true) ∧ Below w.heap.size w w' := by
  rcases Nat.lt_or_ge 400 s.size with hlt | hge
  · have HA := Lib.hid (valive_any w hT)
    have hl : (s.size : Int) > 400 := by omega
    clear hB hT
    go_enter Tryz.func3, Tryz.ntmps3
    go_wp2_with fail
    refine HA.out.mono ?_
    rintro e w2 ⟨rfl, hb2⟩
    have HB2 := Lib.hid hb2
    clear hb2
    go_wp2_with fail
    go_ret
    exact ⟨rfl, HB2.out⟩
  · have hl : ¬ (s.size : Int) > 400 := by omega
    have HP := Lib.hid (ptop_any s (by omega) w hB hT)
    have HR := Lib.hid (rptop_any s (by omega))
    obtain ⟨hsm, hok, htx⟩ := same_parse s (by omega)
    have hwf := ParseP_wf s (by omega)
    have hln := ParseP_len s (by omega)
    have HBA := Lib.hid hB
    have HTA := Lib.hid hT
    obtain ⟨p, hp⟩ : ∃ p, p = ParseP s.data.toList := ⟨_, rfl⟩
    obtain ⟨q, hq⟩ : ∃ q, q = ParseR s.data.toList := ⟨_, rfl⟩
    rw [← hp] at HP hsm hok htx hwf hln
    rw [← hq] at HR hsm hok
    clear hp hq hB hT hge
    obtain ⟨pt, b⟩ := p
    obtain ⟨qt, b'⟩ := q
    dsimp only at hsm hok htx hwf hln
    subst hok
    go_enter Tryz.func3, Tryz.ntmps3
    go_wp2_with fail
    refine HP.out.mono ?_
    rintro e w1 ⟨⟨v, rfl, hv⟩, hb⟩
    obtain ⟨vk, vn, vf, vs, va, vl, vc⟩ := v
    dsimp only at hv ⊢
    clear HP
    go_upto_region 4 with fail
    have HVa : Hid ((w1.alloc (.cells #[.int .i64 vk, .int .i64 vn, .float .f64 vf, .string vs, .slice va vl vc] 26)).heap[w1.heap.size]? = some (.cells #[.int .i64 vk, .int .i64 vn, .float .f64 vf, .string vs, .slice va vl vc] 26 (0, 0))) := heap_alloc_new _ _
    have HBa : Hid (Below w.heap.size w (w1.alloc (.cells #[.int .i64 vk, .int .i64 vn, .float .f64 vf, .string vs, .slice va vl vc] 26))) := hb.alloc hb.size _
    have HTa : Hid (TRead (w1.alloc (.cells #[.int .i64 vk, .int .i64 vn, .float .f64 vf, .string vs, .slice va vl vc] 26)) (fun b => w.heap.size ≤ b ∧ b < w1.heap.size) pt ⟨vk, vn, vf, vs, va, vl, vc⟩) := (hv.read).later ((Below.refl _ _).alloc (Nat.le_refl _) _)
    clear hv hb
    generalize (w1.alloc (.cells #[.int .i64 vk, .int .i64 vn, .float .f64 vf, .string vs, .slice va vl vc] 26)) = wa at *
    go_wp2_with fail
    refine (HR.out _).mono ?_
    rintro e w2 ⟨⟨u, rfl, hu⟩, hb⟩
    obtain ⟨uk, un, uf, us, ua, ul, uc⟩ := u
    dsimp only at hu ⊢
    clear HR
    go_upto_region 5 with fail
    have HUb : Hid ((w2.alloc (.cells #[.int .i64 uk, .int .i64 un, .float .f64 uf, .string us, .slice ua ul uc] 26)).heap[w2.heap.size]? = some (.cells #[.int .i64 uk, .int .i64 un, .float .f64 uf, .string us, .slice ua ul uc] 26 (0, 0))) := heap_alloc_new _ _
    have HVb : Hid ((w2.alloc (.cells #[.int .i64 uk, .int .i64 un, .float .f64 uf, .string us, .slice ua ul uc] 26)).heap[w1.heap.size]? = some (.cells #[.int .i64 vk, .int .i64 vn, .float .f64 vf, .string vs, .slice va vl vc] 26 (0, 0))) := (Below.heap_alloc _ _ _ (Nat.lt_of_lt_of_le (lt_of_heap HVa.out) hb.size)).trans ((hb.block _ (lt_of_heap HVa.out)).trans HVa.out)
    have HBab : Below wa.heap.size wa (w2.alloc (.cells #[.int .i64 uk, .int .i64 un, .float .f64 uf, .string us, .slice ua ul uc] 26)) := hb.alloc hb.size _
    have HBb : Hid (Below w.heap.size w (w2.alloc (.cells #[.int .i64 uk, .int .i64 un, .float .f64 uf, .string us, .slice ua ul uc] 26))) := HBa.out.trans (HBab.mono HBa.out.size)
    have HTb : Hid (TRead (w2.alloc (.cells #[.int .i64 uk, .int .i64 un, .float .f64 uf, .string us, .slice ua ul uc] 26)) (fun b => w.heap.size ≤ b ∧ b < w1.heap.size) pt ⟨vk, vn, vf, vs, va, vl, vc⟩) := HTa.out.later HBab
    have HSb : Hid (TRead (w2.alloc (.cells #[.int .i64 uk, .int .i64 un, .float .f64 uf, .string us, .slice ua ul uc] 26)) (fun b => wa.heap.size ≤ b ∧ b < w2.heap.size) qt ⟨uk, un, uf, us, ua, ul, uc⟩) := (hu.read).later ((Below.refl _ _).alloc (Nat.le_refl _) _)
    clear hu hb HBab HTa HVa
    generalize (w2.alloc (.cells #[.int .i64 uk, .int .i64 un, .float .f64 uf, .string us, .slice ua ul uc] 26)) = wb at *
    have HA := Lib.hid (valive_any wb (HTA.out.later HBb.out))
    go_wp2_with fail
    refine HA.out.mono ?_
    rintro e w3 ⟨rfl, hb⟩
    have HUc := Lib.hid ((hb.block _ (lt_of_heap HUb.out)).trans HUb.out)
    have HVc := Lib.hid ((hb.block _ (lt_of_heap HVb.out)).trans HVb.out)
    have HBc := Lib.hid (HBb.out.trans (hb.mono HBb.out.size))
    have HS := Lib.hid (same_any pt qt _ _ _ _ w3 (HTb.out.later hb) (HSb.out.later hb))
    have HTc := Lib.hid (HTb.out.later hb)
    rw [hsm] at HS
    simp only [VV.val] at HS
    clear hb HA HUb HVb HTb HSb
    obtain ⟨hx0, hx1, hx2, hx3, hx4⟩ := cells5 HVc.out
    obtain ⟨hy0, hy1, hy2, hy3, hy4⟩ := cells5 HUc.out
    go_wp2_with fail
    refine HS.out.mono ?_
    rintro e w4 ⟨rfl, hb⟩
    have HVd := Lib.hid ((hb.block _ (lt_of_heap HVc.out)).trans HVc.out)
    have HBd := Lib.hid (HBc.out.trans (hb.mono HBc.out.size))
    have HTX := Lib.hid (vtop_any pt _ _ w4 (HTc.out.later hb) hwf (fun _ => hln) (HTA.out.later HBd.out))
    simp only [VV.val] at HTX
    clear hb HS HUc HVc HTc hx0 hx1 hx2 hx3 hx4 hy0 hy1 hy2 hy3 hy4
    obtain ⟨hx0, hx1, hx2, hx3, hx4⟩ := cells5 HVd.out
    cases b with
    | false =>
      clear HTX htx
      go_wp2_with fail
      go_ret
      exact ⟨rfl, HBd.out⟩
    | true =>
      rw [htx rfl, ba_data'] at HTX
      have hq1 : (s.toList == s.toList) = true := by simp
      clear htx
      go_wp2_with fail
      refine HTX.out.mono ?_
      rintro e w5 ⟨rfl, hb⟩
      have HBe := Lib.hid (HBd.out.trans (hb.mono HBd.out.size))
      clear hb
      go_wp2_with fail
      go_ret
      exact ⟨by simp, HBe.out⟩
end Go.Proofs.YtpijpeocdlnhiaaGreatDoor
