/- The law ValueParses: value.Parse returns the payload of the reference, whose text it is, or none.
Lists inside each other, and how long texts and bytes of light payloads are: plain law.
The law ValueDepths: lists inside each other are valid up to a depth of 8, and are written and read; deeper ones are not.
The law ValueForms: Valid, Count, Bytes and Text return the results of the reference; Read inverts Bytes, and Parse inverts Text. -/
import Derived.Test.YtpijpeocdlnhiaaGreatDoorTTop
import Derived.Test.YtpijpeocdlnhiaaGreatDoorBytesC
import Derived.Test.YtpijpeocdlnhiaaGreatDoorWeight
import Derived.Test.YtpijpeocdlnhiaaGreatDoorReadJ
import Derived.Test.YtpijpeocdlnhiaaGreatDoorRFormC
namespace Go.Proofs.YtpijpeocdlnhiaaGreatDoor
set_option linter.unusedVariables false
set_option linter.unusedSimpArgs false
open Go.RowKit

def aliveT : VT := .node 4 0 0 ⟨#[]⟩ [.node 1 (-5) 0 ⟨#[]⟩ [], .node 3 0 0 ⟨#[97]⟩ []]
theorem alive_text : (⟨(textTop aliveT).toArray⟩ : ByteArray) = ⟨#[91, 45, 53, 32, 34, 54, 49, 34, 93]⟩ := by
  have h : textTop aliveT = [91, 45, 53, 32, 34, 54, 49, 34, 93] := by kernel_rfl
  rw [h]
theorem alive_len : (textT aliveT).length = 9 := by kernel_rfl
theorem alive_wf : wfT aliveT := by
  have hm : (maxLen : Nat) = maxLen := rfl
  have h0 : (⟨#[]⟩ : ByteArray).size ≤ maxLen := Nat.zero_le _
  have h1 : (⟨#[97]⟩ : ByteArray).size ≤ maxLen := by show 1 ≤ maxLen; unfold maxLen; omega
  unfold aliveT
  rw [wfT, wfL, wfL, wfL, wfT, wfT, wfL]
  exact ⟨by omega, by omega, by omega, h0, ⟨by omega, by omega, by omega, h0, trivial⟩, ⟨by omega, by omega, by omega, h1, trivial⟩, trivial⟩
theorem leaf_read (w : World) (S : Nat → Prop) (k n : Int) (f : Nat) (s : ByteArray) : TRead w S (.node k n f s []) ⟨k, n, f, s, none, 0, 0⟩ := by
  rw [TRead]
  exact ⟨rfl, rfl, rfl, rfl, rfl, Nat.zero_le _, [], Reads.nil _ _, fun h => absurd rfl h, by rw [TReads]⟩
theorem alive_read (w : World) : TRead (w.alloc (.cells #[.int .i64 1, .int .i64 (-5), .float .f64 0, .string ⟨#[]⟩, .slice none 0 0, .int .i64 3, .int .i64 0, .float .f64 0, .string ⟨#[97]⟩, .slice none 0 0] 26)) (fun _ => True) aliveT ⟨4, 0, 0, ⟨#[]⟩, some ⟨w.heap.size, 0, none⟩, 2, 2⟩ := by
  unfold aliveT
  rw [TRead]
  refine ⟨rfl, rfl, rfl, rfl, rfl, by show 2 ≤ maxLen; unfold maxLen; omega, [⟨1, -5, 0, ⟨#[]⟩, none, 0, 0⟩, ⟨3, 0, 0, ⟨#[97]⟩, none, 0, 0⟩], Reads.block (heap_alloc_new w _) 2 5 rfl, fun _ _ _ => trivial, ?_⟩
  rw [TReads]
  refine ⟨_, _, rfl, leaf_read _ _ _ _ _ _, ?_⟩
  rw [TReads]
  refine ⟨_, _, rfl, leaf_read _ _ _ _ _ _, ?_⟩
  rw [TReads]
set_option maxRecDepth 100000 in
set_option maxHeartbeats 1000000 in
theorem valive_any (w : World) (hT : Tabs w) : Calls Tryz.prog 8 #[] w fun e w' => e = .returned (.bool true) ∧ Below w.heap.size w w' := by
  have HB1 : Hid (Below w.heap.size w (w.alloc (.cells #[.int .i64 1, .int .i64 (-5), .float .f64 0, .string ⟨#[]⟩, .slice none 0 0, .int .i64 3, .int .i64 0, .float .f64 0, .string ⟨#[97]⟩, .slice none 0 0] 26))) := (Below.refl _ _).alloc (Nat.le_refl _) _
  have HC := Lib.hid (vtop_any aliveT _ _ _ (alive_read w) alive_wf (fun _ => by rw [alive_len]; omega) (hT.later HB1.out))
  rw [alive_text] at HC
  simp only [VV.val] at HC
  clear hT
  go_enter Tryz.func8, Tryz.ntmps8
  go_wp2_with fail
  refine HC.out.mono ?_
  rintro e w2 ⟨rfl, hb2⟩
  have HB2 := Lib.hid (HB1.out.trans (hb2.mono HB1.out.size))
  clear hb2
  go_wp2_with fail
  go_ret
  exact ⟨by simp, HB2.out⟩
/-- What the law makes of the two results. -/
theorem same_parse (s : ByteArray) (hs : s.size ≤ 9000) : sameT (ParseP s.data.toList).1 (ParseR s.data.toList).1 = true ∧ (ParseP s.data.toList).2 = (ParseR s.data.toList).2 ∧ ((ParseP s.data.toList).2 = true → textTop (ParseP s.data.toList).1 = s.data.toList) := by
  have h := parse_law s.data.toList (by rw [← Lib.size_eq]; unfold maxLen; omega)
  exact ⟨sameT_canon _ _ h.2.1, h.1, h.2.2⟩
theorem ParseP_wf (s : ByteArray) (hs : s.size ≤ 9000) : wfT (ParseP s.data.toList).1 := by
  unfold ParseP
  split
  · exact (parseP_ok 8 s.data.toList (by rw [← Lib.size_eq]; unfold maxLen; omega)).1
  · exact zeroT_wf
theorem ParseP_len (s : ByteArray) (hs : s.size ≤ 9000) : (textT (ParseP s.data.toList).1).length ≤ 1000000 := by
  unfold ParseP
  split
  · have := parseP_len 8 s.data.toList
    rw [← Lib.size_eq] at this
    show (textT (parseP 8 s.data.toList).1).length ≤ _
    omega
  · show (textT zeroT).length ≤ _
    rw [zero_text]
    show 3 ≤ 1000000
    omega
set_option maxRecDepth 100000 in
set_option maxHeartbeats 4000000 in
theorem valueParses_any (s : ByteArray) (w : World) (hB : Base w) (hT : Tabs w) : Calls Tryz.prog 3 #[.string s] w fun e w' => e = .returned (.bool true) ∧ Below w.heap.size w w' := by
  rcases Nat.lt_or_ge 400 s.size with hlt | hge
  · have HA := Lib.hid (valive_any w hT)
    have hl : (s.size : Int) > 400 := by omega
    clear hB hT
    go_enter Tryz.func3, Tryz.ntmps3
    go_wp2_with fail
    refine HA.out.mono ?_
    rintro e w2 ⟨rfl, hb2⟩
    have HB2 := Lib.hid hb2
    clear hb2
    go_wp2_with fail
    go_ret
    exact ⟨rfl, HB2.out⟩
  · have hl : ¬ (s.size : Int) > 400 := by omega
    have HP := Lib.hid (ptop_any s (by omega) w hB hT)
    have HR := Lib.hid (rptop_any s (by omega))
    obtain ⟨hsm, hok, htx⟩ := same_parse s (by omega)
    have hwf := ParseP_wf s (by omega)
    have hln := ParseP_len s (by omega)
    have HBA := Lib.hid hB
    have HTA := Lib.hid hT
    obtain ⟨p, hp⟩ : ∃ p, p = ParseP s.data.toList := ⟨_, rfl⟩
    obtain ⟨q, hq⟩ : ∃ q, q = ParseR s.data.toList := ⟨_, rfl⟩
    rw [← hp] at HP hsm hok htx hwf hln
    rw [← hq] at HR hsm hok
    clear hp hq hB hT hge
    obtain ⟨pt, b⟩ := p
    obtain ⟨qt, b'⟩ := q
    dsimp only at hsm hok htx hwf hln
    subst hok
    go_enter Tryz.func3, Tryz.ntmps3
    go_wp2_with fail
    refine HP.out.mono ?_
    rintro e w1 ⟨⟨v, rfl, hv⟩, hb⟩
    obtain ⟨vk, vn, vf, vs, va, vl, vc⟩ := v
    dsimp only at hv ⊢
    clear HP
    go_upto_region 4 with fail
    have HVa : Hid ((w1.alloc (.cells #[.int .i64 vk, .int .i64 vn, .float .f64 vf, .string vs, .slice va vl vc] 26)).heap[w1.heap.size]? = some (.cells #[.int .i64 vk, .int .i64 vn, .float .f64 vf, .string vs, .slice va vl vc] 26 (0, 0))) := heap_alloc_new _ _
    have HBa : Hid (Below w.heap.size w (w1.alloc (.cells #[.int .i64 vk, .int .i64 vn, .float .f64 vf, .string vs, .slice va vl vc] 26))) := hb.alloc hb.size _
    have HTa : Hid (TRead (w1.alloc (.cells #[.int .i64 vk, .int .i64 vn, .float .f64 vf, .string vs, .slice va vl vc] 26)) (fun b => w.heap.size ≤ b ∧ b < w1.heap.size) pt ⟨vk, vn, vf, vs, va, vl, vc⟩) := (hv.read).later ((Below.refl _ _).alloc (Nat.le_refl _) _)
    clear hv hb
    generalize (w1.alloc (.cells #[.int .i64 vk, .int .i64 vn, .float .f64 vf, .string vs, .slice va vl vc] 26)) = wa at *
    go_wp2_with fail
    refine (HR.out _).mono ?_
    rintro e w2 ⟨⟨u, rfl, hu⟩, hb⟩
    obtain ⟨uk, un, uf, us, ua, ul, uc⟩ := u
    dsimp only at hu ⊢
    clear HR
    go_upto_region 5 with fail
    have HUb : Hid ((w2.alloc (.cells #[.int .i64 uk, .int .i64 un, .float .f64 uf, .string us, .slice ua ul uc] 26)).heap[w2.heap.size]? = some (.cells #[.int .i64 uk, .int .i64 un, .float .f64 uf, .string us, .slice ua ul uc] 26 (0, 0))) := heap_alloc_new _ _
    have HVb : Hid ((w2.alloc (.cells #[.int .i64 uk, .int .i64 un, .float .f64 uf, .string us, .slice ua ul uc] 26)).heap[w1.heap.size]? = some (.cells #[.int .i64 vk, .int .i64 vn, .float .f64 vf, .string vs, .slice va vl vc] 26 (0, 0))) := (Below.heap_alloc _ _ _ (Nat.lt_of_lt_of_le (lt_of_heap HVa.out) hb.size)).trans ((hb.block _ (lt_of_heap HVa.out)).trans HVa.out)
    have HBab : Below wa.heap.size wa (w2.alloc (.cells #[.int .i64 uk, .int .i64 un, .float .f64 uf, .string us, .slice ua ul uc] 26)) := hb.alloc hb.size _
    have HBb : Hid (Below w.heap.size w (w2.alloc (.cells #[.int .i64 uk, .int .i64 un, .float .f64 uf, .string us, .slice ua ul uc] 26))) := HBa.out.trans (HBab.mono HBa.out.size)
    have HTb : Hid (TRead (w2.alloc (.cells #[.int .i64 uk, .int .i64 un, .float .f64 uf, .string us, .slice ua ul uc] 26)) (fun b => w.heap.size ≤ b ∧ b < w1.heap.size) pt ⟨vk, vn, vf, vs, va, vl, vc⟩) := HTa.out.later HBab
    have HSb : Hid (TRead (w2.alloc (.cells #[.int .i64 uk, .int .i64 un, .float .f64 uf, .string us, .slice ua ul uc] 26)) (fun b => wa.heap.size ≤ b ∧ b < w2.heap.size) qt ⟨uk, un, uf, us, ua, ul, uc⟩) := (hu.read).later ((Below.refl _ _).alloc (Nat.le_refl _) _)
    clear hu hb HBab HTa HVa
    generalize (w2.alloc (.cells #[.int .i64 uk, .int .i64 un, .float .f64 uf, .string us, .slice ua ul uc] 26)) = wb at *
    have HA := Lib.hid (valive_any wb (HTA.out.later HBb.out))
    go_wp2_with fail
    refine HA.out.mono ?_
    rintro e w3 ⟨rfl, hb⟩
    have HUc := Lib.hid ((hb.block _ (lt_of_heap HUb.out)).trans HUb.out)
    have HVc := Lib.hid ((hb.block _ (lt_of_heap HVb.out)).trans HVb.out)
    have HBc := Lib.hid (HBb.out.trans (hb.mono HBb.out.size))
    have HS := Lib.hid (same_any pt qt _ _ _ _ w3 (HTb.out.later hb) (HSb.out.later hb))
    have HTc := Lib.hid (HTb.out.later hb)
    rw [hsm] at HS
    simp only [VV.val] at HS
    clear hb HA HUb HVb HTb HSb
    obtain ⟨hx0, hx1, hx2, hx3, hx4⟩ := cells5 HVc.out
    obtain ⟨hy0, hy1, hy2, hy3, hy4⟩ := cells5 HUc.out
    go_wp2_with fail
    refine HS.out.mono ?_
    rintro e w4 ⟨rfl, hb⟩
    have HVd := Lib.hid ((hb.block _ (lt_of_heap HVc.out)).trans HVc.out)
    have HBd := Lib.hid (HBc.out.trans (hb.mono HBc.out.size))
    have HTX := Lib.hid (vtop_any pt _ _ w4 (HTc.out.later hb) hwf (fun _ => hln) (HTA.out.later HBd.out))
    simp only [VV.val] at HTX
    clear hb HS HUc HVc HTc hx0 hx1 hx2 hx3 hx4 hy0 hy1 hy2 hy3 hy4
    obtain ⟨hx0, hx1, hx2, hx3, hx4⟩ := cells5 HVd.out
    cases b with
    | false =>
      clear HTX htx
      go_wp2_with fail
      go_ret
      exact ⟨rfl, HBd.out⟩
    | true =>
      rw [htx rfl, ba_data'] at HTX
      have hq1 : (s.toList == s.toList) = true := by simp
      clear htx
      go_wp2_with fail
      refine HTX.out.mono ?_
      rintro e w5 ⟨rfl, hb⟩
      have HBe := Lib.hid (HBd.out.trans (hb.mono HBd.out.size))
      clear hb
      go_wp2_with fail
      go_ret
      exact ⟨by simp, HBe.out⟩
end Go.Proofs.YtpijpeocdlnhiaaGreatDoor
namespace Go.Proofs.YtpijpeocdlnhiaaGreatDoor
set_option linter.unusedVariables false
set_option linter.unusedSimpArgs false
open Go.RowKit

/-- A payload in j lists, one inside the other. -/
def nestT : Nat → VT → VT
  | 0, t => t
  | j + 1, t => .node 4 0 0 ⟨#[]⟩ [nestT j t]
theorem good_atom {t : VT} (hk : t.k ≠ 4) {left : Int} (hg : goodT left t = true) : t.l = [] ∧ ∀ left', goodT left' t = true := by
  obtain ⟨k, n, f, s, l⟩ := t
  simp only [VT.k] at hk
  rw [goodT, Bool.and_eq_true] at hg
  have ha := atom_of hg.1 hk
  obtain rfl := ha.ll
  refine ⟨rfl, fun left' => ?_⟩
  rw [goodT, goodL, Bool.and_true]
  have h := hg.1
  unfold headB at h ⊢
  simp only [decide_eq_false hk, Bool.false_and, Bool.not_false, Bool.and_true] at h ⊢
  exact h
theorem nest_good {t : VT} (hg : ∀ left, goodT left t = true) : ∀ (j : Nat) (left : Int), 0 ≤ left → goodT left (nestT j t) = decide ((j : Int) ≤ left)
  | 0, left, h => by rw [nestT, hg]; simp; omega
  | j + 1, left, h => by
    rw [nestT, goodT, goodL, goodL, Bool.and_true]
    unfold headB
    by_cases h0 : left = 0
    · subst h0
      simp
    · rw [nest_good hg j (left - 1) (by omega)]
      simp [h0, canon_zero, show (⟨#[]⟩ : ByteArray).toList = [] from toList_mk3 []]
      omega
theorem nest_wf {t : VT} (hw : wfT t) : ∀ j, wfT (nestT j t)
  | 0 => hw
  | j + 1 => node4_wf _ (by rw [wfL, wfL]; exact ⟨nest_wf hw j, trivial⟩)
theorem nest_text (t : VT) : ∀ j, (textT (nestT j t)).length = 2 * j + (textT t).length
  | 0 => by rw [nestT]; omega
  | j + 1 => by
    rw [nestT, node4_text, textsT, tailT, List.append_nil, nest_text t j]
    omega
theorem uintL4 : (uintL 4).length = 1 := by rw [uintL_small (by decide)]; rfl
theorem uintL1 : (uintL 1).length = 1 := by rw [uintL_small (by decide)]; rfl
theorem nest_form (t : VT) : ∀ j, (formT (nestT j t)).length = 2 * j + (formT t).length
  | 0 => by rw [nestT]; omega
  | j + 1 => by
    have e : formT (nestT (j + 1) t) = uintL 4 ++ (uintL 1 ++ (formT (nestT j t) ++ [])) := by
      rw [nestT, formT, if_pos rfl, formsT, formsT]; rfl
    rw [e, List.length_append, List.length_append, List.length_append, uintL4, uintL1, nest_form t j]
    simp
    omega
theorem parse_nest {t : VT} (hg : goodT 8 t = true) (hw : wfT t) : ParseP (textTop t) = (canonT t, true) := by
  have ht : textTop t = textT t := by unfold textTop; rw [if_pos hg]
  have hp := parseP_text t 8 [] hg hw stops_nil
  rw [List.append_nil] at hp
  obtain ⟨c, r, hc, -, -⟩ := textT_head t
  have hx : textTop (canonT t) = textT t := by unfold textTop; rw [canonT_good, if_pos hg, canonT_text]
  rw [ht]
  unfold ParseP
  rw [hp]
  rw [if_pos ⟨by rw [hc]; simp, hx⟩]
/-! ### light payloads -/
theorem zz_uint (n : Int) (hn : -9223372036854775808 ≤ n ∧ n ≤ 9223372036854775807) : (uintL (zz n)).length ≤ 10 := uintL_ten (zz_lt n hn)
theorem light (t : VT) : costT t ≤ 900 → wfT t → (textT t).length + 1 ≤ 104 * costT t ∧ (formT t).length ≤ 30 * costT t := by
  induction t using VT.ind with
  | _ k n f s l ih =>
    intro hc hw
    rw [costT] at hc ⊢
    rw [wfT] at hw
    obtain ⟨hk, hn, hf, hs, hwl⟩ := hw
    have hL : (textsT l).length ≤ 104 * costL l ∧ (formsT l).length ≤ 30 * costL l ∧ l.length ≤ costL l := by
      have h0 : costL l ≤ 900 := by omega
      clear hc
      have htl : ∀ m : List VT, (∀ t ∈ m, costT t ≤ 900 → wfT t → (textT t).length + 1 ≤ 104 * costT t ∧ (formT t).length ≤ 30 * costT t) → wfL m → costL m ≤ 900 → (tailT m).length ≤ 104 * costL m ∧ (formsT m).length ≤ 30 * costL m ∧ m.length ≤ costL m := by
        intro m
        induction m with
        | nil => intro _ _ _; exact ⟨Nat.zero_le _, Nat.zero_le _, Nat.zero_le _⟩
        | cons a m im =>
          intro h hwm hcm
          rw [costL] at hcm ⊢
          rw [wfL] at hwm
          have h1 := h a (by simp) (by omega) hwm.1
          have h2 := im (fun t ht => h t (by simp [ht])) hwm.2 (by omega)
          have h3 : 1 ≤ costT a := by cases a; rw [costT]; omega
          rw [tailT, formsT, List.length_cons, List.length_append, List.length_append, List.length_cons]
          omega
      cases l with
      | nil => exact ⟨Nat.zero_le _, Nat.zero_le _, Nat.zero_le _⟩
      | cons a m =>
        have h := htl (a :: m) ih hwl h0
        rw [tailT, List.length_cons] at h
        rw [textsT]
        exact ⟨by omega, h.2⟩
    have hU : (uintL k.toNat).length ≤ 10 := uintL_ten (by omega)
    have hss : min s.size 1000 = s.size := by omega
    rw [hss] at hc ⊢
    refine ⟨?_, ?_⟩
    · rw [textT]
      split
      · rw [List.length_cons, List.length_append, List.length_singleton]
        omega
      · have ha : (atomT k n f s).length ≤ 101 + 2 * s.size := by
          unfold atomT
          split
          · have := Lib.itoa_length_le n hn.1 hn.2; omega
          · split
            · have := numTextL_small f; rw [List.length_cons]; omega
            · split
              · rw [List.length_append, List.length_cons, hexL_length, bsize, List.length_singleton]; omega
              · show 3 ≤ _; omega
        omega
    · rw [formT, List.length_append]
      split
      · have h2 : (uintL l.length).length ≤ 10 := uintL_ten (by omega)
        rw [List.length_append]
        omega
      · have ha : (atomF k n f s).length ≤ 10 + s.size := by
          unfold atomF
          split
          · have := zz_uint n hn; omega
          · split
            · rw [beN_length]; omega
            · split
              · have h2 : (uintL s.size).length ≤ 10 := uintL_ten (by omega)
                rw [List.length_append, bsize]; omega
              · simp
        omega
theorem few_light {t : VT} (h : fewT t = true) (hw : wfT t) : (textT t).length ≤ 93600 ∧ (formT t).length ≤ 27000 := by
  unfold fewT at h
  rw [Bool.and_eq_true, decide_eq_true_eq] at h
  have := light t h.1 hw
  omega
theorem atom_light {t : VT} (hl : t.l = []) (hw : wfT t) (hc : costT t ≤ 900) (hk : t.k ≠ 4) : (textT t).length ≤ 2000 ∧ (formT t).length ≤ 1000 := by
  obtain ⟨k, n, f, s, l⟩ := t
  simp only [VT.l, VT.k] at hl hk
  subst hl
  rw [costT, costL] at hc
  rw [wfT] at hw
  obtain ⟨hkk, hn, hf, hs, hwl⟩ := hw
  have hU : (uintL k.toNat).length ≤ 10 := uintL_ten (by omega)
  rw [textT, if_neg hk, formT, if_neg hk, List.length_append]
  refine ⟨?_, ?_⟩
  · unfold atomT
    split
    · have := Lib.itoa_length_le n hn.1 hn.2; omega
    · split
      · have := numTextL_small f; rw [List.length_cons]; omega
      · split
        · rw [List.length_append, List.length_cons, hexL_length, bsize, List.length_singleton]; omega
        · show 3 ≤ _; omega
  · unfold atomF
    split
    · have := zz_uint n hn; omega
    · split
      · rw [beN_length]; omega
      · split
        · have h2 : (uintL s.size).length ≤ 10 := uintL_ten (by omega)
          rw [List.length_append, bsize]; omega
        · simp; omega
end Go.Proofs.YtpijpeocdlnhiaaGreatDoor
namespace Go.Proofs.YtpijpeocdlnhiaaGreatDoor
set_option linter.unusedVariables false
set_option linter.unusedSimpArgs false
open Go.RowKit

theorem leaf_any {w : World} {S T : Nat → Prop} {t : VT} {v : VV} (h : TRead w S t v) (hl : t.l = []) : TRead w T t v := by
  obtain ⟨k, n, f, s, l⟩ := t
  simp only [VT.l] at hl
  subst hl
  rw [TRead] at h ⊢
  obtain ⟨h1, h2, h3, h4, h5, h6, vs, h7, -, h8⟩ := h
  rw [TReads] at h8
  subst h8
  exact ⟨h1, h2, h3, h4, h5, h6, [], h7, fun h => absurd rfl h, by rw [TReads]⟩
/-- One list more about a payload: its cells were copied into a new block, and the box of the payload now holds the list. -/
theorem nest_step {w : World} {B : Nat} {t : VT} {v : VV} (h : TRead w (fun b => b ≠ B) t v) (hB : B < w.heap.size) :
    TRead (w.alloc (.cells #[.int .i64 v.k, .int .i64 v.n, .float .f64 v.f, .string v.s, .slice v.a v.l v.c] 26)) (fun b => b ≠ B) (.node 4 0 0 ⟨#[]⟩ [t]) ⟨4, 0, 0, ⟨#[]⟩, some ⟨w.heap.size, 0, none⟩, 1, 1⟩ := by
  rw [TRead]
  refine ⟨rfl, rfl, rfl, rfl, rfl, by show 1 ≤ maxLen; unfold maxLen; omega, [v], Reads.block (heap_alloc_new w _) 1 5 rfl, fun _ ad had => by cases had; show w.heap.size ≠ B; omega, ?_⟩
  rw [TReads]
  refine ⟨v, [], rfl, h.later ((Below.refl _ _).alloc (Nat.le_refl _) _), by rw [TReads]⟩
set_option maxRecDepth 100000 in
set_option maxHeartbeats 4000000 in
theorem valueDepths_any (nb : Nat) (hnb : nb < 256) (t : VT) (v : VV) (w : World) (hv : TRead w (fun _ => True) t v) (hwf : wfT t) (hB : Base w) (hT : Tabs w) :
    Calls Tryz.prog 4 #[.int .u8 nb, v.val] w fun e w' => e = .returned (.bool true) ∧ Below w.heap.size w w' := by
  have HX : Hid ((w.alloc (.cells #[.int .i64 v.k, .int .i64 v.n, .float .f64 v.f, .string v.s, .slice v.a v.l v.c] 26)).heap[w.heap.size]? = some (.cells #[.int .i64 v.k, .int .i64 v.n, .float .f64 v.f, .string v.s, .slice v.a v.l v.c] 26 (0, 0))) := heap_alloc_new w _
  have HBel : Hid (Below w.heap.size w (w.alloc (.cells #[.int .i64 v.k, .int .i64 v.n, .float .f64 v.f, .string v.s, .slice v.a v.l v.c] 26))) := (Below.refl _ _).alloc (Nat.le_refl _) _
  have HF := Lib.hid (few_any t v _ _ (hv.later HBel.out))
  have HVR := Lib.hid (fun W (hb : Below w.heap.size w W) => rvalid_any t v _ W (hv.later hb) hwf)
  have HA := Lib.hid (fun W (hb : Below w.heap.size w W) => valive_any W (hT.later hb))
  have HTR := Lib.hid hv
  have HB := Lib.hid hB
  have HT := Lib.hid hT
  have HVK : Hid (v.k = t.k) := hv.fields.1
  obtain ⟨pk, pn, pf, ps, pa, pl, pc⟩ := v
  dsimp only [VV.val] at *
  clear hv hB hT
  cases hfew : fewT t with
  | false =>
    rw [hfew] at HF
    clear HVR HTR hwf HB HT
    go_enter Tryz.func4, Tryz.ntmps4
    go_upto_region 1 with fail
    generalize w.alloc (.cells #[.int .i64 pk, .int .i64 pn, .float .f64 pf, .string ps, .slice pa pl pc] 26) = wa at *
    obtain ⟨x0, x1, x2, x3, x4⟩ := cells5 HX.out
    go_wp2_with fail
    refine HF.out.mono ?_
    rintro e w2 ⟨rfl, hb2⟩
    have HB2 := Lib.hid (HBel.out.trans (hb2.mono HBel.out.size))
    clear hb2
    go_wp2_with fail
    refine (HA.out _ HB2.out).mono ?_
    rintro e w3 ⟨rfl, hb3⟩
    have HB3 := Lib.hid (HB2.out.trans (hb3.mono HB2.out.size))
    clear hb3
    go_wp2_with fail
    go_ret
    exact ⟨rfl, HB3.out⟩
  | true =>
    rw [hfew] at HF
    by_cases hk4 : pk = 4
    · subst hk4
      clear HVR HTR hwf HB HT
      go_enter Tryz.func4, Tryz.ntmps4
      go_upto_region 1 with fail
      generalize w.alloc (.cells #[.int .i64 4, .int .i64 pn, .float .f64 pf, .string ps, .slice pa pl pc] 26) = wa at *
      obtain ⟨x0, x1, x2, x3, x4⟩ := cells5 HX.out
      go_wp2_with fail
      refine HF.out.mono ?_
      rintro e w2 ⟨rfl, hb2⟩
      have HB2 := Lib.hid (HBel.out.trans (hb2.mono HBel.out.size))
      have HX2 := Lib.hid ((hb2.block _ (lt_of_heap HX.out)).trans HX.out)
      clear hb2 x0 x1 x2 x3 x4
      obtain ⟨x0, x1, x2, x3, x4⟩ := cells5 HX2.out
      go_wp2_with fail
      refine (HA.out _ HB2.out).mono ?_
      rintro e w3 ⟨rfl, hb3⟩
      have HB3 := Lib.hid (HB2.out.trans (hb3.mono HB2.out.size))
      clear hb3
      go_wp2_with fail
      go_ret
      exact ⟨rfl, HB3.out⟩
    · have hq : (pk == 4) = false := by simp [hk4]
      cases hgd : goodT 8 t with
      | false =>
        rw [hgd] at HVR
        clear HTR hwf HB HT
        go_enter Tryz.func4, Tryz.ntmps4
        go_upto_region 1 with fail
        generalize w.alloc (.cells #[.int .i64 pk, .int .i64 pn, .float .f64 pf, .string ps, .slice pa pl pc] 26) = wa at *
        obtain ⟨x0, x1, x2, x3, x4⟩ := cells5 HX.out
        go_wp2_with fail
        refine HF.out.mono ?_
        rintro e w2 ⟨rfl, hb2⟩
        have HB2 := Lib.hid (HBel.out.trans (hb2.mono HBel.out.size))
        have HX2 := Lib.hid ((hb2.block _ (lt_of_heap HX.out)).trans HX.out)
        clear hb2 x0 x1 x2 x3 x4
        obtain ⟨x0, x1, x2, x3, x4⟩ := cells5 HX2.out
        go_wp2_with fail
        refine (HVR.out _ HB2.out).mono ?_
        rintro e w3 ⟨rfl, hb3⟩
        have HB3 := Lib.hid (HB2.out.trans (hb3.mono HB2.out.size))
        clear hb3
        go_wp2_with fail
        refine (HA.out _ HB3.out).mono ?_
        rintro e w4 ⟨rfl, hb4⟩
        have HB4 := Lib.hid (HB3.out.trans (hb4.mono HB3.out.size))
        clear hb4
        go_wp2_with fail
        go_ret
        exact ⟨rfl, HB4.out⟩
      | true =>
        rw [hgd] at HVR
        obtain ⟨hnil, hall⟩ := good_atom (by rw [← HVK.out]; exact hk4) hgd
        have hcost : costT t ≤ 900 := by unfold fewT at hfew; rw [Bool.and_eq_true, decide_eq_true_eq] at hfew; exact hfew.1
        obtain ⟨htx, hfm⟩ := atom_light hnil hwf hcost (by rw [← HVK.out]; exact hk4)
        have HTR2 : Hid (∀ W, Below w.heap.size w W → TRead W (fun b => b ≠ w.heap.size) t ⟨pk, pn, pf, ps, pa, pl, pc⟩) := fun W hW => leaf_any (HTR.out.later hW) hnil
        clear HTR hfew
        go_enter Tryz.func4, Tryz.ntmps4
        go_upto_region 1 with fail
        generalize w.alloc (.cells #[.int .i64 pk, .int .i64 pn, .float .f64 pf, .string ps, .slice pa pl pc] 26) = wa at *
        obtain ⟨x0, x1, x2, x3, x4⟩ := cells5 HX.out
        go_wp2_with fail
        refine HF.out.mono ?_
        rintro e w2 ⟨rfl, hb2⟩
        have HB2 := Lib.hid (HBel.out.trans (hb2.mono HBel.out.size))
        have HX2 := Lib.hid ((hb2.block _ (lt_of_heap HX.out)).trans HX.out)
        clear hb2 x0 x1 x2 x3 x4
        obtain ⟨x0, x1, x2, x3, x4⟩ := cells5 HX2.out
        go_wp2_with fail
        refine (HVR.out _ HB2.out).mono ?_
        rintro e w3 ⟨rfl, hb3⟩
        have HB3 := Lib.hid (HB2.out.trans (hb3.mono HB2.out.size))
        have HX3 := Lib.hid ((hb3.block _ (lt_of_heap HX2.out)).trans HX2.out)
        clear hb3 x0 x1 x2 x3 x4 HF HVR
        obtain ⟨K, hK⟩ : ∃ K, K = nb % 12 := ⟨_, rfl⟩
        have hK0 : ((nb : Int) % 12) = (K : Int) := by omega
        have hK12 : K < 12 := by omega
        clear hK
        have HTR3 := Lib.hid (HTR2.out w3 HB3.out)
        clear HTR2 HX HBel HX2 HB2
        go_wp2_with fail
        go_loopw [29] (fun i w' => ∃ (m : Nat) (vm : VV), i = .int .i64 m ∧ m ≤ K ∧ Hid (w'.heap[w.heap.size]? = some (.cells #[.int .i64 vm.k, .int .i64 vm.n, .float .f64 vm.f, .string vm.s, .slice vm.a vm.l vm.c] 26 (0, 0))) ∧ Hid (TRead w' (fun b => b ≠ w.heap.size) (nestT m t) vm) ∧ Hid (Below w.heap.size w w')) (fun i _ => K - (RowKit.intOf i).toNat)
        case atStart => exact ⟨0, ⟨pk, pn, pf, ps, pa, pl, pc⟩, rfl, Nat.zero_le _, HX3.out, HTR3.out, HB3.out⟩
        case round =>
          obtain ⟨m, vm, rfl, hm, HXm, HTm, HBm⟩ := hrel
          by_cases hlt : m < K
          · obtain ⟨x0, x1, x2, x3, x4⟩ := cells5 HXm.out
            have hrr := lt_of_heap HXm.out
            have hf0 := freeAt HXm.out 0
            have hf1 := freeAt HXm.out 1
            have hf2 := freeAt HXm.out 2
            have hf3 := freeAt HXm.out 3
            have hf4 := freeAt HXm.out 4
            have hoth : ∀ k, k ≠ w.heap.size → (((((wr.setCell ⟨w.heap.size, 0, none⟩ (.int .i64 4)).setCell ⟨w.heap.size, 1, none⟩ (.int .i64 0)).setCell ⟨w.heap.size, 2, none⟩ (.float .f64 0)).setCell ⟨w.heap.size, 3, none⟩ (.string ⟨#[]⟩)).setCell ⟨w.heap.size, 4, none⟩ (.slice (some ⟨wr.heap.size, 0, none⟩) 1 1)).heap[k]? = wr.heap[k]? := fun k hk => setCells_other w.heap.size (VV.cells ⟨4, 0, 0, ⟨#[]⟩, some ⟨wr.heap.size, 0, none⟩, 1, 1⟩) 0 wr k hk
            have hsz : (((((wr.setCell ⟨w.heap.size, 0, none⟩ (.int .i64 4)).setCell ⟨w.heap.size, 1, none⟩ (.int .i64 0)).setCell ⟨w.heap.size, 2, none⟩ (.float .f64 0)).setCell ⟨w.heap.size, 3, none⟩ (.string ⟨#[]⟩)).setCell ⟨w.heap.size, 4, none⟩ (.slice (some ⟨wr.heap.size, 0, none⟩) 1 1)).heap.size = wr.heap.size := setCells_size w.heap.size (VV.cells ⟨4, 0, 0, ⟨#[]⟩, some ⟨wr.heap.size, 0, none⟩, 1, 1⟩) 0 wr
            have HT4 := Lib.hid (nest_step (HTm.out.frame (fun k hk _ => hoth k hk)) (by rw [hsz]; exact hrr))
            rw [hsz] at HT4
            have HX4 := Lib.hid (set5 HXm.out rfl (.int .i64 4) (.int .i64 0) (.float .f64 0) (.string ⟨#[]⟩) (.slice (some ⟨wr.heap.size, 0, none⟩) 1 1))
            have HB4 := Lib.hid (bel5 HBm.out (Nat.le_refl _) (.int .i64 4) (.int .i64 0) (.float .f64 0) (.string ⟨#[]⟩) (.slice (some ⟨wr.heap.size, 0, none⟩) 1 1))
            clear hoth hsz
            go_wp2_with fail
            go_roundw
            case rel => exact ⟨m + 1, ⟨4, 0, 0, ⟨#[]⟩, some ⟨wr.heap.size, 0, none⟩, 1, 1⟩, by go_num, by omega, (Below.heap_alloc _ _ _ (lt_of_heap HX4.out)).trans HX4.out, HT4.out, HB4.out.alloc HB4.out.size _⟩
            case measure => simp [RowKit.intOf]; omega
          · obtain rfl : m = K := by omega
            have hgT := nest_good hall m 8 (by omega)
            have hwT := nest_wf hwf m
            have hxT := nest_text t m
            have hfT := nest_form t m
            obtain ⟨T, hTT⟩ : ∃ T, T = nestT m t := ⟨_, rfl⟩
            rw [← hTT] at hgT hwT hxT hfT HTm
            have hfl : (formT T).length ≤ 1000000 := by omega
            have hxl : (textT T).length ≤ 2100 := by omega
            have HBY := Lib.hid (fun W (hb : Below wr.heap.size wr W) => vbytes_any T vm _ W (HTm.out.later hb) hwT (fun _ => hfl))
            have HTX := Lib.hid (fun W (hb : Below wr.heap.size wr W) => vtop_any T vm _ W (HTm.out.later hb) hwT (fun _ => by omega) (HT.out.later (HBm.out.trans (hb.mono HBm.out.size))))
            have HVV := Lib.hid (fun W (hb : Below wr.heap.size wr W) => valid_any T vm _ W (HTm.out.later hb) hwT)
            have HTW := Lib.hid hwT
            have HAA := Lib.hid (fun W (hb : Below wr.heap.size wr W) => HA.out W (HBm.out.trans (hb.mono HBm.out.size)))
            obtain ⟨uk, un, uf, us, ua, ul, uc⟩ := vm
            dsimp only [VV.val] at *
            unfold BytesTop at HBY
            clear hTT hwf hall hnil hcost htx hfm HA hgd hxT hfT hfl hwT HTR3 HX3 HB3
            by_cases hm8 : m ≤ 8
            · have hg : goodT 8 T = true := by rw [hgT]; simp; omega
              have HGT := Lib.hid hg
              have hgt : ¬ (m : Int) > 8 := by omega
              rw [hg] at HVV
              simp only [hg, if_true] at HBY
              have hpn := parse_nest hg HTW.out
              have hsx : (⟨(textTop T).toArray⟩ : ByteArray).size ≤ 9000 := by
                have e : textTop T = textT T := by unfold textTop; rw [if_pos hg]
                rw [e, mk_size]; omega
              have HPT := Lib.hid (fun W (hb : Below wr.heap.size wr W) => ptop_any (⟨(textTop T).toArray⟩ : ByteArray) hsx W (HB.out.later (HBm.out.trans (hb.mono HBm.out.size))) (HT.out.later (HBm.out.trans (hb.mono HBm.out.size))))
              rw [show (⟨(textTop T).toArray⟩ : ByteArray).data.toList = textTop T from rfl, hpn] at HPT
              obtain ⟨tx, htx⟩ : ∃ tx : ByteArray, tx = ⟨(textTop T).toArray⟩ := ⟨_, rfl⟩
              rw [← htx] at HTX HPT
              have HSM : Hid (sameT (canonT T) T = true) := sameT_canon _ _ (canonT_idem T)
              clear hg hgT hpn hsx htx
              obtain ⟨x0, x1, x2, x3, x4⟩ := cells5 HXm.out
              go_wp2_with fail
              refine (HBY.out _ (Below.refl _ _)).mono ?_
              rintro e w4 ⟨⟨ba, bc, rfl, hbr⟩, hb4⟩
              have HB4 := Lib.hid hb4
              have HX4 := Lib.hid ((hb4.block _ (lt_of_heap HXm.out)).trans HXm.out)
              clear hb4 hbr x0 x1 x2 x3 x4
              obtain ⟨x0, x1, x2, x3, x4⟩ := cells5 HX4.out
              go_wp2_with fail
              refine (HTX.out _ HB4.out).mono ?_
              rintro e w5 ⟨rfl, hb5⟩
              have HB5 := Lib.hid (HB4.out.trans (hb5.mono HB4.out.size))
              have HX5 := Lib.hid ((hb5.block _ (lt_of_heap HX4.out)).trans HX4.out)
              clear hb5 x0 x1 x2 x3 x4
              go_wp2_with fail
              refine (HPT.out _ HB5.out).mono ?_
              rintro e w6 ⟨⟨y, rfl, hy⟩, hb6⟩
              have HB6 := Lib.hid (HB5.out.trans (hb6.mono HB5.out.size))
              have HX6 := Lib.hid ((hb6.block _ (lt_of_heap HX5.out)).trans HX5.out)
              have HY6 := Lib.hid hy.read
              clear hb6 hy
              obtain ⟨yk, yn, yf, ys, ya, yl, yc⟩ := y
              dsimp only [VV.val] at *
              go_upto_region 13 with fail
              have HYX : Hid ((w6.alloc (.cells #[.int .i64 yk, .int .i64 yn, .float .f64 yf, .string ys, .slice ya yl yc] 26)).heap[w6.heap.size]? = some (.cells #[.int .i64 yk, .int .i64 yn, .float .f64 yf, .string ys, .slice ya yl yc] 26 (0, 0))) := heap_alloc_new w6 _
              have HX7 : Hid ((w6.alloc (.cells #[.int .i64 yk, .int .i64 yn, .float .f64 yf, .string ys, .slice ya yl yc] 26)).heap[w.heap.size]? = some (.cells #[.int .i64 uk, .int .i64 un, .float .f64 uf, .string us, .slice ua ul uc] 26 (0, 0))) := (Below.heap_alloc _ _ _ (lt_of_heap HX6.out)).trans HX6.out
              have HB7 : Hid (Below wr.heap.size wr (w6.alloc (.cells #[.int .i64 yk, .int .i64 yn, .float .f64 yf, .string ys, .slice ya yl yc] 26))) := HB6.out.alloc HB6.out.size _
              have HY7 := Lib.hid (HY6.out.later ((Below.refl _ w6).alloc (Nat.le_refl _) (.cells #[.int .i64 yk, .int .i64 yn, .float .f64 yf, .string ys, .slice ya yl yc] 26)))
              generalize w6.alloc (.cells #[.int .i64 yk, .int .i64 yn, .float .f64 yf, .string ys, .slice ya yl yc] 26) = w7 at *
              go_wp2_with fail
              refine (HAA.out _ HB7.out).mono ?_
              rintro e w8 ⟨rfl, hb8⟩
              have HB8 := Lib.hid (HB7.out.trans (hb8.mono HB7.out.size))
              have HX8 := Lib.hid ((hb8.block _ (lt_of_heap HX7.out)).trans HX7.out)
              have HYX8 := Lib.hid ((hb8.block _ (lt_of_heap HYX.out)).trans HYX.out)
              have HY8 := Lib.hid (HY7.out.later hb8)
              clear hb8
              obtain ⟨x0, x1, x2, x3, x4⟩ := cells5 HX8.out
              go_wp2_with fail
              refine (HVV.out _ HB8.out).mono ?_
              rintro e w9 ⟨rfl, hb9⟩
              have HB9 := Lib.hid (HB8.out.trans (hb9.mono HB8.out.size))
              have HX9 := Lib.hid ((hb9.block _ (lt_of_heap HX8.out)).trans HX8.out)
              have HYX9 := Lib.hid ((hb9.block _ (lt_of_heap HYX8.out)).trans HYX8.out)
              have HSA := Lib.hid (same_any (canonT T) T _ _ _ _ w9 (HY8.out.later hb9) (HTm.out.later HB9.out))
              rw [HSM.out] at HSA
              simp only [VV.val] at HSA
              clear hb9 x0 x1 x2 x3 x4
              obtain ⟨x0, x1, x2, x3, x4⟩ := cells5 HX9.out
              obtain ⟨y0, y1, y2, y3, y4⟩ := cells5 HYX9.out
              go_wp2_with fail
              refine HSA.out.mono ?_
              rintro e w10 ⟨rfl, hb10⟩
              have HB10 := Lib.hid (HBm.out.trans ((HB9.out.trans (hb10.mono HB9.out.size)).mono HBm.out.size))
              clear hb10
              go_wp2_with fail
              go_ret
              exact ⟨rfl, HB10.out⟩
            · have hg : goodT 8 T = false := by rw [hgT]; simp; omega
              have hgt : (m : Int) > 8 := by omega
              rw [hg] at HVV
              simp only [hg, if_false] at HBY
              have htt : textTop T = [] := by unfold textTop; rw [hg]; rfl
              rw [htt] at HTX
              clear hg hgT htt
              obtain ⟨x0, x1, x2, x3, x4⟩ := cells5 HXm.out
              go_wp2_with fail
              refine (HBY.out _ (Below.refl _ _)).mono ?_
              rintro e w4 ⟨rfl, hb4⟩
              have HB4 := Lib.hid hb4
              have HX4 := Lib.hid ((hb4.block _ (lt_of_heap HXm.out)).trans HXm.out)
              clear hb4 x0 x1 x2 x3 x4
              obtain ⟨x0, x1, x2, x3, x4⟩ := cells5 HX4.out
              go_wp2_with fail
              refine (HTX.out _ HB4.out).mono ?_
              rintro e w5 ⟨rfl, hb5⟩
              have HB5 := Lib.hid (HB4.out.trans (hb5.mono HB4.out.size))
              have HX5 := Lib.hid ((hb5.block _ (lt_of_heap HX4.out)).trans HX4.out)
              clear hb5 x0 x1 x2 x3 x4
              go_wp2_with fail
              refine (HAA.out _ HB5.out).mono ?_
              rintro e w6 ⟨rfl, hb6⟩
              have HB6 := Lib.hid (HB5.out.trans (hb6.mono HB5.out.size))
              have HX6 := Lib.hid ((hb6.block _ (lt_of_heap HX5.out)).trans HX5.out)
              clear hb6
              obtain ⟨x0, x1, x2, x3, x4⟩ := cells5 HX6.out
              go_wp2_with fail
              refine (HVV.out _ HB6.out).mono ?_
              rintro e w7 ⟨rfl, hb7⟩
              have HB7 := Lib.hid (HBm.out.trans ((HB6.out.trans (hb7.mono HB6.out.size)).mono HBm.out.size))
              clear hb7
              go_wp2_with fail
              go_ret
              exact ⟨rfl, HB7.out⟩
end Go.Proofs.YtpijpeocdlnhiaaGreatDoor
namespace Go.Proofs.YtpijpeocdlnhiaaGreatDoor
set_option linter.unusedVariables false
set_option linter.unusedSimpArgs false
open Go.RowKit

theorem few_cost {t : VT} (h : fewT t = true) : costT t ≤ 900 := by
  unfold fewT at h
  rw [Bool.and_eq_true, decide_eq_true_eq] at h
  exact h.1
theorem parseP_of_text {t : VT} (hg : goodT 8 t = true) (hw : wfT t) : (parseP 8 (textTop t)).1 = canonT t := by
  have ht : textTop t = textT t := by unfold textTop; rw [if_pos hg]
  have hp := parseP_text t 8 [] hg hw stops_nil
  rw [List.append_nil] at hp
  rw [ht, hp]
set_option maxRecDepth 100000 in
set_option maxHeartbeats 4000000 in
theorem forms_bad (t : VT) (v : VV) (w : World) (hv : TRead w (fun _ => True) t v) (hwf : wfT t) (hB : Base w) (hT : Tabs w) (hfew : fewT t = true) (hg : goodT 8 t = false) :
    Calls Tryz.prog 5 #[v.val] w fun e w' => e = .returned (.bool true) ∧ Below w.heap.size w w' := by
  have HX : Hid ((w.alloc (.cells #[.int .i64 v.k, .int .i64 v.n, .float .f64 v.f, .string v.s, .slice v.a v.l v.c] 26)).heap[w.heap.size]? = some (.cells #[.int .i64 v.k, .int .i64 v.n, .float .f64 v.f, .string v.s, .slice v.a v.l v.c] 26 (0, 0))) := heap_alloc_new w _
  have HBel : Hid (Below w.heap.size w (w.alloc (.cells #[.int .i64 v.k, .int .i64 v.n, .float .f64 v.f, .string v.s, .slice v.a v.l v.c] 26))) := (Below.refl _ _).alloc (Nat.le_refl _) _
  have hno : goodT 8 t = true → False := fun h => by rw [hg] at h; cases h
  have hct : countT t ≤ 1000000 := by have := count_cost t; have := few_cost hfew; omega
  have HF := Lib.hid (few_any t v _ _ (hv.later HBel.out))
  have HA := Lib.hid (fun W (hb : Hid (Below w.heap.size w W)) => valive_any W (hT.later hb.out))
  have HBY := Lib.hid (fun W (hb : Hid (Below w.heap.size w W)) => vbytes_any t v _ W (hv.later hb.out) hwf (fun h => (hno h).elim))
  have HRB := Lib.hid (fun W (hb : Hid (Below w.heap.size w W)) => rbytesT_any t v _ W (hv.later hb.out) hwf (fun h => (hno h).elim))
  have HTX := Lib.hid (fun W (hb : Hid (Below w.heap.size w W)) => vtop_any t v _ W (hv.later hb.out) hwf (fun h => (hno h).elim) (hT.later hb.out))
  have HRT := Lib.hid (fun W (hb : Hid (Below w.heap.size w W)) => rtop_any t v _ W (hv.later hb.out) hwf (fun h => (hno h).elim))
  have HVA := Lib.hid (fun W (hb : Hid (Below w.heap.size w W)) => valid_any t v _ W (hv.later hb.out) hwf)
  have HC1 := Lib.hid (fun W (hb : Hid (Below w.heap.size w W)) => vcount_any t v _ W (hv.later hb.out) hct)
  have HC2 := Lib.hid (fun W (hb : Hid (Below w.heap.size w W)) => rcount_any t v _ W (hv.later hb.out) hct)
  have HEQ : Hid (∀ W, Calls Tryz.prog 20 #[.slice none 0 0, .slice none 0 0] W fun e w' => e = .returned (.bool true) ∧ Below W.heap.size W w') := fun W => bequal_any none none 0 0 [] [] W (Reads.nil _ _) (Reads.nil _ _) (Nat.zero_le _) (Nat.zero_le _)
  have htt : textTop t = [] := by unfold textTop; rw [hg]; rfl
  unfold BytesTop at HBY HRB
  rw [hfew] at HF
  simp only [hg, htt] at HBY HRB HVA HTX HRT
  simp only [Bool.false_eq_true, if_false] at HBY HRB
  obtain ⟨pk, pn, pf, ps, pa, pl, pc⟩ := v
  dsimp only [VV.val] at *
  generalize countT t = n at *
  clear hv hwf hB hT hfew hg hno hct htt
  go_enter Tryz.func5, Tryz.ntmps5
  go_upto_region 1 with fail
  generalize w.alloc (.cells #[.int .i64 pk, .int .i64 pn, .float .f64 pf, .string ps, .slice pa pl pc] 26) = wa at *
  obtain ⟨x0, x1, x2, x3, x4⟩ := cells5 HX.out
  go_wp2_with fail
  refine HF.out.mono ?_
  rintro e w2 ⟨rfl, hb2⟩
  have HB2 := bel_stepT HBel hb2
  have HX2 := Lib.hid ((hb2.block _ (lt_of_heap HX.out)).trans HX.out)
  clear hb2 x0 x1 x2 x3 x4
  obtain ⟨x0, x1, x2, x3, x4⟩ := cells5 HX2.out
  go_wp2_with fail
  refine (HBY.out _ HB2).mono ?_
  rintro e w3 ⟨rfl, hb3⟩
  have HB3 := bel_stepT HB2 hb3
  have HX3 := Lib.hid ((hb3.block _ (lt_of_heap HX2.out)).trans HX2.out)
  clear hb3 x0 x1 x2 x3 x4
  obtain ⟨x0, x1, x2, x3, x4⟩ := cells5 HX3.out
  go_wp2_with fail
  refine (HRB.out _ HB3).mono ?_
  rintro e w4 ⟨rfl, hb4⟩
  have HB4 := bel_stepT HB3 hb4
  have HX4 := Lib.hid ((hb4.block _ (lt_of_heap HX3.out)).trans HX3.out)
  clear hb4 x0 x1 x2 x3 x4
  obtain ⟨x0, x1, x2, x3, x4⟩ := cells5 HX4.out
  go_wp2_with fail
  refine (HTX.out _ HB4).mono ?_
  rintro e w5 ⟨rfl, hb5⟩
  have HB5 := bel_stepT HB4 hb5
  have HX5 := Lib.hid ((hb5.block _ (lt_of_heap HX4.out)).trans HX4.out)
  clear hb5 x0 x1 x2 x3 x4
  go_upto_region 6 with fail
  have HKS : Hid (∀ w', Hid (Below w5.heap.size w5 w') → (w'.cell? ⟨w.heap.size, 0, none⟩ = some (.int .i64 pk) ∧ w'.cell? ⟨w.heap.size, 1, none⟩ = some (.int .i64 pn) ∧ w'.cell? ⟨w.heap.size, 2, none⟩ = some (.float .f64 pf) ∧ w'.cell? ⟨w.heap.size, 3, none⟩ = some (.string ps) ∧ w'.cell? ⟨w.heap.size, 4, none⟩ = some (.slice pa pl pc))) := fun w' hb => cells5 ((hb.out.block _ (lt_of_heap HX5.out)).trans HX5.out)
  have HUP : Hid (∀ W, Hid (Below w5.heap.size w5 W) → Hid (Below w.heap.size w W)) := fun W hW => HB5.out.trans (hW.out.mono HB5.out.size)
  have HB50 : Hid (Below w5.heap.size w5 w5.drew) := (Below.refl _ _).drew
  have HB500 : Hid (Below w5.heap.size w5 w5) := Below.refl _ _
  go_region_held3 (fun w' => w'.cell? ⟨w.heap.size, 0, none⟩ = some (.int .i64 pk) ∧ w'.cell? ⟨w.heap.size, 1, none⟩ = some (.int .i64 pn) ∧ w'.cell? ⟨w.heap.size, 2, none⟩ = some (.float .f64 pf) ∧ w'.cell? ⟨w.heap.size, 3, none⟩ = some (.string ps) ∧ w'.cell? ⟨w.heap.size, 4, none⟩ = some (.slice pa pl pc)) (exact HKS.out _ (by assumption))
    (first
    | (go_at_call 16; refine (HVA.out _ (HUP.out _ (by assumption))).mono ?_; rintro e wv ⟨rfl, hbv⟩
       have HBv := bel_stepT (w0 := w5) (by assumption) hbv
       clear hbv)
    | (go_at_call 18; refine (HC1.out _ (HUP.out _ (by assumption))).mono ?_; rintro e wc1 ⟨rfl, hbc⟩
       have HBc := bel_stepT (w0 := w5) (by assumption) hbc
       clear hbc)
    | (go_at_call 19; refine (HC2.out _ (HUP.out _ (by assumption))).mono ?_; rintro e wc2 ⟨rfl, hbd⟩
       have HBd := bel_stepT (w0 := w5) (by assumption) hbd
       clear hbd)
    | (go_at_call 20; refine (HEQ.out _).mono ?_; rintro e we ⟨rfl, hbe⟩
       have HBe := bel_stepT (w0 := w5) (by assumption) hbe
       clear hbe)
    | (go_at_call 21; refine (HRT.out _ (HUP.out _ (by assumption))).mono ?_; rintro e wt ⟨rfl, hbt⟩
       have HBt := bel_stepT (w0 := w5) (by assumption) hbt
       clear hbt)
    | fail)
  all_goals
    go_wp2_with fail
    refine (HA.out _ (HUP.out _ (by assumption))).mono ?_
    rintro e w9 ⟨rfl, hb9⟩
    have HB9 := bel_stepT (w0 := w) (HUP.out _ (by assumption)) hb9
    clear hb9
    go_wp2_with fail
    go_ret
    exact ⟨rfl, HB9.out⟩
set_option maxRecDepth 100000 in
set_option maxHeartbeats 4000000 in
theorem forms_good (t : VT) (v : VV) (w : World) (hv : TRead w (fun _ => True) t v) (hwf : wfT t) (hB : Base w) (hT : Tabs w) (hfew : fewT t = true) (hg : goodT 8 t = true) :
    Calls Tryz.prog 5 #[v.val] w fun e w' => e = .returned (.bool true) ∧ Below w.heap.size w w' := by
  have HX : Hid ((w.alloc (.cells #[.int .i64 v.k, .int .i64 v.n, .float .f64 v.f, .string v.s, .slice v.a v.l v.c] 26)).heap[w.heap.size]? = some (.cells #[.int .i64 v.k, .int .i64 v.n, .float .f64 v.f, .string v.s, .slice v.a v.l v.c] 26 (0, 0))) := heap_alloc_new w _
  have HBel : Hid (Below w.heap.size w (w.alloc (.cells #[.int .i64 v.k, .int .i64 v.n, .float .f64 v.f, .string v.s, .slice v.a v.l v.c] 26))) := (Below.refl _ _).alloc (Nat.le_refl _) _
  obtain ⟨htl, hfl⟩ := few_light hfew hwf
  have hct : countT t ≤ 1000000 := by have := count_cost t; have := few_cost hfew; omega
  have HF := Lib.hid (few_any t v _ _ (hv.later HBel.out))
  have HA := Lib.hid (fun W (hb : Hid (Below w.heap.size w W)) => valive_any W (hT.later hb.out))
  have HBY := Lib.hid (fun W (hb : Hid (Below w.heap.size w W)) => vbytes_any t v _ W (hv.later hb.out) hwf (fun _ => by omega))
  have HRB := Lib.hid (fun W (hb : Hid (Below w.heap.size w W)) => rbytesT_any t v _ W (hv.later hb.out) hwf (fun _ => by omega))
  have HTX := Lib.hid (fun W (hb : Hid (Below w.heap.size w W)) => vtop_any t v _ W (hv.later hb.out) hwf (fun _ => by omega) (hT.later hb.out))
  have HRT := Lib.hid (fun W (hb : Hid (Below w.heap.size w W)) => rtop_any t v _ W (hv.later hb.out) hwf (fun _ => by omega))
  have HVA := Lib.hid (fun W (hb : Hid (Below w.heap.size w W)) => valid_any t v _ W (hv.later hb.out) hwf)
  have HC1 := Lib.hid (fun W (hb : Hid (Below w.heap.size w W)) => vcount_any t v _ W (hv.later hb.out) hct)
  have HC2 := Lib.hid (fun W (hb : Hid (Below w.heap.size w W)) => rcount_any t v _ W (hv.later hb.out) hct)
  have HEQ : Hid (∀ (W : World) (a1 a2 : Option Addr) (c1 c2 : Nat), Reads W (.slice a1 (formT t).length c1) (formT t).length 1 (byts (formT t)) → Reads W (.slice a2 (formT t).length c2) (formT t).length 1 (byts (formT t)) → Calls Tryz.prog 20 #[.slice a1 (formT t).length c1, .slice a2 (formT t).length c2] W fun e w' => e = .returned (.bool true) ∧ Below W.heap.size W w') := fun W a1 a2 c1 c2 h1 h2 => by
    have h := bequal_any a1 a2 c1 c2 (formT t) (formT t) W h1 h2 (by omega) (by omega)
    rw [decide_eq_true rfl] at h
    exact h
  have HNW : Hid (∀ (W : World) (a1 : Option Addr) (c1 : Nat), Reads W (.slice a1 (formT t).length c1) (formT t).length 1 (byts (formT t)) → Calls Tryz.prog 22 #[.slice a1 (formT t).length c1] W fun e w' => ∃ R, e = .returned (.pointer (some ⟨R, 0, none⟩)) ∧ W.heap.size ≤ R ∧ Rdr w' R (formT t) ∧ Below W.heap.size W w') := fun W a1 c1 h1 => bnew_any a1 c1 (formT t) W h1 (by omega)
  have HRD : Hid (∀ (R : Nat) (W : World), Rdr W R (formT t) → Calls Tryz.prog 23 #[.pointer (some ⟨R, 0, none⟩)] W (ReadPost W R (canonT t) [])) := fun R W h => vreadTop_any t hg hwf R W (by omega) h
  have htt : textTop t = textT t := by unfold textTop; rw [if_pos hg]
  have HPT : Hid (∀ W, Hid (Below w.heap.size w W) → Calls Tryz.prog 9 #[.string ⟨(textTop t).toArray⟩] W (TopPost W (canonT t, true))) := fun W hW => by
    have h := ptop_gen (⟨(textTop t).toArray⟩ : ByteArray) (by rw [htt, mk_size]; omega) (by
      show (textT (parseP 8 (textTop t)).1).length ≤ _
      rw [parseP_of_text hg hwf, canonT_text]; omega) W (hB.later hW.out) (hT.later hW.out)
    rw [show (⟨(textTop t).toArray⟩ : ByteArray).data.toList = textTop t from rfl, parse_nest hg hwf] at h
    exact h
  have HSM : Hid (sameT (canonT t) t = true) := sameT_canon _ _ (canonT_idem t)
  have HSA : Hid (∀ (x : VV) (S : Nat → Prop) (W : World), Hid (Below w.heap.size w W) → TRead W S (canonT t) x → Calls Tryz.prog 11 #[x.val, v.val] W fun e w' => e = .returned (.bool true) ∧ Below W.heap.size W w') := fun x S W hW hx => by
    have h := same_any (canonT t) t x v S _ W hx (hv.later hW.out)
    rw [HSM.out] at h
    exact h
  unfold BytesTop at HBY HRB
  rw [hfew] at HF
  simp only [hg, if_true] at HBY HRB HVA
  obtain ⟨tx, htx⟩ : ∃ tx : ByteArray, tx = ⟨(textTop t).toArray⟩ := ⟨_, rfl⟩
  rw [← htx] at HTX HRT HPT
  have hq2 : (tx.toList != tx.toList) = false := by simp
  obtain ⟨pk, pn, pf, ps, pa, pl, pc⟩ := v
  dsimp only [VV.val] at *
  generalize countT t = n at *
  generalize formT t = L at *
  generalize canonT t = u at *
  clear hv hwf hB hT hfew hg hct htt htx htl hfl HSM
  go_enter Tryz.func5, Tryz.ntmps5
  go_upto_region 1 with fail
  generalize w.alloc (.cells #[.int .i64 pk, .int .i64 pn, .float .f64 pf, .string ps, .slice pa pl pc] 26) = wa at *
  obtain ⟨x0, x1, x2, x3, x4⟩ := cells5 HX.out
  go_wp2_with fail
  refine HF.out.mono ?_
  rintro e w2 ⟨rfl, hb2⟩
  have HB2 := bel_stepT HBel hb2
  have HX2 := Lib.hid ((hb2.block _ (lt_of_heap HX.out)).trans HX.out)
  clear hb2 x0 x1 x2 x3 x4
  obtain ⟨x0, x1, x2, x3, x4⟩ := cells5 HX2.out
  go_wp2_with fail
  refine (HBY.out _ HB2).mono ?_
  rintro e w3 ⟨⟨a1, c1, rfl, hr1⟩, hb3⟩
  have HY1 := Lib.hid hr1.reads
  clear hr1
  have HB3 := bel_stepT HB2 hb3
  have HX3 := Lib.hid ((hb3.block _ (lt_of_heap HX2.out)).trans HX2.out)
  clear hb3 x0 x1 x2 x3 x4
  obtain ⟨x0, x1, x2, x3, x4⟩ := cells5 HX3.out
  go_wp2_with fail
  refine (HRB.out _ HB3).mono ?_
  rintro e w4 ⟨⟨a2, c2, rfl, hr2⟩, hb4⟩
  have HY14 := Lib.hid (HY1.out.later hb4)
  have HY2 := Lib.hid hr2.reads
  clear hr2 HY1
  have HB4 := bel_stepT HB3 hb4
  have HX4 := Lib.hid ((hb4.block _ (lt_of_heap HX3.out)).trans HX3.out)
  clear hb4 x0 x1 x2 x3 x4
  obtain ⟨x0, x1, x2, x3, x4⟩ := cells5 HX4.out
  go_wp2_with fail
  refine (HTX.out _ HB4).mono ?_
  rintro e w5 ⟨rfl, hb5⟩
  have HB5 := bel_stepT HB4 hb5
  have HY15 := Lib.hid (HY14.out.later hb5)
  have HY25 := Lib.hid (HY2.out.later hb5)
  clear HY14 HY2
  have HX5 := Lib.hid ((hb5.block _ (lt_of_heap HX4.out)).trans HX4.out)
  clear hb5 x0 x1 x2 x3 x4
  go_upto_region 6 with fail
  have HKS : Hid (∀ w', Hid (Below w5.heap.size w5 w') → (w'.cell? ⟨w.heap.size, 0, none⟩ = some (.int .i64 pk) ∧ w'.cell? ⟨w.heap.size, 1, none⟩ = some (.int .i64 pn) ∧ w'.cell? ⟨w.heap.size, 2, none⟩ = some (.float .f64 pf) ∧ w'.cell? ⟨w.heap.size, 3, none⟩ = some (.string ps) ∧ w'.cell? ⟨w.heap.size, 4, none⟩ = some (.slice pa pl pc))) := fun w' hb => cells5 ((hb.out.block _ (lt_of_heap HX5.out)).trans HX5.out)
  have HUP : Hid (∀ W, Hid (Below w5.heap.size w5 W) → Hid (Below w.heap.size w W)) := fun W hW => HB5.out.trans (hW.out.mono HB5.out.size)
  have HUN : Hid (∀ W, Hid (Below w5.heap.size w5 W) → Below w5.heap.size w5 W) := fun W h => h.out
  have HB50 : Hid (Below w5.heap.size w5 w5.drew) := (Below.refl _ _).drew
  have HB500 : Hid (Below w5.heap.size w5 w5) := Below.refl _ _
  go_region_held3 (fun w' => w'.cell? ⟨w.heap.size, 0, none⟩ = some (.int .i64 pk) ∧ w'.cell? ⟨w.heap.size, 1, none⟩ = some (.int .i64 pn) ∧ w'.cell? ⟨w.heap.size, 2, none⟩ = some (.float .f64 pf) ∧ w'.cell? ⟨w.heap.size, 3, none⟩ = some (.string ps) ∧ w'.cell? ⟨w.heap.size, 4, none⟩ = some (.slice pa pl pc)) (exact HKS.out _ (by assumption))
    (first
    | (go_at_call 16; refine (HVA.out _ (HUP.out _ (by assumption))).mono ?_; rintro e wv ⟨rfl, hbv⟩
       have HBv := bel_stepT (w0 := w5) (by assumption) hbv
       clear hbv)
    | (go_at_call 18; refine (HC1.out _ (HUP.out _ (by assumption))).mono ?_; rintro e wc1 ⟨rfl, hbc⟩
       have HBc := bel_stepT (w0 := w5) (by assumption) hbc
       clear hbc)
    | (go_at_call 19; refine (HC2.out _ (HUP.out _ (by assumption))).mono ?_; rintro e wc2 ⟨rfl, hbd⟩
       have HBd := bel_stepT (w0 := w5) (by assumption) hbd
       clear hbd)
    | (go_at_call 20; refine (HEQ.out _ _ _ _ _ (HY15.out.later (HUN.out _ (by assumption))) (HY25.out.later (HUN.out _ (by assumption)))).mono ?_; rintro e we ⟨rfl, hbe⟩
       have HBe := bel_stepT (w0 := w5) (by assumption) hbe
       clear hbe)
    | (go_at_call 21; refine (HRT.out _ (HUP.out _ (by assumption))).mono ?_; rintro e wt ⟨rfl, hbt⟩
       have HBt := bel_stepT (w0 := w5) (by assumption) hbt
       clear hbt)
    | fail)
  have HW6 := HUP.out _ HBt
  have HX6 := Lib.hid ((HBt.out.block _ (lt_of_heap HX5.out)).trans HX5.out)
  have HN6 := Lib.hid (HNW.out _ _ _ (HY15.out.later HBt.out))
  clear HY15 HY25 HEQ HVA HC1 HC2 HRT HTX HBY HRB HKS HB50 HB500 HUN
  go_wp2_with fail
  refine HN6.out.mono ?_
  rintro e w7 ⟨R, rfl, hRs, hrd, hb7⟩
  have hw6 := lt_of_heap HX6.out
  have HB7 := bel_stepT (w0 := w) HW6 hb7
  have HX7 := Lib.hid ((hb7.block _ (lt_of_heap HX6.out)).trans HX6.out)
  have HR7 := Lib.hid (HRD.out R w7 hrd)
  have hRw : w.heap.size < R := by omega
  clear hrd hb7
  go_wp2_with fail
  refine HR7.out.mono ?_
  rintro e w8 ⟨⟨x, rfl, hx⟩, hrd8, hc8⟩
  have HB8 : Hid (Below w.heap.size w w8) := HB7.out.trans (hc8.toBelow (B := w.heap.size) HB7.out.size (fun n hn e => by omega))
  have HX8 := Lib.hid (hc8.heap HX7.out (by omega))
  have HT8 := Lib.hid hx.read
  have HD8 := Lib.hid hrd8
  clear hx hrd8 hc8
  obtain ⟨xk, xn, xf, xs, xa, xl, xc⟩ := x
  dsimp only [VV.val] at *
  go_upto_region 12 with fail
  have HXx : Hid ((w8.alloc (.cells #[.int .i64 xk, .int .i64 xn, .float .f64 xf, .string xs, .slice xa xl xc] 26)).heap[w8.heap.size]? = some (.cells #[.int .i64 xk, .int .i64 xn, .float .f64 xf, .string xs, .slice xa xl xc] 26 (0, 0))) := heap_alloc_new w8 _
  have hb9 : Below w8.heap.size w8 (w8.alloc (.cells #[.int .i64 xk, .int .i64 xn, .float .f64 xf, .string xs, .slice xa xl xc] 26)) := (Below.refl _ _).alloc (Nat.le_refl _) _
  have HB9 := bel_stepT (w0 := w) HB8 hb9
  have HX9 := Lib.hid ((hb9.block _ (lt_of_heap HX8.out)).trans HX8.out)
  have HT9 := Lib.hid (HT8.out.later hb9)
  have HD9 := Lib.hid (HD8.out.later hb9)
  clear hb9
  generalize w8.alloc (.cells #[.int .i64 xk, .int .i64 xn, .float .f64 xf, .string xs, .slice xa xl xc] 26) = w9 at *
  go_wp2_with fail
  refine (HPT.out _ HB9).mono ?_
  rintro e w10 ⟨⟨y, rfl, hy⟩, hb10⟩
  have HB10 := bel_stepT (w0 := w) HB9 hb10
  have HX10 := Lib.hid ((hb10.block _ (lt_of_heap HX9.out)).trans HX9.out)
  have HXx10 := Lib.hid ((hb10.block _ (lt_of_heap HXx.out)).trans HXx.out)
  have HT10 := Lib.hid (HT9.out.later hb10)
  have HD10 := Lib.hid (HD9.out.later hb10)
  have HY10 := Lib.hid hy.read
  clear hb10 hy
  obtain ⟨yk, yn, yf, ys, ya, yl, yc⟩ := y
  dsimp only [VV.val] at *
  go_upto_region 13 with fail
  have HYy : Hid ((w10.alloc (.cells #[.int .i64 yk, .int .i64 yn, .float .f64 yf, .string ys, .slice ya yl yc] 26)).heap[w10.heap.size]? = some (.cells #[.int .i64 yk, .int .i64 yn, .float .f64 yf, .string ys, .slice ya yl yc] 26 (0, 0))) := heap_alloc_new w10 _
  have hb11 : Below w10.heap.size w10 (w10.alloc (.cells #[.int .i64 yk, .int .i64 yn, .float .f64 yf, .string ys, .slice ya yl yc] 26)) := (Below.refl _ _).alloc (Nat.le_refl _) _
  have HB11 := bel_stepT (w0 := w) HB10 hb11
  have HX11 := Lib.hid ((hb11.block _ (lt_of_heap HX10.out)).trans HX10.out)
  have HXx11 := Lib.hid ((hb11.block _ (lt_of_heap HXx10.out)).trans HXx10.out)
  have HT11 := Lib.hid (HT10.out.later hb11)
  have HD11 := Lib.hid (HD10.out.later hb11)
  have HY11 := Lib.hid (HY10.out.later hb11)
  clear hb11
  generalize w10.alloc (.cells #[.int .i64 yk, .int .i64 yn, .float .f64 yf, .string ys, .slice ya yl yc] 26) = w11 at *
  go_wp2_with fail
  refine (HA.out _ HB11).mono ?_
  rintro e w12 ⟨rfl, hb12⟩
  have HB12 := bel_stepT (w0 := w) HB11 hb12
  have HX12 := Lib.hid ((hb12.block _ (lt_of_heap HX11.out)).trans HX11.out)
  have HXx12 := Lib.hid ((hb12.block _ (lt_of_heap HXx11.out)).trans HXx11.out)
  have HYy12 := Lib.hid ((hb12.block _ (lt_of_heap HYy.out)).trans HYy.out)
  have HT12 := Lib.hid (HT11.out.later hb12)
  have HDN := Lib.hid (bdone_any R w12 (HD11.out.later hb12))
  have HY12 := Lib.hid (HY11.out.later hb12)
  have HS12 := Lib.hid (HSA.out _ _ w12 HB12 HT12.out)
  clear hb12
  obtain ⟨x0, x1, x2, x3, x4⟩ := cells5 HX12.out
  obtain ⟨u0, u1, u2, u3, u4⟩ := cells5 HXx12.out
  go_wp2_with fail
  refine HDN.out.mono ?_
  rintro e w13 ⟨rfl, rfl⟩
  go_wp2_with fail
  refine HS12.out.mono ?_
  rintro e w14 ⟨rfl, hb14⟩
  have HB14 := bel_stepT (w0 := w) HB12 hb14
  have HX14 := Lib.hid ((hb14.block _ (lt_of_heap HX12.out)).trans HX12.out)
  have HYy14 := Lib.hid ((hb14.block _ (lt_of_heap HYy12.out)).trans HYy12.out)
  have HS14 := Lib.hid (HSA.out _ _ w14 HB14 (HY12.out.later hb14))
  clear hb14 x0 x1 x2 x3 x4 u0 u1 u2 u3 u4
  obtain ⟨x0, x1, x2, x3, x4⟩ := cells5 HX14.out
  obtain ⟨u0, u1, u2, u3, u4⟩ := cells5 HYy14.out
  go_wp2_with fail
  refine HS14.out.mono ?_
  rintro e w15 ⟨rfl, hb15⟩
  have HB15 := bel_stepT (w0 := w) HB14 hb15
  clear hb15
  go_wp2_with fail
  go_ret
  exact ⟨rfl, HB15.out⟩
set_option maxRecDepth 100000 in
set_option maxHeartbeats 1000000 in
theorem forms_many (t : VT) (v : VV) (w : World) (hv : TRead w (fun _ => True) t v) (hT : Tabs w) (hfew : fewT t = false) :
    Calls Tryz.prog 5 #[v.val] w fun e w' => e = .returned (.bool true) ∧ Below w.heap.size w w' := by
  have HX : Hid ((w.alloc (.cells #[.int .i64 v.k, .int .i64 v.n, .float .f64 v.f, .string v.s, .slice v.a v.l v.c] 26)).heap[w.heap.size]? = some (.cells #[.int .i64 v.k, .int .i64 v.n, .float .f64 v.f, .string v.s, .slice v.a v.l v.c] 26 (0, 0))) := heap_alloc_new w _
  have HBel : Hid (Below w.heap.size w (w.alloc (.cells #[.int .i64 v.k, .int .i64 v.n, .float .f64 v.f, .string v.s, .slice v.a v.l v.c] 26))) := (Below.refl _ _).alloc (Nat.le_refl _) _
  have HF := Lib.hid (few_any t v _ _ (hv.later HBel.out))
  have HA := Lib.hid (fun W (hb : Hid (Below w.heap.size w W)) => valive_any W (hT.later hb.out))
  rw [hfew] at HF
  obtain ⟨pk, pn, pf, ps, pa, pl, pc⟩ := v
  dsimp only [VV.val] at *
  clear hv hT hfew
  go_enter Tryz.func5, Tryz.ntmps5
  go_upto_region 1 with fail
  generalize w.alloc (.cells #[.int .i64 pk, .int .i64 pn, .float .f64 pf, .string ps, .slice pa pl pc] 26) = wa at *
  obtain ⟨x0, x1, x2, x3, x4⟩ := cells5 HX.out
  go_wp2_with fail
  refine HF.out.mono ?_
  rintro e w2 ⟨rfl, hb2⟩
  have HB2 := bel_stepT HBel hb2
  clear hb2
  go_wp2_with fail
  refine (HA.out _ HB2).mono ?_
  rintro e w3 ⟨rfl, hb3⟩
  have HB3 := bel_stepT HB2 hb3
  clear hb3
  go_wp2_with fail
  go_ret
  exact ⟨rfl, HB3.out⟩
theorem valueForms_any (t : VT) (v : VV) (w : World) (hv : TRead w (fun _ => True) t v) (hwf : wfT t) (hB : Base w) (hT : Tabs w) :
    Calls Tryz.prog 5 #[v.val] w fun e w' => e = .returned (.bool true) ∧ Below w.heap.size w w' := by
  cases hf : fewT t with
  | false => exact forms_many t v w hv hT hf
  | true =>
    cases hg : goodT 8 t with
    | false => exact forms_bad t v w hv hwf hB hT hf hg
    | true => exact forms_good t v w hv hwf hB hT hf hg
end Go.Proofs.YtpijpeocdlnhiaaGreatDoor
