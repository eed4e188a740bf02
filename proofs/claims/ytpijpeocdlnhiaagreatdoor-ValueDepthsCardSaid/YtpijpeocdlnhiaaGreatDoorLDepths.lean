/- Lists inside each other, and how long texts and bytes of light payloads are: plain law.
The law ValueDepths: lists inside each other are valid up to a depth of 8, and are written and read; deeper ones are not. -/
import Derived.Test.YtpijpeocdlnhiaaGreatDoorBytesC
import Derived.Test.YtpijpeocdlnhiaaGreatDoorLParses
import Derived.Test.YtpijpeocdlnhiaaGreatDoorWeight
namespace Go.Proofs.YtpijpeocdlnhiaaGreatDoor
set_option linter.unusedVariables false
set_option linter.unusedSimpArgs false
open Go.RowKit

/-- A payload in j lists, one inside the other. -/
def nestT : Nat → VT → VT
  | 0, t => t
  | j + 1, t => .node 4 0 0 ⟨#[]⟩ [nestT j t]
theorem good_atom {t : VT} (hk : t.k ≠ 4) {left : Int} (hg : goodT left t = true) : t.l = [] ∧ ∀ left', goodT left' t = true := by
  obtain ⟨k, n, f, s, l⟩ := t
  simp only [VT.k] at hk
  rw [goodT, Bool.and_eq_true] at hg
  have ha := atom_of hg.1 hk
  obtain rfl := ha.ll
  refine ⟨rfl, fun left' => ?_⟩
  rw [goodT, goodL, Bool.and_true]
  have h := hg.1
  unfold headB at h ⊢
  simp only [decide_eq_false hk, Bool.false_and, Bool.not_false, Bool.and_true] at h ⊢
  exact h
theorem nest_good {t : VT} (hg : ∀ left, goodT left t = true) : ∀ (j : Nat) (left : Int), 0 ≤ left → goodT left (nestT j t) = decide ((j : Int) ≤ left)
  | 0, left, h => by rw [nestT, hg]; simp; omega
  | j + 1, left, h => by
    rw [nestT, goodT, goodL, goodL, Bool.and_true]
    unfold headB
    by_cases h0 : left = 0
    · subst h0
      simp
    · rw [nest_good hg j (left - 1) (by omega)]
      simp [h0, canon_zero, show (⟨#[]⟩ : ByteArray).toList = [] from toList_mk3 []]
      omega
theorem nest_wf {t : VT} (hw : wfT t) : ∀ j, wfT (nestT j t)
  | 0 => hw
  | j + 1 => node4_wf _ (by rw [wfL, wfL]; exact ⟨nest_wf hw j, trivial⟩)
theorem nest_text (t : VT) : ∀ j, (textT (nestT j t)).length = 2 * j + (textT t).length
  | 0 => by rw [nestT]; omega
  | j + 1 => by
    rw [nestT, node4_text, textsT, tailT, List.append_nil, nest_text t j]
    omega
theorem uintL4 : (uintL 4).length = 1 := by rw [uintL_small (by decide)]; rfl
theorem uintL1 : (uintL 1).length = 1 := by rw [uintL_small (by decide)]; rfl
theorem nest_form (t : VT) : ∀ j, (formT (nestT j t)).length = 2 * j + (formT t).length
  | 0 => by rw [nestT]; omega
  | j + 1 => by
    have e : formT (nestT (j + 1) t) = uintL 4 ++ (uintL 1 ++ (formT (nestT j t) ++ [])) := by
      rw [nestT, formT, if_pos rfl, formsT, formsT]; rfl
    rw [e, List.length_append, List.length_append, List.length_append, uintL4, uintL1, nest_form t j]
    simp
    omega
theorem parse_nest {t : VT} (hg : goodT 8 t = true) (hw : wfT t) : ParseP (textTop t) = (canonT t, true) := by
  have ht : textTop t = textT t := by unfold textTop; rw [if_pos hg]
  have hp := parseP_text t 8 [] hg hw stops_nil
  rw [List.append_nil] at hp
  obtain ⟨c, r, hc, -, -⟩ := textT_head t
  have hx : textTop (canonT t) = textT t := by unfold textTop; rw [canonT_good, if_pos hg, canonT_text]
  rw [ht]
  unfold ParseP
  rw [hp]
  rw [if_pos ⟨by rw [hc]; simp, hx⟩]
/-! ### light payloads -/
theorem zz_uint (n : Int) (hn : -9223372036854775808 ≤ n ∧ n ≤ 9223372036854775807) : (uintL (zz n)).length ≤ 10 := uintL_ten (zz_lt n hn)
theorem light (t : VT) : costT t ≤ 900 → wfT t → (textT t).length + 1 ≤ 104 * costT t ∧ (formT t).length ≤ 30 * costT t := by
  induction t using VT.ind with
  | _ k n f s l ih =>
    intro hc hw
    rw [costT] at hc ⊢
    rw [wfT] at hw
    obtain ⟨hk, hn, hf, hs, hwl⟩ := hw
    have hL : (textsT l).length ≤ 104 * costL l ∧ (formsT l).length ≤ 30 * costL l ∧ l.length ≤ costL l := by
      have h0 : costL l ≤ 900 := by omega
      clear hc
      have htl : ∀ m : List VT, (∀ t ∈ m, costT t ≤ 900 → wfT t → (textT t).length + 1 ≤ 104 * costT t ∧ (formT t).length ≤ 30 * costT t) → wfL m → costL m ≤ 900 → (tailT m).length ≤ 104 * costL m ∧ (formsT m).length ≤ 30 * costL m ∧ m.length ≤ costL m := by
        intro m
        induction m with
        | nil => intro _ _ _; exact ⟨Nat.zero_le _, Nat.zero_le _, Nat.zero_le _⟩
        | cons a m im =>
          intro h hwm hcm
          rw [costL] at hcm ⊢
          rw [wfL] at hwm
          have h1 := h a (by simp) (by omega) hwm.1
          have h2 := im (fun t ht => h t (by simp [ht])) hwm.2 (by omega)
          have h3 : 1 ≤ costT a := by cases a; rw [costT]; omega
          rw [tailT, formsT, List.length_cons, List.length_append, List.length_append, List.length_cons]
          omega
      cases l with
      | nil => exact ⟨Nat.zero_le _, Nat.zero_le _, Nat.zero_le _⟩
      | cons a m =>
        have h := htl (a :: m) ih hwl h0
        rw [tailT, List.length_cons] at h
        rw [textsT]
        exact ⟨by omega, h.2⟩
    have hU : (uintL k.toNat).length ≤ 10 := uintL_ten (by omega)
    have hss : min s.size 1000 = s.size := by omega
    rw [hss] at hc ⊢
    refine ⟨?_, ?_⟩
    · rw [textT]
      split
      · rw [List.length_cons, List.length_append, List.length_singleton]
        omega
      · have ha : (atomT k n f s).length ≤ 101 + 2 * s.size := by
          unfold atomT
          split
          · have := Lib.itoa_length_le n hn.1 hn.2; omega
          · split
            · have := numTextL_small f; rw [List.length_cons]; omega
            · split
              · rw [List.length_append, List.length_cons, hexL_length, bsize, List.length_singleton]; omega
              · show 3 ≤ _; omega
        omega
    · rw [formT, List.length_append]
      split
      · have h2 : (uintL l.length).length ≤ 10 := uintL_ten (by omega)
        rw [List.length_append]
        omega
      · have ha : (atomF k n f s).length ≤ 10 + s.size := by
          unfold atomF
          split
          · have := zz_uint n hn; omega
          · split
            · rw [beN_length]; omega
            · split
              · have h2 : (uintL s.size).length ≤ 10 := uintL_ten (by omega)
                rw [List.length_append, bsize]; omega
              · simp
        omega
theorem few_light {t : VT} (h : fewT t = true) (hw : wfT t) : (textT t).length ≤ 93600 ∧ (formT t).length ≤ 27000 := by
  unfold fewT at h
  rw [Bool.and_eq_true, decide_eq_true_eq] at h
  have := light t h.1 hw
  omega
theorem atom_light {t : VT} (hl : t.l = []) (hw : wfT t) (hc : costT t ≤ 900) (hk : t.k ≠ 4) : (textT t).length ≤ 2000 ∧ (formT t).length ≤ 1000 := by
  obtain ⟨k, n, f, s, l⟩ := t
  simp only [VT.l, VT.k] at hl hk
  subst hl
  rw [costT, costL] at hc
  rw [wfT] at hw
  obtain ⟨hkk, hn, hf, hs, hwl⟩ := hw
  have hU : (uintL k.toNat).length ≤ 10 := uintL_ten (by omega)
  rw [textT, if_neg hk, formT, if_neg hk, List.length_append]
  refine ⟨?_, ?_⟩
  · unfold atomT
    split
    · have := Lib.itoa_length_le n hn.1 hn.2; omega
    · split
      · have := numTextL_small f; rw [List.length_cons]; omega
      · split
        · rw [List.length_append, List.length_cons, hexL_length, bsize, List.length_singleton]; omega
        · show 3 ≤ _; omega
  · unfold atomF
    split
    · have := zz_uint n hn; omega
    · split
      · rw [beN_length]; omega
      · split
        · have h2 : (uintL s.size).length ≤ 10 := uintL_ten (by omega)
          rw [List.length_append, bsize]; omega
        · simp; omega
end Go.Proofs.YtpijpeocdlnhiaaGreatDoor
namespace Go.Proofs.YtpijpeocdlnhiaaGreatDoor
set_option linter.unusedVariables false
set_option linter.unusedSimpArgs false
open Go.RowKit

theorem leaf_any {w : World} {S T : Nat → Prop} {t : VT} {v : VV} (h : TRead w S t v) (hl : t.l = []) : TRead w T t v := by
  obtain ⟨k, n, f, s, l⟩ := t
  simp only [VT.l] at hl
  subst hl
  rw [TRead] at h ⊢
  obtain ⟨h1, h2, h3, h4, h5, h6, vs, h7, -, h8⟩ := h
  rw [TReads] at h8
  subst h8
  exact ⟨h1, h2, h3, h4, h5, h6, [], h7, fun h => absurd rfl h, by rw [TReads]⟩
/-- One list more about a payload: its cells were copied into a new block, and the box of the payload now holds the list. -/
theorem nest_step {w : World} {B : Nat} {t : VT} {v : VV} (h : TRead w (fun b => b ≠ B) t v) (hB : B < w.heap.size) :
    TRead (w.alloc (.cells #[.int .i64 v.k, .int .i64 v.n, .float .f64 v.f, .string v.s, .slice v.a v.l v.c] 26)) (fun b => b ≠ B) (.node 4 0 0 ⟨#[]⟩ [t]) ⟨4, 0, 0, ⟨#[]⟩, some ⟨w.heap.size, 0, none⟩, 1, 1⟩ := by
  rw [TRead]
  refine ⟨rfl, rfl, rfl, rfl, rfl, by show 1 ≤ maxLen; unfold maxLen; omega, [v], Reads.block (heap_alloc_new w _) 1 5 rfl, fun _ ad had => by cases had; show w.heap.size ≠ B; omega, ?_⟩
  rw [TReads]
  refine ⟨v, [], rfl, h.later ((Below.refl _ _).alloc (Nat.le_refl _) _), by rw [TReads]⟩
set_option maxRecDepth 100000 in
set_option maxHeartbeats 4000000 in
theorem valueDepths_any (nb : Nat) (hnb : nb < 256) (t : VT) (v : VV) (w : World) (hv : TRead w (fun _ => True) t v) (hwf : wfT t) (hB : Base w) (hT : Tabs w) :
    Calls Tryz.prog 4 #[.int .u8 nb, v.val] w fun e w' => e = .returned (.bool true) ∧ Below w.heap.size w w' := by
  have HX : Hid ((w.alloc (.cells #[.int .i64 v.k, .int .i64 v.n, .float .f64 v.f, .string v.s, .slice v.a v.l v.c] 26)).heap[w.heap.size]? = some (.cells #[.int .i64 v.k, .int .i64 v.n, .float .f64 v.f, .string v.s, .slice v.a v.l v.c] 26 (0, 0))) := heap_alloc_new w _
  have HBel : Hid (Below w.heap.size w (w.alloc (.cells #[.int .i64 v.k, .int .i64 v.n, .float .f64 v.f, .string v.s, .slice v.a v.l v.c] 26))) := (Below.refl _ _).alloc (Nat.le_refl _) _
  have HF := Lib.hid (few_any t v _ _ (hv.later HBel.out))
  have HVR := Lib.hid (fun W (hb : Below w.heap.size w W) => rvalid_any t v _ W (hv.later hb) hwf)
  have HA := Lib.hid (fun W (hb : Below w.heap.size w W) => valive_any W (hT.later hb))
  have HTR := Lib.hid hv
  have HB := Lib.hid hB
  have HT := Lib.hid hT
  have HVK : Hid (v.k = t.k) := hv.fields.1
  obtain ⟨pk, pn, pf, ps, pa, pl, pc⟩ := v
  dsimp only [VV.val] at *
  clear hv hB hT
  cases hfew : fewT t with
  | false =>
    rw [hfew] at HF
    clear HVR HTR hwf HB HT
    go_enter Tryz.func4, Tryz.ntmps4
    go_upto_region 1 with fail
    generalize w.alloc (.cells #[.int .i64 pk, .int .i64 pn, .float .f64 pf, .string ps, .slice pa pl pc] 26) = wa at *
    obtain ⟨x0, x1, x2, x3, x4⟩ := cells5 HX.out
    go_wp2_with fail
    refine HF.out.mono ?_
    rintro e w2 ⟨rfl, hb2⟩
    have HB2 := Lib.hid (HBel.out.trans (hb2.mono HBel.out.size))
    clear hb2
    go_wp2_with fail
    refine (HA.out _ HB2.out).mono ?_
    rintro e w3 ⟨rfl, hb3⟩
    have HB3 := Lib.hid (HB2.out.trans (hb3.mono HB2.out.size))
    clear hb3
    go_wp2_with fail
    go_ret
    exact ⟨rfl, HB3.out⟩
  | true =>
    rw [hfew] at HF
    by_cases hk4 : pk = 4
    · subst hk4
      clear HVR HTR hwf HB HT
      go_enter Tryz.func4, Tryz.ntmps4
      go_upto_region 1 with fail
      generalize w.alloc (.cells #[.int .i64 4, .int .i64 pn, .float .f64 pf, .string ps, .slice pa pl pc] 26) = wa at *
      obtain ⟨x0, x1, x2, x3, x4⟩ := cells5 HX.out
      go_wp2_with fail
      refine HF.out.mono ?_
      rintro e w2 ⟨rfl, hb2⟩
      have HB2 := Lib.hid (HBel.out.trans (hb2.mono HBel.out.size))
      have HX2 := Lib.hid ((hb2.block _ (lt_of_heap HX.out)).trans HX.out)
      clear hb2 x0 x1 x2 x3 x4
      obtain ⟨x0, x1, x2, x3, x4⟩ := cells5 HX2.out
      go_wp2_with fail
      refine (HA.out _ HB2.out).mono ?_
      rintro e w3 ⟨rfl, hb3⟩
      have HB3 := Lib.hid (HB2.out.trans (hb3.mono HB2.out.size))
      clear hb3
      go_wp2_with fail
      go_ret
      exact ⟨rfl, HB3.out⟩
    · have hq : (pk == 4) = false := by simp [hk4]
      cases hgd : goodT 8 t with
      | false =>
        rw [hgd] at HVR
        clear HTR hwf HB HT
        go_enter Tryz.func4, Tryz.ntmps4
        go_upto_region 1 with fail
        generalize w.alloc (.cells #[.int .i64 pk, .int .i64 pn, .float .f64 pf, .string ps, .slice pa pl pc] 26) = wa at *
        obtain ⟨x0, x1, x2, x3, x4⟩ := cells5 HX.out
        go_wp2_with fail
        refine HF.out.mono ?_
        rintro e w2 ⟨rfl, hb2⟩
        have HB2 := Lib.hid (HBel.out.trans (hb2.mono HBel.out.size))
        have HX2 := Lib.hid ((hb2.block _ (lt_of_heap HX.out)).trans HX.out)
        clear hb2 x0 x1 x2 x3 x4
        obtain ⟨x0, x1, x2, x3, x4⟩ := cells5 HX2.out
        go_wp2_with fail
        refine (HVR.out _ HB2.out).mono ?_
        rintro e w3 ⟨rfl, hb3⟩
        have HB3 := Lib.hid (HB2.out.trans (hb3.mono HB2.out.size))
        clear hb3
        go_wp2_with fail
        refine (HA.out _ HB3.out).mono ?_
        rintro e w4 ⟨rfl, hb4⟩
        have HB4 := Lib.hid (HB3.out.trans (hb4.mono HB3.out.size))
        clear hb4
        go_wp2_with fail
        go_ret
        exact ⟨rfl, HB4.out⟩
      | true =>
        rw [hgd] at HVR
        obtain ⟨hnil, hall⟩ := good_atom (by rw [← HVK.out]; exact hk4) hgd
        have hcost : costT t ≤ 900 := by unfold fewT at hfew; rw [Bool.and_eq_true, decide_eq_true_eq] at hfew; exact hfew.1
        obtain ⟨htx, hfm⟩ := atom_light hnil hwf hcost (by rw [← HVK.out]; exact hk4)
        have HTR2 : Hid (∀ W, Below w.heap.size w W → TRead W (fun b => b ≠ w.heap.size) t ⟨pk, pn, pf, ps, pa, pl, pc⟩) := fun W hW => leaf_any (HTR.out.later hW) hnil
        clear HTR hfew
        go_enter Tryz.func4, Tryz.ntmps4
        go_upto_region 1 with fail
        generalize w.alloc (.cells #[.int .i64 pk, .int .i64 pn, .float .f64 pf, .string ps, .slice pa pl pc] 26) = wa at *
        obtain ⟨x0, x1, x2, x3, x4⟩ := cells5 HX.out
        go_wp2_with fail
        refine HF.out.mono ?_
        rintro e w2 ⟨rfl, hb2⟩
        have HB2 := Lib.hid (HBel.out.trans (hb2.mono HBel.out.size))
        have HX2 := Lib.hid ((hb2.block _ (lt_of_heap HX.out)).trans HX.out)
        clear hb2 x0 x1 x2 x3 x4
        obtain ⟨x0, x1, x2, x3, x4⟩ := cells5 HX2.out
        go_wp2_with fail
        refine (HVR.out _ HB2.out).mono ?_
        rintro e w3 ⟨rfl, hb3⟩
        have HB3 := Lib.hid (HB2.out.trans (hb3.mono HB2.out.size))
        have HX3 := Lib.hid ((hb3.block _ (lt_of_heap HX2.out)).trans HX2.out)
        clear hb3 x0 x1 x2 x3 x4 HF HVR
        obtain ⟨K, hK⟩ : ∃ K, K = nb % 12 := ⟨_, rfl⟩
        have hK0 : ((nb : Int) % 12) = (K : Int) := by omega
        have hK12 : K < 12 := by omega
        clear hK
        have HTR3 := Lib.hid (HTR2.out w3 HB3.out)
        clear HTR2 HX HBel HX2 HB2
        go_wp2_with fail
        go_loopw [29] (fun i w' => ∃ (m : Nat) (vm : VV), i = .int .i64 m ∧ m ≤ K ∧ Hid (w'.heap[w.heap.size]? = some (.cells #[.int .i64 vm.k, .int .i64 vm.n, .float .f64 vm.f, .string vm.s, .slice vm.a vm.l vm.c] 26 (0, 0))) ∧ Hid (TRead w' (fun b => b ≠ w.heap.size) (nestT m t) vm) ∧ Hid (Below w.heap.size w w')) (fun i _ => K - (RowKit.intOf i).toNat)
        case atStart => exact ⟨0, ⟨pk, pn, pf, ps, pa, pl, pc⟩, rfl, Nat.zero_le _, HX3.out, HTR3.out, HB3.out⟩
        case round =>
          obtain ⟨m, vm, rfl, hm, HXm, HTm, HBm⟩ := hrel
          by_cases hlt : m < K
          · obtain ⟨x0, x1, x2, x3, x4⟩ := cells5 HXm.out
            have hrr := lt_of_heap HXm.out
            have hf0 := freeAt HXm.out 0
            have hf1 := freeAt HXm.out 1
            have hf2 := freeAt HXm.out 2
            have hf3 := freeAt HXm.out 3
            have hf4 := freeAt HXm.out 4
            have hoth : ∀ k, k ≠ w.heap.size → (((((wr.setCell ⟨w.heap.size, 0, none⟩ (.int .i64 4)).setCell ⟨w.heap.size, 1, none⟩ (.int .i64 0)).setCell ⟨w.heap.size, 2, none⟩ (.float .f64 0)).setCell ⟨w.heap.size, 3, none⟩ (.string ⟨#[]⟩)).setCell ⟨w.heap.size, 4, none⟩ (.slice (some ⟨wr.heap.size, 0, none⟩) 1 1)).heap[k]? = wr.heap[k]? := fun k hk => setCells_other w.heap.size (VV.cells ⟨4, 0, 0, ⟨#[]⟩, some ⟨wr.heap.size, 0, none⟩, 1, 1⟩) 0 wr k hk
            have hsz : (((((wr.setCell ⟨w.heap.size, 0, none⟩ (.int .i64 4)).setCell ⟨w.heap.size, 1, none⟩ (.int .i64 0)).setCell ⟨w.heap.size, 2, none⟩ (.float .f64 0)).setCell ⟨w.heap.size, 3, none⟩ (.string ⟨#[]⟩)).setCell ⟨w.heap.size, 4, none⟩ (.slice (some ⟨wr.heap.size, 0, none⟩) 1 1)).heap.size = wr.heap.size := setCells_size w.heap.size (VV.cells ⟨4, 0, 0, ⟨#[]⟩, some ⟨wr.heap.size, 0, none⟩, 1, 1⟩) 0 wr
            have HT4 := Lib.hid (nest_step (HTm.out.frame (fun k hk _ => hoth k hk)) (by rw [hsz]; exact hrr))
            rw [hsz] at HT4
            have HX4 := Lib.hid (set5 HXm.out rfl (.int .i64 4) (.int .i64 0) (.float .f64 0) (.string ⟨#[]⟩) (.slice (some ⟨wr.heap.size, 0, none⟩) 1 1))
            have HB4 := Lib.hid (bel5 HBm.out (Nat.le_refl _) (.int .i64 4) (.int .i64 0) (.float .f64 0) (.string ⟨#[]⟩) (.slice (some ⟨wr.heap.size, 0, none⟩) 1 1))
            clear hoth hsz
            go_wp2_with fail
            go_roundw
            case rel => exact ⟨m + 1, ⟨4, 0, 0, ⟨#[]⟩, some ⟨wr.heap.size, 0, none⟩, 1, 1⟩, by go_num, by omega, (Below.heap_alloc _ _ _ (lt_of_heap HX4.out)).trans HX4.out, HT4.out, HB4.out.alloc HB4.out.size _⟩
            case measure => simp [RowKit.intOf]; omega
          · obtain rfl : m = K := by omega
            have hgT := nest_good hall m 8 (by omega)
            have hwT := nest_wf hwf m
            have hxT := nest_text t m
            have hfT := nest_form t m
            obtain ⟨T, hTT⟩ : ∃ T, T = nestT m t := ⟨_, rfl⟩
            rw [← hTT] at hgT hwT hxT hfT HTm
            have hfl : (formT T).length ≤ 1000000 := by omega
            have hxl : (textT T).length ≤ 2100 := by omega
            have HBY := Lib.hid (fun W (hb : Below wr.heap.size wr W) => vbytes_any T vm _ W (HTm.out.later hb) hwT (fun _ => hfl))
            have HTX := Lib.hid (fun W (hb : Below wr.heap.size wr W) => vtop_any T vm _ W (HTm.out.later hb) hwT (fun _ => by omega) (HT.out.later (HBm.out.trans (hb.mono HBm.out.size))))
            have HVV := Lib.hid (fun W (hb : Below wr.heap.size wr W) => valid_any T vm _ W (HTm.out.later hb) hwT)
            have HTW := Lib.hid hwT
            have HAA := Lib.hid (fun W (hb : Below wr.heap.size wr W) => HA.out W (HBm.out.trans (hb.mono HBm.out.size)))
            obtain ⟨uk, un, uf, us, ua, ul, uc⟩ := vm
            dsimp only [VV.val] at *
            unfold BytesTop at HBY
            clear hTT hwf hall hnil hcost htx hfm HA hgd hxT hfT hfl hwT HTR3 HX3 HB3
            by_cases hm8 : m ≤ 8
            · have hg : goodT 8 T = true := by rw [hgT]; simp; omega
              have HGT := Lib.hid hg
              have hgt : ¬ (m : Int) > 8 := by omega
              rw [hg] at HVV
              simp only [hg, if_true] at HBY
              have hpn := parse_nest hg HTW.out
              have hsx : (⟨(textTop T).toArray⟩ : ByteArray).size ≤ 9000 := by
                have e : textTop T = textT T := by unfold textTop; rw [if_pos hg]
                rw [e, mk_size]; omega
              have HPT := Lib.hid (fun W (hb : Below wr.heap.size wr W) => ptop_any (⟨(textTop T).toArray⟩ : ByteArray) hsx W (HB.out.later (HBm.out.trans (hb.mono HBm.out.size))) (HT.out.later (HBm.out.trans (hb.mono HBm.out.size))))
              rw [show (⟨(textTop T).toArray⟩ : ByteArray).data.toList = textTop T from rfl, hpn] at HPT
              obtain ⟨tx, htx⟩ : ∃ tx : ByteArray, tx = ⟨(textTop T).toArray⟩ := ⟨_, rfl⟩
              rw [← htx] at HTX HPT
              have HSM : Hid (sameT (canonT T) T = true) := sameT_canon _ _ (canonT_idem T)
              clear hg hgT hpn hsx htx
              obtain ⟨x0, x1, x2, x3, x4⟩ := cells5 HXm.out
              go_wp2_with fail
              refine (HBY.out _ (Below.refl _ _)).mono ?_
              rintro e w4 ⟨⟨ba, bc, rfl, hbr⟩, hb4⟩
              have HB4 := Lib.hid hb4
              have HX4 := Lib.hid ((hb4.block _ (lt_of_heap HXm.out)).trans HXm.out)
              clear hb4 hbr x0 x1 x2 x3 x4
              obtain ⟨x0, x1, x2, x3, x4⟩ := cells5 HX4.out
              go_wp2_with fail
              refine (HTX.out _ HB4.out).mono ?_
              rintro e w5 ⟨rfl, hb5⟩
              have HB5 := Lib.hid (HB4.out.trans (hb5.mono HB4.out.size))
              have HX5 := Lib.hid ((hb5.block _ (lt_of_heap HX4.out)).trans HX4.out)
              clear hb5 x0 x1 x2 x3 x4
              go_wp2_with fail
              refine (HPT.out _ HB5.out).mono ?_
              rintro e w6 ⟨⟨y, rfl, hy⟩, hb6⟩
              have HB6 := Lib.hid (HB5.out.trans (hb6.mono HB5.out.size))
              have HX6 := Lib.hid ((hb6.block _ (lt_of_heap HX5.out)).trans HX5.out)
              have HY6 := Lib.hid hy.read
              clear hb6 hy
              obtain ⟨yk, yn, yf, ys, ya, yl, yc⟩ := y
              dsimp only [VV.val] at *
              go_upto_region 13 with fail
              have HYX : Hid ((w6.alloc (.cells #[.int .i64 yk, .int .i64 yn, .float .f64 yf, .string ys, .slice ya yl yc] 26)).heap[w6.heap.size]? = some (.cells #[.int .i64 yk, .int .i64 yn, .float .f64 yf, .string ys, .slice ya yl yc] 26 (0, 0))) := heap_alloc_new w6 _
              have HX7 : Hid ((w6.alloc (.cells #[.int .i64 yk, .int .i64 yn, .float .f64 yf, .string ys, .slice ya yl yc] 26)).heap[w.heap.size]? = some (.cells #[.int .i64 uk, .int .i64 un, .float .f64 uf, .string us, .slice ua ul uc] 26 (0, 0))) := (Below.heap_alloc _ _ _ (lt_of_heap HX6.out)).trans HX6.out
              have HB7 : Hid (Below wr.heap.size wr (w6.alloc (.cells #[.int .i64 yk, .int .i64 yn, .float .f64 yf, .string ys, .slice ya yl yc] 26))) := HB6.out.alloc HB6.out.size _
              have HY7 := Lib.hid (HY6.out.later ((Below.refl _ w6).alloc (Nat.le_refl _) (.cells #[.int .i64 yk, .int .i64 yn, .float .f64 yf, .string ys, .slice ya yl yc] 26)))
              generalize w6.alloc (.cells #[.int .i64 yk, .int .i64 yn, .float .f64 yf, .string ys, .slice ya yl yc] 26) = w7 at *
              go_wp2_with fail
              refine (HAA.out _ HB7.out).mono ?_
              rintro e w8 ⟨rfl, hb8⟩
              have HB8 := Lib.hid (HB7.out.trans (hb8.mono HB7.out.size))
              have HX8 := Lib.hid ((hb8.block _ (lt_of_heap HX7.out)).trans HX7.out)
              have HYX8 := Lib.hid ((hb8.block _ (lt_of_heap HYX.out)).trans HYX.out)
              have HY8 := Lib.hid (HY7.out.later hb8)
              clear hb8
              obtain ⟨x0, x1, x2, x3, x4⟩ := cells5 HX8.out
              go_wp2_with fail
              refine (HVV.out _ HB8.out).mono ?_
              rintro e w9 ⟨rfl, hb9⟩
              have HB9 := Lib.hid (HB8.out.trans (hb9.mono HB8.out.size))
              have HX9 := Lib.hid ((hb9.block _ (lt_of_heap HX8.out)).trans HX8.out)
              have HYX9 := Lib.hid ((hb9.block _ (lt_of_heap HYX8.out)).trans HYX8.out)
              have HSA := Lib.hid (same_any (canonT T) T _ _ _ _ w9 (HY8.out.later hb9) (HTm.out.later HB9.out))
              rw [HSM.out] at HSA
              simp only [VV.val] at HSA
              clear hb9 x0 x1 x2 x3 x4
              obtain ⟨x0, x1, x2, x3, x4⟩ := cells5 HX9.out
              obtain ⟨y0, y1, y2, y3, y4⟩ := cells5 HYX9.out
              go_wp2_with fail
              refine HSA.out.mono ?_
              rintro e w10 ⟨rfl, hb10⟩
              have HB10 := Lib.hid (HBm.out.trans ((HB9.out.trans (hb10.mono HB9.out.size)).mono HBm.out.size))
              clear hb10
              go_wp2_with fail
              go_ret
              exact ⟨rfl, HB10.out⟩
            · have hg : goodT 8 T = false := by rw [hgT]; simp; omega
              have hgt : (m : Int) > 8 := by omega
              rw [hg] at HVV
              simp only [hg, if_false] at HBY
              have htt : textTop T = [] := by unfold textTop; rw [hg]; rfl
              rw [htt] at HTX
              clear hg hgT htt
              obtain ⟨x0, x1, x2, x3, x4⟩ := cells5 HXm.out
              go_wp2_with fail
              refine (HBY.out _ (Below.refl _ _)).mono ?_
              rintro e w4 ⟨rfl, hb4⟩
              have HB4 := Lib.hid hb4
              have HX4 := Lib.hid ((hb4.block _ (lt_of_heap HXm.out)).trans HXm.out)
              clear hb4 x0 x1 x2 x3 x4
              obtain ⟨x0, x1, x2, x3, x4⟩ := cells5 HX4.out
              go_wp2_with fail
              refine (HTX.out _ HB4.out).mono ?_
              rintro e w5 ⟨rfl, hb5⟩
              have HB5 := Lib.hid (HB4.out.trans (hb5.mono HB4.out.size))
              have HX5 := Lib.hid ((hb5.block _ (lt_of_heap HX4.out)).trans HX4.out)
              clear hb5 x0 x1 x2 x3 x4
              go_wp2_with fail
              refine (HAA.out _ HB5.out).mono ?_
              rintro e w6 ⟨rfl, hb6⟩
              have HB6 := Lib.hid (HB5.out.trans (hb6.mono HB5.out.size))
              have HX6 := Lib.hid ((hb6.block _ (lt_of_heap HX5.out)).trans HX5.out)
              clear hb6
              obtain ⟨x0, x1, x2, x3, x4⟩ := cells5 HX6.out
              go_wp2_with fail
              refine (HVV.out _ HB6.out).mono ?_
              rintro e w7 ⟨rfl, hb7⟩
              have HB7 := Lib.hid (HBm.out.trans ((HB6.out.trans (hb7.mono HB6.out.size)).mono HBm.out.size))
              clear hb7
              go_wp2_with fail
              go_ret
              exact ⟨rfl, HB7.out⟩
end Go.Proofs.YtpijpeocdlnhiaaGreatDoor
