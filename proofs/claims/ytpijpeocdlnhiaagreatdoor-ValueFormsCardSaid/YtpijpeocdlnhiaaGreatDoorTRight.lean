/- The reference's Valid. -/
import Derived.Test.YtpijpeocdlnhiaaGreatDoorTRefC
namespace Go.Proofs.YtpijpeocdlnhiaaGreatDoor
set_option linter.unusedVariables false
set_option linter.unusedSimpArgs false
open Go.RowKit

theorem head_bools (left k n : Int) (f : Nat) (s : ByteArray) (len : Nat) :
    headB left k n f s len = (decide (0 ≤ k) && decide (k ≤ 4) && !((k != 1) && (n != 0) || (k != 2) && ((canonB f : Int) != 0) || (k != 3) && !s.toList.isEmpty || (k != 4) && decide (0 < len)) && !((k == 4) && (left == 0))) := by
  unfold headB
  have h1 : (decide (canonB f = 0)) = !((canonB f : Int) != 0) := by
    by_cases h : canonB f = 0
    · simp [h]
    · have : (canonB f : Int) ≠ 0 := by omega
      simp [h]
  have h2 : decide (s.toList = []) = s.toList.isEmpty := by cases s.toList <;> rfl
  have h3 : decide (len = 0) = !decide (0 < len) := by
    by_cases h : len = 0
    · simp [h]
    · have : 0 < len := by omega
      simp [h, this]
  rw [h1, h2, h3]
  generalize ((canonB f : Int) != 0) = y2
  generalize s.toList.isEmpty = y3
  generalize decide (0 < len) = y4
  have e : ∀ (a b : Int), decide (a = b) = (a == b) := fun a b => by by_cases h : a = b <;> simp [h]
  have e2 : ∀ (a b : Int), (a != b) = !(a == b) := fun _ _ => rfl
  simp only [e, e2, Bool.decide_and]
  generalize (k == 1) = a1
  generalize (k == 2) = a2
  generalize (k == 3) = a3
  generalize (k == 4) = a4
  generalize (n == 0) = a5
  generalize (left == 0) = a6
  generalize decide (0 ≤ k) = a7
  generalize decide (k ≤ 4) = a8
  cases a1 <;> cases a2 <;> cases a3 <;> cases a4 <;> cases a5 <;> cases a6 <;> cases a7 <;> cases a8 <;> cases y2 <;> cases y3 <;> cases y4 <;> rfl
set_option maxRecDepth 100000 in
set_option maxHeartbeats 4000000 in
theorem rright_any (t : VT) : ∀ (left : Int) (v : VV) (S : Nat → Prop) (w : World), 0 ≤ left → left ≤ 8 → TRead w S t v → wfT t →
    Calls Tryz.prog 42 #[v.val, .int .i64 left] w fun e w' => e = .returned (.bool (goodT left t)) ∧ Below w.heap.size w w' := by
  induction t using VT.ind with
  | _ k n f s l ih =>
    intro left v S w hl0 hl8 hv hwf
    have HV := Lib.hid hv
    have hval : v.val = .agg #[.int .i64 k, .int .i64 n, .float .f64 f, .string s, .slice v.a l.length v.c] := hv.val
    have hmax : l.length ≤ maxLen := hv.small
    unfold maxLen at hmax
    have hlen : l.length ≤ v.c := by obtain ⟨vs, hr, _⟩ := hv.elems; obtain ⟨_, _, _, he, hle, _⟩ := hr; cases he; exact hle
    rw [hval]
    have HI := Lib.hid ih
    have HWF := Lib.hid hwf
    rw [wfT] at hwf
    obtain ⟨-, -, hf, -, -⟩ := hwf
    have HBT := Lib.hid (rbits_any f)
    clear hv hval ih hf
    obtain ⟨va, hva⟩ : ∃ va, va = v.a := ⟨_, rfl⟩
    have HVA := Lib.hid hva
    rw [← hva]
    clear hva
    have HX : Hid ((w.alloc (.cells #[.int .i64 k, .int .i64 n, .float .f64 f, .string s, .slice va l.length v.c] 26)).heap[w.heap.size]? = some (.cells #[.int .i64 k, .int .i64 n, .float .f64 f, .string s, .slice va l.length v.c] 26 (0, 0))) := heap_alloc_new w _
    have HB1 : Hid (Below w.heap.size w (w.alloc (.cells #[.int .i64 k, .int .i64 n, .float .f64 f, .string s, .slice va l.length v.c] 26))) := (Below.refl _ _).alloc (Nat.le_refl _) _
    obtain ⟨G, hG⟩ : ∃ G, G = goodT left (.node k n f s l) := ⟨_, rfl⟩
    rw [← hG]
    have HG : Hid (G = (headB left k n f s l.length && goodL (left - 1) l)) := by rw [Hid, hG, goodT]
    clear hG
    go_enter Tryz.func42, Tryz.ntmps42
    go_upto_region 1 with fail
    generalize (w.alloc (.cells #[.int .i64 k, .int .i64 n, .float .f64 f, .string s, .slice va l.length v.c] 26)) = wd at *
    obtain ⟨hx0, hx1, hx2, hx3, hx4⟩ := cells5 HX.out
    obtain ⟨cb, hcb⟩ : ∃ cb : Int, cb = (canonB f : Int) := ⟨_, rfl⟩
    simp only [← hcb] at HBT
    have HCB := Lib.hid hcb
    clear hcb
    obtain ⟨b1, hb1⟩ : ∃ b, (k != 1) = b := ⟨_, rfl⟩
    obtain ⟨b2, hb2⟩ : ∃ b, (k != 2) = b := ⟨_, rfl⟩
    obtain ⟨b3, hb3⟩ : ∃ b, (k != 3) = b := ⟨_, rfl⟩
    obtain ⟨b4, hb4⟩ : ∃ b, (k != 4) = b := ⟨_, rfl⟩
    obtain ⟨y1, hy1⟩ : ∃ b, (n != 0) = b := ⟨_, rfl⟩
    obtain ⟨y2, hy2⟩ : ∃ b, (cb != 0) = b := ⟨_, rfl⟩
    obtain ⟨y3, hy3⟩ : ∃ b, s.toList.isEmpty = b := ⟨_, rfl⟩
    obtain ⟨y4, hy4⟩ : ∃ b, decide (0 < l.length) = b := ⟨_, rfl⟩
    go_cut [45] from 6 to 45 (fun s45 wx => s45 = .bool (b1 && y1 || b2 && y2 || b3 && !y3 || b4 && y4) ∧ wx = wd)
    case first =>
      go_wp2_with (go_at_call 71; refine (HBT.out _).mono ?_; rintro e w1 ⟨rfl, rfl⟩)
      all_goals go_meet
      all_goals
        refine ⟨congrArg Value.bool ?_, rfl⟩
        clear hb1 hb2 hb3 hb4 hy1 hy2 hy3 hy4 HX HB1 HV HVA HI HWF HBT
        simp_all
    obtain ⟨rfl, rfl⟩ := hcut
    obtain ⟨c4, hc4⟩ : ∃ b, (k == 4) = b := ⟨_, rfl⟩
    obtain ⟨z, hz⟩ : ∃ b, (left == 0) = b := ⟨_, rfl⟩
    have HHB := Lib.hid (head_bools left k n f s l.length)
    rw [← HCB.out, hb1, hb2, hb3, hb4, hy1, hy2, hy3, hy4, hc4, hz] at HHB
    have hb4c : b4 = !c4 := by rw [← hb4, ← hc4]; rfl
    have HY4 := Lib.hid hy4
    have HC4 := Lib.hid hb4c
    have HZ := Lib.hid hz
    clear hb1 hb2 hb3 hb4 hy1 hy2 hy3 hy4 HBT hb4c
    obtain ⟨bad, hbad⟩ : ∃ b, (b1 && y1 || b2 && y2 || b3 && !y3 || b4 && y4) = b := ⟨_, rfl⟩
    rw [hbad] at HHB ⊢
    have HBAD := Lib.hid hbad
    clear hbad
    cases bad with
    | true =>
      have HF : Hid (G = false) := by rw [Hid, HG.out, HHB.out]; simp
      go_wp2_with fail
      go_ret
      exact ⟨by rw [HF.out]; rfl, HB1.out⟩
    | false =>
      go_upto_region 3 with fail
      go_cut [52] from 46 to 52 (fun s52 wx => s52 = .bool (c4 && z) ∧ wx = wc)
      case first =>
        go_wp2_with fail
        all_goals go_meet
        all_goals
          refine ⟨congrArg Value.bool ?_, rfl⟩
          simp_all
      obtain ⟨rfl, rfl⟩ := hcut
      clear hc4 hz
      obtain ⟨cz, hcz⟩ : ∃ b, (c4 && z) = b := ⟨_, rfl⟩
      rw [hcz] at HHB ⊢
      have HCZ := Lib.hid hcz
      clear hcz
      cases cz with
      | true =>
        have HF : Hid (G = false) := by rw [Hid, HG.out, HHB.out]; simp
        go_wp2_with fail
        go_ret
        exact ⟨by rw [HF.out]; rfl, HB1.out⟩
      | false =>
        have HLF : Hid (0 < l.length → 1 ≤ left) := by
          intro h0
          have e1 := HY4.out
          rw [decide_eq_true h0] at e1
          have e2 := HBAD.out
          rw [← e1, HC4.out] at e2
          have e3 := HCZ.out
          have e4 := HZ.out
          cases c4 with
          | false => simp at e2
          | true =>
            rw [Bool.true_and] at e3
            rw [e3] at e4
            have := beq_eq_false_iff_ne.1 e4
            omega
        have HGL : Hid (G = (decide (0 ≤ k) && decide (k ≤ 4) && goodL (left - 1) l)) := by rw [Hid, HG.out, HHB.out]; simp
        clear HG HHB HY4 HC4 HZ HBAD HCZ hx0 hx1 hx2 hx3 hx4
        go_wp2_with fail
        go_loopw [5] (fun i w' => ∃ (m : Nat), i = .int .i64 m ∧ m ≤ l.length ∧ Hid (goodL (left - 1) (l.take m) = true) ∧ Hid (Below w.heap.size w w') ∧ Hid (w'.heap[w.heap.size]? = some (.cells #[.int .i64 k, .int .i64 n, .float .f64 f, .string s, .slice va l.length v.c] 26 (0, 0)))) (fun i _ => l.length - (RowKit.intOf i).toNat)
        case atStart => exact ⟨0, rfl, Nat.zero_le _, rfl, HB1.out, HX.out⟩
        case round =>
          obtain ⟨m, rfl, hm, HGM, HBE, HXR⟩ := hrel
          by_cases hlt : m < l.length
          · have hx4 := (cells5 HXR.out).2.2.2.2
            obtain ⟨b, o, hb0, hcap, hblt, -, p, hp, hc0, hc1, hc2, hc3, hc4⟩ := (HV.out.later HBE.out).child m hlt
            obtain rfl : va = some ⟨b, o, none⟩ := HVA.out.trans hb0
            clear hb0
            have hin := List.getElem_mem hlt
            have hl1 := HLF.out (by omega)
            have HC := Lib.hid (HI.out l[m] hin (left - 1) p S wr (by omega) (by omega) hp ((wfL_iff l).1 (by have h := HWF.out; rw [wfT] at h; exact h.2.2.2.2) _ hin))
            have hw : IntKind.i64.wrap (left - 1) = left - 1 := by rw [IntKind.wrap_i64]; omega
            have HGG : Hid (goodL (left - 1) l = true → goodT (left - 1) l[m] = true) := fun h => (goodL_iff _ _).1 h _ hin
            have HGN : Hid (goodT (left - 1) l[m] = true → goodL (left - 1) (l.take (m + 1)) = true) := fun h => by
              rw [goodL_iff, List.take_succ_eq_append_getElem hlt]
              intro t ht
              rcases List.mem_append.1 ht with h1 | h1
              · exact (goodL_iff _ _).1 HGM.out t h1
              · rw [List.mem_singleton] at h1; rw [h1]; exact h
            generalize goodT (left - 1) l[m] = g at *
            clear hp hin
            go_wp2_with fail
            refine HC.out.mono ?_
            rintro e w2 ⟨rfl, hb2⟩
            have HB2 := Lib.hid (HBE.out.trans (hb2.mono HBE.out.size))
            have HX2 := Lib.hid ((hb2.block _ (lt_of_heap HXR.out)).trans HXR.out)
            clear hb2 HC hc0 hc1 hc2 hc3 hc4 hx4
            cases g with
            | false =>
              have HF : Hid (G = false) := by
                rw [Hid, HGL.out]
                cases hq : goodL (left - 1) l with
                | false => simp
                | true => have := HGG.out hq; cases this
              go_wp2_with fail
              go_ret
              exact ⟨by rw [HF.out]; rfl, HB2.out⟩
            | true =>
              go_wp2_with fail
              refine ⟨⟨m + 1, by go_num, by omega, HGN.out (by simp), HB2.out, HX2.out⟩, ?_⟩
              simp [RowKit.intOf]; omega
          · obtain rfl : m = l.length := by omega
            have hx0 := (cells5 HXR.out).1
            have hx4 := (cells5 HXR.out).2.2.2.2
            have HF : Hid (G = (decide (0 ≤ k) && decide (k ≤ 4))) := by
              have h := HGM.out
              rw [List.take_length] at h
              rw [Hid, HGL.out, h, Bool.and_true]
            by_cases h7 : 0 ≤ k
            · by_cases h8 : k ≤ 4
              · go_wp2_with fail
                go_ret
                exact ⟨by rw [HF.out]; simp [h7, h8], HBE.out⟩
              · go_wp2_with fail
                go_ret
                exact ⟨by rw [HF.out]; simp [h7, h8], HBE.out⟩
            · go_wp2_with fail
              go_ret
              exact ⟨by rw [HF.out]; simp; omega, HBE.out⟩
set_option maxRecDepth 100000 in
set_option maxHeartbeats 1000000 in
theorem rvalid_any (t : VT) (v : VV) (S : Nat → Prop) (w : World) (hv : TRead w S t v) (hwf : wfT t) :
    Calls Tryz.prog 14 #[v.val] w fun e w' => e = .returned (.bool (goodT 8 t)) ∧ Below w.heap.size w w' := by
  have HX : Hid ((w.alloc (.cells #[.int .i64 v.k, .int .i64 v.n, .float .f64 v.f, .string v.s, .slice v.a v.l v.c] 26)).heap[w.heap.size]? = some (.cells #[.int .i64 v.k, .int .i64 v.n, .float .f64 v.f, .string v.s, .slice v.a v.l v.c] 26 (0, 0))) := heap_alloc_new w _
  have HB1 : Hid (Below w.heap.size w (w.alloc (.cells #[.int .i64 v.k, .int .i64 v.n, .float .f64 v.f, .string v.s, .slice v.a v.l v.c] 26))) := (Below.refl _ _).alloc (Nat.le_refl _) _
  have HC := Lib.hid (rright_any t 8 v S _ (by decide) (by decide) (hv.later HB1.out) hwf)
  obtain ⟨pk, pn, pf, ps, pa, pl, pc⟩ := v
  dsimp only [VV.val] at *
  generalize goodT 8 t = g at *
  clear hv hwf
  go_enter Tryz.func14, Tryz.ntmps14
  go_upto_region 1 with fail
  generalize (w.alloc (.cells #[.int .i64 pk, .int .i64 pn, .float .f64 pf, .string ps, .slice pa pl pc] 26)) = wd at *
  obtain ⟨hx0, hx1, hx2, hx3, hx4⟩ := cells5 HX.out
  go_wp2_with fail
  refine HC.out.mono ?_
  rintro e w2 ⟨rfl, hb2⟩
  have HB2 := Lib.hid (HB1.out.trans (hb2.mono HB1.out.size))
  clear hb2
  go_wp2_with fail
  go_ret
  exact ⟨rfl, HB2.out⟩
set_option maxRecDepth 100000 in
set_option maxHeartbeats 1000000 in
theorem rtop_any (t : VT) (v : VV) (S : Nat → Prop) (w : World) (hv : TRead w S t v) (hwf : wfT t) (hlen : goodT 8 t = true → (textT t).length ≤ 1000000) :
    Calls Tryz.prog 21 #[v.val] w fun e w' => e = .returned (.string ⟨(textTop t).toArray⟩) ∧ Below w.heap.size w w' := by
  have HX : Hid ((w.alloc (.cells #[.int .i64 v.k, .int .i64 v.n, .float .f64 v.f, .string v.s, .slice v.a v.l v.c] 26)).heap[w.heap.size]? = some (.cells #[.int .i64 v.k, .int .i64 v.n, .float .f64 v.f, .string v.s, .slice v.a v.l v.c] 26 (0, 0))) := heap_alloc_new w _
  have HB1 : Hid (Below w.heap.size w (w.alloc (.cells #[.int .i64 v.k, .int .i64 v.n, .float .f64 v.f, .string v.s, .slice v.a v.l v.c] 26))) := (Below.refl _ _).alloc (Nat.le_refl _) _
  have HVA := Lib.hid (rvalid_any t v S _ (hv.later HB1.out) hwf)
  have hC : goodT 8 t = true → ∀ W, Below w.heap.size w W → Calls Tryz.prog 48 #[v.val] W fun e w' => e = .returned (.string ⟨(textT t).toArray⟩) ∧ Below W.heap.size W w' :=
    fun h W hW => rtext_all t hwf (hlen h) v S W (hv.later hW)
  have htt : textTop t = if goodT 8 t = true then textT t else [] := rfl
  rw [htt]
  obtain ⟨pk, pn, pf, ps, pa, pl, pc⟩ := v
  dsimp only [VV.val] at *
  generalize goodT 8 t = g at *
  generalize textT t = tx at *
  clear htt hv hwf hlen
  have HCC := Lib.hid hC
  clear hC
  go_enter Tryz.func21, Tryz.ntmps21
  go_upto_region 1 with fail
  generalize (w.alloc (.cells #[.int .i64 pk, .int .i64 pn, .float .f64 pf, .string ps, .slice pa pl pc] 26)) = wd at *
  obtain ⟨hx0, hx1, hx2, hx3, hx4⟩ := cells5 HX.out
  go_wp2_with fail
  refine HVA.out.mono ?_
  rintro e w2 ⟨rfl, hb2⟩
  have HB2 := Lib.hid (HB1.out.trans (hb2.mono HB1.out.size))
  have HX2 := Lib.hid ((hb2.block _ (lt_of_heap HX.out)).trans HX.out)
  clear hb2 hx0 hx1 hx2 hx3 hx4
  obtain ⟨hx0, hx1, hx2, hx3, hx4⟩ := cells5 HX2.out
  cases g with
  | false =>
    go_wp2_with fail
    go_ret
    exact ⟨by simp, HB2.out⟩
  | true =>
    have HC2 := Lib.hid (HCC.out rfl w2 HB2.out)
    go_wp2_with fail
    refine HC2.out.mono ?_
    rintro e w3 ⟨rfl, hb3⟩
    have HB3 := Lib.hid (HB2.out.trans (hb3.mono HB2.out.size))
    clear hb3
    go_wp2_with fail
    go_ret
    exact ⟨by simp, HB3.out⟩
end Go.Proofs.YtpijpeocdlnhiaaGreatDoor
