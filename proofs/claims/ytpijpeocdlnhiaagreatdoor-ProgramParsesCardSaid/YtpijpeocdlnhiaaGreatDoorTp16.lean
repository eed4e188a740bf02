/- Texts for programTexts_holds, joined: TRight, TLen, TTop, QStep. -/
import Derived.Test.YtpijpeocdlnhiaaGreatDoorTp15
import Derived.Test.YtpijpeocdlnhiaaGreatDoorTp09
import Derived.Test.YtpijpeocdlnhiaaGreatDoorTp10
import Derived.Lib.ItoaLen
import Derived.Test.YtpijpeocdlnhiaaGreatDoorTp14
set_option linter.unusedVariables false
set_option linter.unusedSimpArgs false
namespace Go.Proofs.YtpijpeocdlnhiaaGreatDoor
open Go.RowKit
theorem head_bools (left k n : Int) (f : Nat) (s : ByteArray) (len : Nat) :
    headB left k n f s len = (decide (0 ≤ k) && decide (k ≤ 4) && !((k != 1) && (n != 0) || (k != 2) && ((canonB f : Int) != 0) || (k != 3) && !s.toList.isEmpty || (k != 4) && decide (0 < len)) && !((k == 4) && (left == 0))) := by
  unfold headB
  have h1 : (decide (canonB f = 0)) = !((canonB f : Int) != 0) := by
    by_cases h : canonB f = 0
    · simp [h]
    · have : (canonB f : Int) ≠ 0 := by omega
      simp [h]
  have h2 : decide (s.toList = []) = s.toList.isEmpty := by cases s.toList <;> rfl
  have h3 : decide (len = 0) = !decide (0 < len) := by
    by_cases h : len = 0
    · simp [h]
    · have : 0 < len := by omega
      simp [h, this]
  rw [h1, h2, h3]
  generalize ((canonB f : Int) != 0) = y2
  generalize s.toList.isEmpty = y3
  generalize decide (0 < len) = y4
  have e : ∀ (a b : Int), decide (a = b) = (a == b) := fun a b => by by_cases h : a = b <;> simp [h]
  have e2 : ∀ (a b : Int), (a != b) = !(a == b) := fun _ _ => rfl
  simp only [e, e2, Bool.decide_and]
  generalize (k == 1) = a1
  generalize (k == 2) = a2
  generalize (k == 3) = a3
  generalize (k == 4) = a4
  generalize (n == 0) = a5
  generalize (left == 0) = a6
  generalize decide (0 ≤ k) = a7
  generalize decide (k ≤ 4) = a8
  cases a1 <;> cases a2 <;> cases a3 <;> cases a4 <;> cases a5 <;> cases a6 <;> cases a7 <;> cases a8 <;> cases y2 <;> cases y3 <;> cases y4 <;> rfl
set_option maxRecDepth 100000 in
set_option maxHeartbeats 4000000 in
theorem rright_any (t : VT) : ∀ (left : Int) (v : VV) (S : Nat → Prop) (w : World), 0 ≤ left → left ≤ 8 → TRead w S t v → wfT t →
    Calls Tryz.prog 42 #[v.val, .int .i64 left] w fun e w' => e = .returned (.bool (goodT left t)) ∧ Below w.heap.size w w' := by
  induction t using VT.ind with
  | _ k n f s l ih =>
    intro left v S w hl0 hl8 hv hwf
    have HV := Lib.hid hv
    have hval : v.val = .agg #[.int .i64 k, .int .i64 n, .float .f64 f, .string s, .slice v.a l.length v.c] := hv.val
    have hmax : l.length ≤ maxLen := hv.small
    unfold maxLen at hmax
    have hlen : l.length ≤ v.c := by obtain ⟨vs, hr, _⟩ := hv.elems; obtain ⟨_, _, _, he, hle, _⟩ := hr; cases he; exact hle
    rw [hval]
    have HI := Lib.hid ih
    have HWF := Lib.hid hwf
    rw [wfT] at hwf
    obtain ⟨-, -, hf, -, -⟩ := hwf
    have HBT := Lib.hid (rbits_any f)
    clear hv hval ih hf
    obtain ⟨va, hva⟩ : ∃ va, va = v.a := ⟨_, rfl⟩
    have HVA := Lib.hid hva
    rw [← hva]
    clear hva
    have HX : Hid ((w.alloc (.cells #[.int .i64 k, .int .i64 n, .float .f64 f, .string s, .slice va l.length v.c] 26)).heap[w.heap.size]? = some (.cells #[.int .i64 k, .int .i64 n, .float .f64 f, .string s, .slice va l.length v.c] 26 (0, 0))) := heap_alloc_new w _
    have HB1 : Hid (Below w.heap.size w (w.alloc (.cells #[.int .i64 k, .int .i64 n, .float .f64 f, .string s, .slice va l.length v.c] 26))) := (Below.refl _ _).alloc (Nat.le_refl _) _
    obtain ⟨G, hG⟩ : ∃ G, G = goodT left (.node k n f s l) := ⟨_, rfl⟩
    rw [← hG]
    have HG : Hid (G = (headB left k n f s l.length && goodL (left - 1) l)) := by rw [Hid, hG, goodT]
    clear hG
    go_enter Tryz.func42, Tryz.ntmps42
    go_upto_region 1 with fail
    generalize (w.alloc (.cells #[.int .i64 k, .int .i64 n, .float .f64 f, .string s, .slice va l.length v.c] 26)) = wd at *
    obtain ⟨hx0, hx1, hx2, hx3, hx4⟩ := cells5 HX.out
    obtain ⟨cb, hcb⟩ : ∃ cb : Int, cb = (canonB f : Int) := ⟨_, rfl⟩
    simp only [← hcb] at HBT
    have HCB := Lib.hid hcb
    clear hcb
    obtain ⟨b1, hb1⟩ : ∃ b, (k != 1) = b := ⟨_, rfl⟩
    obtain ⟨b2, hb2⟩ : ∃ b, (k != 2) = b := ⟨_, rfl⟩
    obtain ⟨b3, hb3⟩ : ∃ b, (k != 3) = b := ⟨_, rfl⟩
    obtain ⟨b4, hb4⟩ : ∃ b, (k != 4) = b := ⟨_, rfl⟩
    obtain ⟨y1, hy1⟩ : ∃ b, (n != 0) = b := ⟨_, rfl⟩
    obtain ⟨y2, hy2⟩ : ∃ b, (cb != 0) = b := ⟨_, rfl⟩
    obtain ⟨y3, hy3⟩ : ∃ b, s.toList.isEmpty = b := ⟨_, rfl⟩
    obtain ⟨y4, hy4⟩ : ∃ b, decide (0 < l.length) = b := ⟨_, rfl⟩
    go_cut [45] from 6 to 45 (fun s45 wx => s45 = .bool (b1 && y1 || b2 && y2 || b3 && !y3 || b4 && y4) ∧ wx = wd)
    case first =>
      go_wp2_with (go_at_call 71; refine (HBT.out _).mono ?_; rintro e w1 ⟨rfl, rfl⟩)
      all_goals go_meet
      all_goals
        refine ⟨congrArg Value.bool ?_, rfl⟩
        clear hb1 hb2 hb3 hb4 hy1 hy2 hy3 hy4 HX HB1 HV HVA HI HWF HBT
        simp_all
    obtain ⟨rfl, rfl⟩ := hcut
    obtain ⟨c4, hc4⟩ : ∃ b, (k == 4) = b := ⟨_, rfl⟩
    obtain ⟨z, hz⟩ : ∃ b, (left == 0) = b := ⟨_, rfl⟩
    have HHB := Lib.hid (head_bools left k n f s l.length)
    rw [← HCB.out, hb1, hb2, hb3, hb4, hy1, hy2, hy3, hy4, hc4, hz] at HHB
    have hb4c : b4 = !c4 := by rw [← hb4, ← hc4]; rfl
    have HY4 := Lib.hid hy4
    have HC4 := Lib.hid hb4c
    have HZ := Lib.hid hz
    clear hb1 hb2 hb3 hb4 hy1 hy2 hy3 hy4 HBT hb4c
    obtain ⟨bad, hbad⟩ : ∃ b, (b1 && y1 || b2 && y2 || b3 && !y3 || b4 && y4) = b := ⟨_, rfl⟩
    rw [hbad] at HHB ⊢
    have HBAD := Lib.hid hbad
    clear hbad
    cases bad with
    | true =>
      have HF : Hid (G = false) := by rw [Hid, HG.out, HHB.out]; simp
      go_wp2_with fail
      go_ret
      exact ⟨by rw [HF.out]; rfl, HB1.out⟩
    | false =>
      go_upto_region 3 with fail
      go_cut [52] from 46 to 52 (fun s52 wx => s52 = .bool (c4 && z) ∧ wx = wc)
      case first =>
        go_wp2_with fail
        all_goals go_meet
        all_goals
          refine ⟨congrArg Value.bool ?_, rfl⟩
          simp_all
      obtain ⟨rfl, rfl⟩ := hcut
      clear hc4 hz
      obtain ⟨cz, hcz⟩ : ∃ b, (c4 && z) = b := ⟨_, rfl⟩
      rw [hcz] at HHB ⊢
      have HCZ := Lib.hid hcz
      clear hcz
      cases cz with
      | true =>
        have HF : Hid (G = false) := by rw [Hid, HG.out, HHB.out]; simp
        go_wp2_with fail
        go_ret
        exact ⟨by rw [HF.out]; rfl, HB1.out⟩
      | false =>
        have HLF : Hid (0 < l.length → 1 ≤ left) := by
          intro h0
          have e1 := HY4.out
          rw [decide_eq_true h0] at e1
          have e2 := HBAD.out
          rw [← e1, HC4.out] at e2
          have e3 := HCZ.out
          have e4 := HZ.out
          cases c4 with
          | false => simp at e2
          | true =>
            rw [Bool.true_and] at e3
            rw [e3] at e4
            have := beq_eq_false_iff_ne.1 e4
            omega
        have HGL : Hid (G = (decide (0 ≤ k) && decide (k ≤ 4) && goodL (left - 1) l)) := by rw [Hid, HG.out, HHB.out]; simp
        clear HG HHB HY4 HC4 HZ HBAD HCZ hx0 hx1 hx2 hx3 hx4
        go_wp2_with fail
        go_loopw [5] (fun i w' => ∃ (m : Nat), i = .int .i64 m ∧ m ≤ l.length ∧ Hid (goodL (left - 1) (l.take m) = true) ∧ Hid (Below w.heap.size w w') ∧ Hid (w'.heap[w.heap.size]? = some (.cells #[.int .i64 k, .int .i64 n, .float .f64 f, .string s, .slice va l.length v.c] 26 (0, 0)))) (fun i _ => l.length - (RowKit.intOf i).toNat)
        case atStart => exact ⟨0, rfl, Nat.zero_le _, rfl, HB1.out, HX.out⟩
        case round =>
          obtain ⟨m, rfl, hm, HGM, HBE, HXR⟩ := hrel
          by_cases hlt : m < l.length
          · have hx4 := (cells5 HXR.out).2.2.2.2
            obtain ⟨b, o, hb0, hcap, hblt, -, p, hp, hc0, hc1, hc2, hc3, hc4⟩ := (HV.out.later HBE.out).child m hlt
            obtain rfl : va = some ⟨b, o, none⟩ := HVA.out.trans hb0
            clear hb0
            have hin := List.getElem_mem hlt
            have hl1 := HLF.out (by omega)
            have HC := Lib.hid (HI.out l[m] hin (left - 1) p S wr (by omega) (by omega) hp ((wfL_iff l).1 (by have h := HWF.out; rw [wfT] at h; exact h.2.2.2.2) _ hin))
            have hw : IntKind.i64.wrap (left - 1) = left - 1 := by rw [IntKind.wrap_i64]; omega
            have HGG : Hid (goodL (left - 1) l = true → goodT (left - 1) l[m] = true) := fun h => (goodL_iff _ _).1 h _ hin
            have HGN : Hid (goodT (left - 1) l[m] = true → goodL (left - 1) (l.take (m + 1)) = true) := fun h => by
              rw [goodL_iff, List.take_succ_eq_append_getElem hlt]
              intro t ht
              rcases List.mem_append.1 ht with h1 | h1
              · exact (goodL_iff _ _).1 HGM.out t h1
              · rw [List.mem_singleton] at h1; rw [h1]; exact h
            generalize goodT (left - 1) l[m] = g at *
            clear hp hin
            go_wp2_with fail
            refine HC.out.mono ?_
            rintro e w2 ⟨rfl, hb2⟩
            have HB2 := Lib.hid (HBE.out.trans (hb2.mono HBE.out.size))
            have HX2 := Lib.hid ((hb2.block _ (lt_of_heap HXR.out)).trans HXR.out)
            clear hb2 HC hc0 hc1 hc2 hc3 hc4 hx4
            cases g with
            | false =>
              have HF : Hid (G = false) := by
                rw [Hid, HGL.out]
                cases hq : goodL (left - 1) l with
                | false => simp
                | true => have := HGG.out hq; cases this
              go_wp2_with fail
              go_ret
              exact ⟨by rw [HF.out]; rfl, HB2.out⟩
            | true =>
              go_wp2_with fail
              refine ⟨⟨m + 1, by go_num, by omega, HGN.out (by simp), HB2.out, HX2.out⟩, ?_⟩
              simp [RowKit.intOf]; omega
          · obtain rfl : m = l.length := by omega
            have hx0 := (cells5 HXR.out).1
            have hx4 := (cells5 HXR.out).2.2.2.2
            have HF : Hid (G = (decide (0 ≤ k) && decide (k ≤ 4))) := by
              have h := HGM.out
              rw [List.take_length] at h
              rw [Hid, HGL.out, h, Bool.and_true]
            by_cases h7 : 0 ≤ k
            · by_cases h8 : k ≤ 4
              · go_wp2_with fail
                go_ret
                exact ⟨by rw [HF.out]; simp [h7, h8], HBE.out⟩
              · go_wp2_with fail
                go_ret
                exact ⟨by rw [HF.out]; simp [h7, h8], HBE.out⟩
            · go_wp2_with fail
              go_ret
              exact ⟨by rw [HF.out]; simp; omega, HBE.out⟩
set_option maxRecDepth 100000 in
set_option maxHeartbeats 1000000 in
theorem rvalid_any (t : VT) (v : VV) (S : Nat → Prop) (w : World) (hv : TRead w S t v) (hwf : wfT t) :
    Calls Tryz.prog 14 #[v.val] w fun e w' => e = .returned (.bool (goodT 8 t)) ∧ Below w.heap.size w w' := by
  have HX : Hid ((w.alloc (.cells #[.int .i64 v.k, .int .i64 v.n, .float .f64 v.f, .string v.s, .slice v.a v.l v.c] 26)).heap[w.heap.size]? = some (.cells #[.int .i64 v.k, .int .i64 v.n, .float .f64 v.f, .string v.s, .slice v.a v.l v.c] 26 (0, 0))) := heap_alloc_new w _
  have HB1 : Hid (Below w.heap.size w (w.alloc (.cells #[.int .i64 v.k, .int .i64 v.n, .float .f64 v.f, .string v.s, .slice v.a v.l v.c] 26))) := (Below.refl _ _).alloc (Nat.le_refl _) _
  have HC := Lib.hid (rright_any t 8 v S _ (by decide) (by decide) (hv.later HB1.out) hwf)
  obtain ⟨pk, pn, pf, ps, pa, pl, pc⟩ := v
  dsimp only [VV.val] at *
  generalize goodT 8 t = g at *
  clear hv hwf
  go_enter Tryz.func14, Tryz.ntmps14
  go_upto_region 1 with fail
  generalize (w.alloc (.cells #[.int .i64 pk, .int .i64 pn, .float .f64 pf, .string ps, .slice pa pl pc] 26)) = wd at *
  obtain ⟨hx0, hx1, hx2, hx3, hx4⟩ := cells5 HX.out
  go_wp2_with fail
  refine HC.out.mono ?_
  rintro e w2 ⟨rfl, hb2⟩
  have HB2 := Lib.hid (HB1.out.trans (hb2.mono HB1.out.size))
  clear hb2
  go_wp2_with fail
  go_ret
  exact ⟨rfl, HB2.out⟩
set_option maxRecDepth 100000 in
set_option maxHeartbeats 1000000 in
theorem rtop_any (t : VT) (v : VV) (S : Nat → Prop) (w : World) (hv : TRead w S t v) (hwf : wfT t) (hlen : goodT 8 t = true → (textT t).length ≤ 1000000) :
    Calls Tryz.prog 21 #[v.val] w fun e w' => e = .returned (.string ⟨(textTop t).toArray⟩) ∧ Below w.heap.size w w' := by
  have HX : Hid ((w.alloc (.cells #[.int .i64 v.k, .int .i64 v.n, .float .f64 v.f, .string v.s, .slice v.a v.l v.c] 26)).heap[w.heap.size]? = some (.cells #[.int .i64 v.k, .int .i64 v.n, .float .f64 v.f, .string v.s, .slice v.a v.l v.c] 26 (0, 0))) := heap_alloc_new w _
  have HB1 : Hid (Below w.heap.size w (w.alloc (.cells #[.int .i64 v.k, .int .i64 v.n, .float .f64 v.f, .string v.s, .slice v.a v.l v.c] 26))) := (Below.refl _ _).alloc (Nat.le_refl _) _
  have HVA := Lib.hid (rvalid_any t v S _ (hv.later HB1.out) hwf)
  have hC : goodT 8 t = true → ∀ W, Below w.heap.size w W → Calls Tryz.prog 48 #[v.val] W fun e w' => e = .returned (.string ⟨(textT t).toArray⟩) ∧ Below W.heap.size W w' :=
    fun h W hW => rtext_all t hwf (hlen h) v S W (hv.later hW)
  have htt : textTop t = if goodT 8 t = true then textT t else [] := rfl
  rw [htt]
  obtain ⟨pk, pn, pf, ps, pa, pl, pc⟩ := v
  dsimp only [VV.val] at *
  generalize goodT 8 t = g at *
  generalize textT t = tx at *
  clear htt hv hwf hlen
  have HCC := Lib.hid hC
  clear hC
  go_enter Tryz.func21, Tryz.ntmps21
  go_upto_region 1 with fail
  generalize (w.alloc (.cells #[.int .i64 pk, .int .i64 pn, .float .f64 pf, .string ps, .slice pa pl pc] 26)) = wd at *
  obtain ⟨hx0, hx1, hx2, hx3, hx4⟩ := cells5 HX.out
  go_wp2_with fail
  refine HVA.out.mono ?_
  rintro e w2 ⟨rfl, hb2⟩
  have HB2 := Lib.hid (HB1.out.trans (hb2.mono HB1.out.size))
  have HX2 := Lib.hid ((hb2.block _ (lt_of_heap HX.out)).trans HX.out)
  clear hb2 hx0 hx1 hx2 hx3 hx4
  obtain ⟨hx0, hx1, hx2, hx3, hx4⟩ := cells5 HX2.out
  cases g with
  | false =>
    go_wp2_with fail
    go_ret
    exact ⟨by simp, HB2.out⟩
  | true =>
    have HC2 := Lib.hid (HCC.out rfl w2 HB2.out)
    go_wp2_with fail
    refine HC2.out.mono ?_
    rintro e w3 ⟨rfl, hb3⟩
    have HB3 := Lib.hid (HB2.out.trans (hb3.mono HB2.out.size))
    clear hb3
    go_wp2_with fail
    go_ret
    exact ⟨by simp, HB3.out⟩
theorem zero_text : textT zeroT = nilS := rfl
theorem int_len (n : Int) (h : -9223372036854775808 ≤ n ∧ n ≤ 9223372036854775807) : (textT (.node 1 n 0 ⟨#[]⟩ [])).length ≤ 101 := by
  have := Lib.itoa_length_le n h.1 h.2
  show (Lib.itoa n).length ≤ 101
  omega
theorem flt_len (f : Nat) : (textT (.node 2 0 f ⟨#[]⟩ [])).length ≤ 101 := by
  have := numTextL_small f
  show (35 :: numTextL f).length ≤ 101
  rw [List.length_cons]
  omega
theorem str_len (l : List UInt8) : (textT (.node 3 0 0 ⟨l.toArray⟩ [])).length = 2 + 2 * l.length := by
  show (34 :: hexL (⟨l.toArray⟩ : ByteArray).data.toList ++ [34]).length = _
  rw [List.length_append, List.length_cons, hexL_length]
  simp
  omega
theorem wordP_len (s : List UInt8) : (textT (wordP s)).length ≤ 101 + 2 * s.length := by
  unfold wordP
  split
  · have := flt_len (numParseF s.tail); omega
  · split
    · rw [str_len]
      have h1 := unhexP_length (Lib.trimB s 34)
      have h2 := trimB_length s 34
      omega
    · split
      · rw [zero_text]; show 3 ≤ _; omega
      · have := int_len _ (intP_bounds s); omega
def LnP (p : List UInt8 → VT × List UInt8) : Prop := ∀ s, (textT (p s).1).length + 110 * (p s).2.length ≤ 110 * s.length + 101
theorem texts_add (l : List VT) (t : VT) : (textsT (l ++ [t])).length ≤ (textsT l).length + 1 + (textT t).length := by
  cases l with
  | nil => show (textT t ++ []).length ≤ 0 + 1 + _; rw [List.append_nil]; omega
  | cons a l => rw [textsT_append _ _ (by simp), List.length_append, List.length_cons]; omega
theorem loopP_len (p : List UInt8 → VT × List UInt8) (hp : LnP p) : ∀ (n : Nat) (s : List UInt8) (acc : List VT),
    (textsT (loopP p n s acc).1).length + 110 * (loopP p n s acc).2.length ≤ (textsT acc).length + 110 * s.length + 102
  | 0, s, acc => by rw [loopP]; show (textsT acc).length + 110 * s.length ≤ _; omega
  | n + 1, [], acc => by rw [loopP.eq_def]; show (textsT acc).length + 0 ≤ _; omega
  | n + 1, c :: r, acc => by
    have h := hp (c :: r)
    have ha := texts_add acc (p (c :: r)).1
    rw [loopP.eq_def]
    simp only []
    split
    · show (textsT acc).length + 110 * r.length ≤ _
      rw [List.length_cons]; omega
    · cases hq : (p (c :: r)).2 with
      | nil =>
        rw [hq] at h
        simp only [List.length_nil] at h ⊢
        omega
      | cons d q =>
        rw [hq] at h
        rw [List.length_cons] at h
        simp only []
        split
        · have := loopP_len p hp n q (acc ++ [(p (c :: r)).1])
          omega
        · split
          · show (textsT (acc ++ [(p (c :: r)).1])).length + 110 * q.length ≤ _
            omega
          · show (textsT (acc ++ [(p (c :: r)).1])).length + 110 * (d :: q).length ≤ _
            rw [List.length_cons]
            omega
theorem word_lenP (s : List UInt8) : (textT (wordP (s.take (wN s)))).length + 110 * (s.drop (wN s)).length ≤ 110 * s.length + 101 := by
  have h1 := wordP_len (s.take (wN s))
  have h2 := wN_le s
  rw [List.length_take] at h1
  rw [List.length_drop]
  omega
theorem node4_text (l : List VT) : (textT (.node 4 0 0 ⟨#[]⟩ l)).length = (textsT l).length + 2 := by
  rw [textT, if_pos rfl, List.length_cons, List.length_append]; rfl
theorem parseP_len : ∀ k, LnP (parseP k)
  | 0 => by intro s; rw [parseP]; exact word_lenP s
  | k + 1 => by
    intro s
    rw [parseP]
    split
    · rename_i h
      cases s with
      | nil => cases h
      | cons c r =>
        have := loopP_len _ (parseP_len k) r.length r []
        unfold listP
        rw [List.tail_cons, node4_text, List.length_cons]
        rw [show textsT [] = [] from rfl, List.length_nil] at this
        show _ + 110 * (loopP (parseP k) r.length r []).2.length ≤ _
        omega
    · exact word_lenP s
def TopPost (w : World) (r : VT × Bool) (e : Ending) (w' : World) : Prop :=
  (∃ v : VV, e = .returned (.tuple #[v.val, .bool r.2]) ∧ TOwn w' r.1 v (fun b => w.heap.size ≤ b ∧ b < w'.heap.size)) ∧ Below w.heap.size w w'
theorem TOwn.setCell {w : World} {t : VT} {v : VV} {n B : Nat} (h : TOwn w t v (fun b => B ≤ b ∧ b < n)) {p : Addr} (hp : p.block < B) {u : Value} : TOwn (w.setCell p u) t v (fun b => B ≤ b ∧ b < n) :=
  h.frame _ (fun k hk _ => Below.heap_setCell _ _ _ _ (by omega))
set_option maxRecDepth 100000 in
theorem top_post {w wr : World} {f : Func} {t : VT} {v : VV} {b : Bool} {ac : Act} (hf : f.results = #[.cell 2 26, .tmp 3]) (hN : wr.heap[w.heap.size]? = some (.cells #[.int .i64 0, .int .i64 0, .float .f64 0, .string ⟨#[]⟩, .slice none 0 0] 26 (0, 0)))
    (hB : Below w.heap.size w wr) (hT : TOwn wr t v (fun b => w.heap.size + 1 ≤ b ∧ b < wr.heap.size)) (h2 : ac.tmps.getD 2 undef = .pointer (some ⟨w.heap.size, 0, none⟩)) (h3 : ac.tmps.getD 3 undef = .bool b) (hd : ac.defers = []) :
    bodyPost Tryz.prog f (TopPost w (t, b)) .ret ac (((((wr.setCell ⟨w.heap.size, 0, none⟩ (.int .i64 v.k)).setCell ⟨w.heap.size, 1, none⟩ (.int .i64 v.n)).setCell ⟨w.heap.size, 2, none⟩ (.float .f64 v.f)).setCell ⟨w.heap.size, 3, none⟩ (.string v.s)).setCell ⟨w.heap.size, 4, none⟩ (.slice v.a v.l v.c)) := by
  have hr := results_row_tmp (P := Tryz.prog) (fn := f) (u := 3) hf ac.tmps _ w.heap.size 26 _ (0, 0) _ h2 (set5 hN rfl (.int .i64 v.k) (.int .i64 v.n) (.float .f64 v.f) (.string v.s) (.slice v.a v.l v.c)) Tryz.underlying26 rfl rfl
  rw [h3] at hr
  refine bodyPost_ret hr hd ?_
  have hl : w.heap.size < w.heap.size + 1 := Nat.lt_succ_self _
  have hszs : (((((wr.setCell ⟨w.heap.size, 0, none⟩ (.int .i64 v.k)).setCell ⟨w.heap.size, 1, none⟩ (.int .i64 v.n)).setCell ⟨w.heap.size, 2, none⟩ (.float .f64 v.f)).setCell ⟨w.heap.size, 3, none⟩ (.string v.s)).setCell ⟨w.heap.size, 4, none⟩ (.slice v.a v.l v.c)).heap.size = wr.heap.size := setCells_size w.heap.size v.cells 0 wr
  refine ⟨⟨v, rfl, ?_⟩, bel5 hB (Nat.le_refl _) _ _ _ _ _⟩
  exact (TOwn.setCell (TOwn.setCell (TOwn.setCell (TOwn.setCell (TOwn.setCell hT hl) hl) hl) hl) hl).mono _ (fun b hb => ⟨by omega, by rw [hszs]; exact hb.2⟩)
def zvv : VV := ⟨0, 0, 0, ⟨#[]⟩, none, 0, 0⟩
theorem zero_own (w : World) (S : Nat → Prop) : TOwn w zeroT zvv S := own_atom w S zeroT rfl
set_option maxRecDepth 100000 in
set_option maxHeartbeats 4000000 in
theorem ptop_gen (s : ByteArray) (hs : s.size ≤ 1000000) (hlen : (textT (parseP 8 s.data.toList).1).length ≤ 1000000) (w : World) (hB : Base w) (hT : Tabs w) :
    Calls Tryz.prog 9 #[.string s] w (TopPost w (ParseP s.data.toList)) := by
  have HX : Hid ((w.alloc (.cells #[.int .i64 0, .int .i64 0, .float .f64 0, .string ⟨#[]⟩, .slice none 0 0] 26)).heap[w.heap.size]? = some (.cells #[.int .i64 0, .int .i64 0, .float .f64 0, .string ⟨#[]⟩, .slice none 0 0] 26 (0, 0))) := heap_alloc_new _ _
  have HB1 : Hid (Below w.heap.size w (w.alloc (.cells #[.int .i64 0, .int .i64 0, .float .f64 0, .string ⟨#[]⟩, .slice none 0 0] 26))) := (Below.refl _ _).alloc (Nat.le_refl _) _
  have hsz1 : (w.alloc (.cells #[.int .i64 0, .int .i64 0, .float .f64 0, .string ⟨#[]⟩, .slice none 0 0] 26)).heap.size = w.heap.size + 1 := by simp
  have HPA := Lib.hid (parse_any 8 (Nat.le_refl _) s (by omega) _ (hB.later HB1.out))
  have hok := parseP_ok 8 s.data.toList (by rw [← Lib.size_eq]; unfold maxLen; omega)
  obtain ⟨p, hp⟩ : ∃ p, p = parseP 8 s.data.toList := ⟨_, rfl⟩
  have hPP : ParseP s.data.toList = if s.data.toList ≠ [] ∧ textTop p.1 = s.data.toList then (p.1, true) else (zeroT, false) := by rw [hp]; rfl
  rw [← hp] at HPA hok hlen
  have HVT : Hid (∀ (v : VV) (S : Nat → Prop) (W : World), Below w.heap.size w W → TRead W S p.1 v → Calls Tryz.prog 12 #[v.val] W fun e w' => e = .returned (.string ⟨(textTop p.1).toArray⟩) ∧ Below W.heap.size W w') :=
    fun v S W hW hv => vtop_any p.1 v S W hv hok.1 (fun _ => hlen) (hT.later hW)
  obtain ⟨tt, htt⟩ : ∃ tt : ByteArray, tt = ⟨(textTop p.1).toArray⟩ := ⟨_, rfl⟩
  rw [← htt] at HVT
  have hiff : textTop p.1 = s.data.toList ↔ tt = s := ⟨fun h => by rw [htt, h, ba_data'], fun h => by rw [← h, htt]⟩
  have HPQ : Hid (ParseP s.data.toList = if s.data.toList ≠ [] ∧ tt = s then (p.1, true) else (zeroT, false)) := by
    rw [Hid, hPP]
    by_cases h : tt = s
    · simp [hiff.2 h, h]
    · have h2 : ¬ textTop p.1 = s.data.toList := fun e => h (hiff.1 e)
      simp [h2, h]
  clear hPP hiff htt hlen hok hp hB hT
  generalize ParseP s.data.toList = R at *
  go_enter Tryz.func9, Tryz.ntmps9
  go_upto_region 1 with fail
  generalize (w.alloc (.cells #[.int .i64 0, .int .i64 0, .float .f64 0, .string ⟨#[]⟩, .slice none 0 0] 26)) = wd at *
  go_wp2_with fail
  refine HPA.out.mono ?_
  rintro e w3 ⟨⟨v, rfl, hv⟩, hb⟩
  clear HPA
  obtain ⟨vk, vn, vf, vs, va, vl, vc⟩ := v
  dsimp only at hv ⊢
  go_upto_region 2 with fail
  have HV4 : Hid ((w3.alloc (.cells #[.int .i64 vk, .int .i64 vn, .float .f64 vf, .string vs, .slice va vl vc] 26)).heap[w3.heap.size]? = some (.cells #[.int .i64 vk, .int .i64 vn, .float .f64 vf, .string vs, .slice va vl vc] 26 (0, 0))) := heap_alloc_new _ _
  have HZ4 : Hid ((w3.alloc (.cells #[.int .i64 vk, .int .i64 vn, .float .f64 vf, .string vs, .slice va vl vc] 26)).heap[w.heap.size]? = some (.cells #[.int .i64 0, .int .i64 0, .float .f64 0, .string ⟨#[]⟩, .slice none 0 0] 26 (0, 0))) := (Below.heap_alloc _ _ _ (Nat.lt_of_lt_of_le (lt_of_heap HX.out) hb.size)).trans ((hb.block _ (lt_of_heap HX.out)).trans HX.out)
  have HB4 : Hid (Below w.heap.size w (w3.alloc (.cells #[.int .i64 vk, .int .i64 vn, .float .f64 vf, .string vs, .slice va vl vc] 26))) := (HB1.out.trans (hb.mono HB1.out.size)).alloc (Nat.le_trans HB1.out.size hb.size) _
  have HU4 : Hid (TOwn (w3.alloc (.cells #[.int .i64 vk, .int .i64 vn, .float .f64 vf, .string vs, .slice va vl vc] 26)) p.1 ⟨vk, vn, vf, vs, va, vl, vc⟩ (fun b => w.heap.size + 1 ≤ b ∧ b < (w3.alloc (.cells #[.int .i64 vk, .int .i64 vn, .float .f64 vf, .string vs, .slice va vl vc] 26)).heap.size)) :=
    (hv.frame _ (fun k hk _ => Below.heap_alloc _ _ _ hk.2)).mono _ (fun b hb => ⟨by rw [hsz1] at hb; exact hb.1, by simp only [World.size_alloc]; omega⟩)
  have HL4 := Lib.hid (Nat.le_trans HB1.out.size hb.size)
  clear hv hb
  generalize (w3.alloc (.cells #[.int .i64 vk, .int .i64 vn, .float .f64 vf, .string vs, .slice va vl vc] 26)) = w4 at *
  by_cases hnil : s.data.toList = []
  · have hie : s.toList.isEmpty = true := by rw [ByteArray.toList_eq, hnil]; rfl
    obtain rfl : R = (zeroT, false) := by rw [HPQ.out, if_neg (fun h => h.1 hnil)]
    clear HPQ HVT hnil
    have hc0 := cellAt HZ4.out 0 (v := .int .i64 0) rfl
    have hc1 := cellAt HZ4.out 1 (v := .int .i64 0) rfl
    have hc2 := cellAt HZ4.out 2 (v := .float .f64 0) rfl
    have hc3 := cellAt HZ4.out 3 (v := .string ⟨#[]⟩) rfl
    have hc4 := cellAt HZ4.out 4 (v := .slice none 0 0) rfl
    have hf0 := freeAt HZ4.out 0
    have hf1 := freeAt HZ4.out 1
    have hf2 := freeAt HZ4.out 2
    have hf3 := freeAt HZ4.out 3
    have hf4 := freeAt HZ4.out 4
    go_wp2_with fail
    refine top_post (f := Tryz.f9) (v := zvv) (b := false) (t := zeroT) rfl HZ4.out HB4.out (zero_own _ _) ?_ ?_ ?_ <;> rfl
  · obtain ⟨c, r, hsr⟩ : ∃ c r, s.data.toList = c :: r := by
      cases hd : s.data.toList with
      | nil => exact absurd hd hnil
      | cons a b => exact ⟨a, b, rfl⟩
    have hie := (head_ba hsr).2
    have HC := Lib.hid (HVT.out ⟨vk, vn, vf, vs, va, vl, vc⟩ _ w4 HB4.out HU4.out.read)
    dsimp only [VV.val] at HC
    clear hsr HVT
    obtain ⟨hx0, hx1, hx2, hx3, hx4⟩ := cells5 HV4.out
    by_cases hts : tt = s
    · obtain rfl : R = (p.1, true) := by rw [HPQ.out, if_pos ⟨hnil, hts⟩]
      have hq1 : (tt.toList == s.toList) = true := by rw [hts]; simp
      have hq2 : (tt.toList != s.toList) = false := by rw [hts]; simp
      clear HPQ hnil hts
      go_wp2_with fail
      refine HC.out.mono ?_
      rintro e w5 ⟨rfl, hb5⟩
      have HB5 := Lib.hid (HB4.out.trans (hb5.mono HB4.out.size))
      have HZ5 := Lib.hid ((hb5.block _ (lt_of_heap HZ4.out)).trans HZ4.out)
      have HV5 := Lib.hid ((hb5.block _ (lt_of_heap HV4.out)).trans HV4.out)
      have HU5 : Hid (TOwn w5 p.1 ⟨vk, vn, vf, vs, va, vl, vc⟩ (fun b => w.heap.size + 1 ≤ b ∧ b < w5.heap.size)) :=
        (HU4.out.frame _ (fun k hk _ => hb5.block k hk.2)).mono _ (fun b hb => ⟨hb.1, Nat.lt_of_lt_of_le hb.2 hb5.size⟩)
      clear hb5 HC hx0 hx1 hx2 hx3 hx4
      obtain ⟨hx0, hx1, hx2, hx3, hx4⟩ := cells5 HV5.out
      have hc0 := cellAt HZ5.out 0 (v := .int .i64 0) rfl
      have hc1 := cellAt HZ5.out 1 (v := .int .i64 0) rfl
      have hc2 := cellAt HZ5.out 2 (v := .float .f64 0) rfl
      have hc3 := cellAt HZ5.out 3 (v := .string ⟨#[]⟩) rfl
      have hc4 := cellAt HZ5.out 4 (v := .slice none 0 0) rfl
      have hf0 := freeAt HZ5.out 0
      have hf1 := freeAt HZ5.out 1
      have hf2 := freeAt HZ5.out 2
      have hf3 := freeAt HZ5.out 3
      have hf4 := freeAt HZ5.out 4
      go_wp2_with fail
      refine top_post (f := Tryz.f9) (v := ⟨vk, vn, vf, vs, va, vl, vc⟩) (b := true) (t := p.1) rfl HZ5.out HB5.out HU5.out ?_ ?_ ?_ <;> rfl
    · obtain rfl : R = (zeroT, false) := by rw [HPQ.out, if_neg (fun h => hts h.2)]
      have hq0 := ba_beq tt s
      rw [decide_eq_false hts, beq_toListBytes] at hq0
      have hq2 : (tt.toList != s.toList) = true := by rw [bne, hq0]; rfl
      clear HPQ hnil hts
      go_wp2_with fail
      refine HC.out.mono ?_
      rintro e w5 ⟨rfl, hb5⟩
      have HB5 := Lib.hid (HB4.out.trans (hb5.mono HB4.out.size))
      have HZ5 := Lib.hid ((hb5.block _ (lt_of_heap HZ4.out)).trans HZ4.out)
      clear hb5 HC hx0 hx1 hx2 hx3 hx4
      have hc0 := cellAt HZ5.out 0 (v := .int .i64 0) rfl
      have hc1 := cellAt HZ5.out 1 (v := .int .i64 0) rfl
      have hc2 := cellAt HZ5.out 2 (v := .float .f64 0) rfl
      have hc3 := cellAt HZ5.out 3 (v := .string ⟨#[]⟩) rfl
      have hc4 := cellAt HZ5.out 4 (v := .slice none 0 0) rfl
      have hf0 := freeAt HZ5.out 0
      have hf1 := freeAt HZ5.out 1
      have hf2 := freeAt HZ5.out 2
      have hf3 := freeAt HZ5.out 3
      have hf4 := freeAt HZ5.out 4
      go_wp2_with fail
      refine top_post (f := Tryz.f9) (v := zvv) (b := false) (t := zeroT) rfl HZ5.out HB5.out (zero_own _ _) ?_ ?_ ?_ <;> rfl
theorem ptop_any (s : ByteArray) (hs : s.size ≤ 9000) (w : World) (hB : Base w) (hT : Tabs w) :
    Calls Tryz.prog 9 #[.string s] w (TopPost w (ParseP s.data.toList)) := by
  have hln := parseP_len 8 s.data.toList
  rw [← Lib.size_eq] at hln
  exact ptop_gen s (by omega) (by omega) w hB hT
structure PW (w : World) : Prop where
  words : Words w
  base : Base w
  tabs : Tabs w
  maxl : ∃ m, w.cell? ⟨2, 0, none⟩ = some (.int .i64 m)
theorem PW.later {w w' : World} (h : PW w) (hb : Below w.heap.size w w') : PW w' :=
  ⟨h.words.later hb, h.base.later hb, h.tabs.later hb, by
    obtain ⟨m, hm⟩ := h.maxl
    exact ⟨m, (hb.cell (p := ⟨2, 0, none⟩) (World.block_lt_of_cell? w _ hm)).trans hm⟩⟩
set_option maxRecDepth 100000 in
theorem strs_index (a : Option Addr) (c : Nat) (l : List ByteArray) (s : ByteArray) (w : World) (h : Reads w (.slice a l.length c) l.length 1 (l.map Value.string)) (hl : l.length ≤ 100000) :
    Calls Tryz.prog 95 #[.slice a l.length c, .string s] w fun e w' => e = .returned (.int .i64 (ixIn s l 0)) ∧ w' = w := by
  have HC : Hid (∀ (j : Nat) (hj : j < l.length), ∃ b o, a = some ⟨b, o, none⟩ ∧ l.length ≤ c ∧ w.cell? ⟨b, o + j, none⟩ = some (.string l[j])) := by
    intro j hj
    obtain ⟨b, o, c', hv, hle, hb, hc⟩ := h.at (by omega)
    cases hv
    exact ⟨b, o, rfl, hle, hc j _ (by rw [List.getElem?_map, List.getElem?_eq_getElem hj]; rfl)⟩
  clear h
  go_enter Tryz.func95, Tryz.ntmps95
  go_wp2
  go_loop [8] (fun i => ∃ m : Nat, m ≤ l.length ∧ i = .int .i64 m ∧ Hid (ixIn s l 0 = ixIn s (l.drop m) m)) (fun i => l.length - (RowKit.intOf i).toNat)
  case atStart => exact ⟨0, by omega, rfl, rfl⟩
  case round =>
    obtain ⟨m, hm, rfl, HLOW⟩ := hrel
    by_cases hlt : m < l.length
    · obtain ⟨b, o, rfl, hle, hc⟩ := HC.out m hlt
      have hd : l.drop m = l[m] :: l.drop (m + 1) := List.drop_eq_getElem_cons hlt
      by_cases hx : s = l[m]
      · have HM : Hid (ixIn s l 0 = (m : Int)) := by rw [Hid, HLOW.out, hd, ixIn, if_pos hx]
        rw [← hx] at hc
        clear hx hd
        go_wp2
        go_ret
        rw [HM.out]
        exact ⟨rfl, rfl⟩
      · have HN : Hid (ixIn s l 0 = ixIn s (l.drop (m + 1)) (m + 1)) := by rw [Hid, HLOW.out, hd, ixIn, if_neg hx]
        have hs1 := (str_ne hx).1
        have hs2 := (str_ne hx).2
        clear hx hd HLOW
        generalize l[m] = y at *
        go_wp2
        go_round
        case rel => exact ⟨m + 1, by omega, by go_num, HN⟩
        case measure => simp [RowKit.intOf]; omega
    · have HM : Hid (ixIn s l 0 = -1) := by rw [Hid, HLOW.out, List.drop_eq_nil_of_le (by omega)]; rfl
      go_wp2
      go_ret
      rw [HM.out]
      exact ⟨rfl, rfl⟩
theorem words_reads {w : World} (h : Words w) : Reads w (.slice (some ⟨0, 0, none⟩) 13 13) 13 1 (wordsL.map Value.string) := by
  refine ⟨rfl, _, _, rfl, Nat.le_refl _, (fun h => by cases h), fun ad had j u hu => ?_⟩
  cases had
  rw [List.getElem?_map] at hu
  cases hx : wordsL[j]? with
  | none => rw [hx] at hu; cases hu
  | some x =>
    rw [hx] at hu
    cases hu
    have := h.2 j x hx
    have e : (⟨0, 0, none⟩ : Addr).add j = ⟨0, j, none⟩ := by
      unfold Addr.add
      split
      · rename_i h0; rw [h0]
      · simp
    rw [e]; exact this
theorem TOwn.s_eq {w : World} {t : VT} {v : VV} {S : Nat → Prop} (h : TOwn w t v S) : v.s = t.s := by
  cases t with
  | node k n f s l =>
    rw [TOwn] at h
    obtain ⟨-, -, -, h4, -⟩ := h
    exact h4
theorem set3 {w : World} {b : Nat} {cs : Array Value} {t : TypeId} (h : w.heap[b]? = some (.cells cs t (0, 0))) (hs : cs.size = 3) (x0 x1 x2 : Value) :
    (((w.setCell ⟨b, 0, none⟩ x0).setCell ⟨b, 1, none⟩ x1).setCell ⟨b, 2, none⟩ x2).heap[b]? = some (.cells #[x0, x1, x2] t (0, 0)) :=
  setCells_same b t [x0, x1, x2] 0 w cs h (by simp [hs]) |>.trans (by
    congr 2
    apply Array.ext'
    have h3 : cs.toList.drop 3 = [] := List.drop_eq_nil_of_le (by simp [hs])
    simp [h3])
theorem bel3 {B : Nat} {w0 w : World} {b : Nat} (h : Below B w0 w) (hb : B ≤ b) (x0 x1 x2 : Value) :
    Below B w0 (((w.setCell ⟨b, 0, none⟩ x0).setCell ⟨b, 1, none⟩ x1).setCell ⟨b, 2, none⟩ x2) :=
  ((h.setCell hb _).setCell hb _).setCell hb _
abbrev st3 (k n : Int) (s : ByteArray) : Array Value := #[.int .i64 k, .int .i64 n, .string s]
theorem cut_call (s : ByteArray) (hs : s.size ≤ 9000) (w : World) (hw : PW w) :
    Calls Tryz.prog 94 #[.string s, .string ⟨#[32]⟩] w fun e w' => (∃ b, e = .returned (.tuple #[.string ⟨(wordOf s.data.toList).toArray⟩, .string ⟨(restOf s.data.toList).toArray⟩, .bool b])) ∧ Below w.heap.size w w' := by
  obtain ⟨m, hm⟩ := hw.maxl
  refine (Tryz.strings_Cut s ⟨#[32]⟩ m w (by omega) hm).mono ?_
  rintro e w' ⟨rfl, n, rfl⟩
  exact ⟨⟨_, rfl⟩, below_drew (Below.refl _ _) n⟩
theorem restOf_len (l : List UInt8) : (restOf l).length ≤ l.length := by
  unfold restOf Lib.cut
  split
  · simp
  · simp
theorem step_post {w wr : World} {f : Func} {t : TypeId} {fs : Array Field} {cs : Array Value} {x : ST} {ac : Act} (hf : f.results = #[.cell 2 t]) (hu : Tryz.prog.underlying t = some (.struct fs)) (hi : (Tryz.prog.info? t).map (·.size) = some 3)
    (hN : wr.heap[w.heap.size]? = some (.cells cs t (0, 0))) (hcs : cs.size = 3) (hB : Below w.heap.size w wr) (h2 : ac.tmps.getD 2 undef = .pointer (some ⟨w.heap.size, 0, none⟩)) (hd : ac.defers = []) :
    bodyPost Tryz.prog f (fun e w' => e = .returned x.val ∧ Below w.heap.size w w') .ret ac (((wr.setCell ⟨w.heap.size, 0, none⟩ (.int .i64 x.k)).setCell ⟨w.heap.size, 1, none⟩ (.int .i64 x.n)).setCell ⟨w.heap.size, 2, none⟩ (.string x.s)) := by
  have hr := results_row1 (P := Tryz.prog) (fn := f) hf ac.tmps _ w.heap.size t _ (0, 0) _ h2 (set3 hN hcs (.int .i64 x.k) (.int .i64 x.n) (.string x.s)) hu rfl hi
  refine bodyPost_ret hr hd ?_
  exact ⟨rfl, bel3 hB (Nat.le_refl _) _ _ _⟩
set_option maxRecDepth 100000 in
set_option maxHeartbeats 4000000 in
theorem step_any (s : ByteArray) (hs : s.size ≤ 9000) (w : World) (hw : PW w) :
    Calls Tryz.prog 64 #[.string s] w fun e w' => e = .returned (stepP s).val ∧ Below w.heap.size w w' := by
  have HX : Hid ((w.alloc (.cells (st3 0 0 ⟨#[]⟩) 82)).heap[w.heap.size]? = some (.cells (st3 0 0 ⟨#[]⟩) 82 (0, 0))) := heap_alloc_new _ _
  have HB1 : Hid (Below w.heap.size w (w.alloc (.cells (st3 0 0 ⟨#[]⟩) 82))) := (Below.refl _ _).alloc (Nat.le_refl _) _
  have HSZ : Hid ((w.alloc (.cells (st3 0 0 ⟨#[]⟩) 82)).heap.size = w.heap.size + 1) := by simp [Hid]
  have HP1 := Lib.hid (hw.later HB1.out)
  have HC := Lib.hid (cut_call s hs _ HP1.out)
  have hrl := restOf_len s.data.toList
  rw [← Lib.size_eq] at hrl
  have HV : Hid (stepP s = ⟨ixIn ⟨(wordOf s.data.toList).toArray⟩ wordsL 0, if ixIn ⟨(wordOf s.data.toList).toArray⟩ wordsL 0 ∈ numL then intP (restOf s.data.toList) else 0, if ixIn ⟨(wordOf s.data.toList).toArray⟩ wordsL 0 ∈ namL then (ParseP (restOf s.data.toList)).1.s else ⟨#[]⟩⟩) := rfl
  obtain ⟨wd, hwd⟩ : ∃ wd : ByteArray, wd = ⟨(wordOf s.data.toList).toArray⟩ := ⟨_, rfl⟩
  obtain ⟨rs, hrs⟩ : ∃ rs : ByteArray, rs = ⟨(restOf s.data.toList).toArray⟩ := ⟨_, rfl⟩
  have hrd : restOf s.data.toList = rs.data.toList := by rw [hrs]
  have hrz : rs.size ≤ 9000 := by rw [hrs, mk_size]; omega
  rw [← hwd, ← hrs] at HC
  rw [← hwd, hrd] at HV
  generalize stepP s = x at *
  clear hwd hrs hrd hrl
  go_enter Tryz.func64, Tryz.ntmps64
  go_upto_region 1 with fail
  unfold st3 at *
  generalize w.alloc (.cells #[.int .i64 0, .int .i64 0, .string ⟨#[]⟩] 82) = wa at *
  go_wp2_with fail
  refine HC.out.mono ?_
  rintro e w2 ⟨⟨bc, rfl⟩, hb2⟩
  have HB2 := Lib.hid (HB1.out.trans (hb2.mono HB1.out.size))
  have HX2 := Lib.hid ((hb2.block _ (lt_of_heap HX.out)).trans HX.out)
  have HP2 := Lib.hid (HP1.out.later hb2)
  have HS2 : Hid (w.heap.size + 1 ≤ w2.heap.size) := by have := hb2.size; have := HSZ.out; rw [Hid]; omega
  clear hb2 HC HX HB1 HP1 HSZ
  have HRW := Lib.hid (strs_index _ 13 wordsL wd w2 (words_reads HP2.out.words) (by decide))
  have hix := ixIn_bounds wd wordsL 0
  have hwl : wordsL.length = 13 := rfl
  rw [hwl] at hix
  generalize ixIn wd wordsL 0 = k at *
  go_wp2_with fail
  refine HRW.out.mono ?_
  rintro e w2 ⟨rfl, rfl⟩
  have HS3 : Hid (w.heap.size < w2.heap.size) := HS2.out
  have HY : Hid ((w2.alloc (.cells (st3 k 0 ⟨#[]⟩) 82)).heap[w2.heap.size]? = some (.cells (st3 k 0 ⟨#[]⟩) 82 (0, 0))) := heap_alloc_new _ _
  go_upto_region 3 with fail
  unfold st3 at *
  have HBA : Hid (Below w.heap.size w (w2.alloc (.cells #[.int .i64 k, .int .i64 0, .string ⟨#[]⟩] 82))) := HB2.out.alloc (by have := HS3.out; rw [Hid] at *; omega) _
  have HXA : Hid ((w2.alloc (.cells #[.int .i64 k, .int .i64 0, .string ⟨#[]⟩] 82)).heap[w.heap.size]? = some (.cells #[.int .i64 0, .int .i64 0, .string ⟨#[]⟩] 82 (0, 0))) := (Below.heap_alloc _ _ _ (lt_of_heap HX2.out)).trans HX2.out
  have HPA : Hid (PW (w2.alloc (.cells #[.int .i64 k, .int .i64 0, .string ⟨#[]⟩] 82))) := HP2.out.later ((Below.refl _ _).alloc (Nat.le_refl _) _)
  generalize w2.alloc (.cells #[.int .i64 k, .int .i64 0, .string ⟨#[]⟩] 82) = w3 at *
  have HNE : Hid (w.heap.size < w2.heap.size) := HS3.out
  generalize hbx : w2.heap.size = bx at *
  clear hbx HRW HX2 HP2 HB2 HS2 HS3
  have y0 := cellAt HY.out 0 rfl
  go_wp2_with fail
  refine (numbered_any k _).mono ?_
  rintro e w4 ⟨rfl, hb4⟩
  have HY4 := Lib.hid ((hb4.block _ (lt_of_heap HY.out)).trans HY.out)
  have HX4 := Lib.hid ((hb4.block _ (lt_of_heap HXA.out)).trans HXA.out)
  have HB4 := Lib.hid (HBA.out.trans (hb4.mono HBA.out.size))
  have HP4 := Lib.hid (HPA.out.later hb4)
  clear hb4 y0 HY HXA HBA HPA
  have HBW : Hid (w.heap.size < bx) := HNE.out
  generalize hn0 : decide (k ∈ numL) = bn at *
  cases bn
  case' false =>
    have HN : Hid ((if k ∈ numL then intP rs.data.toList else 0) = 0) := by rw [Hid, if_neg (of_decide_eq_false hn0)]
    clear hn0
    go_upto_region 5 with fail
    rw [HN.out] at HV
    clear HN
    have HY6 := Lib.hid HY4.out
    have HX6 := Lib.hid HX4.out
    have HB6 := Lib.hid HB4.out
    have HP6 := Lib.hid HP4.out
    clear HY4 HX4 HB4 HP4
    obtain ⟨N, hN⟩ : ∃ N : Int, N = 0 := ⟨_, rfl⟩
    rw [← hN] at HV HY6
    clear hN
    generalize w4 = wv at *
  case' true =>
    have HN : Hid ((if k ∈ numL then intP rs.data.toList else 0) = intP rs.data.toList) := by rw [Hid, if_pos (of_decide_eq_true hn0)]
    rw [HN.out] at HV
    clear hn0 HN
    go_wp2_with fail
    refine (pint_any rs (by omega) _ HP4.out.base.errs).mono ?_
    rintro e w5 ⟨⟨err, rfl⟩, hb5⟩
    have HY5 := Lib.hid ((hb5.block _ (lt_of_heap HY4.out)).trans HY4.out)
    have HX5 := Lib.hid ((hb5.block _ (lt_of_heap HX4.out)).trans HX4.out)
    have HB5 := Lib.hid (HB4.out.trans (hb5.mono HB4.out.size))
    have HP5 := Lib.hid (HP4.out.later hb5)
    clear hb5 HY4 HX4 HB4 HP4
    have y1 := cellAt HY5.out 1 rfl
    have f1 := freeAt HY5.out 1
    generalize intP rs.data.toList = N at *
    go_upto_region 5 with fail
    have HY6 : Hid ((w5.setCell ⟨bx, 1, none⟩ (.int .i64 N)).heap[bx]? = some (.cells #[.int .i64 k, .int .i64 N, .string ⟨#[]⟩] 82 (0, 0))) := heap_store HY5.out 1 _
    have HX6 : Hid ((w5.setCell ⟨bx, 1, none⟩ (.int .i64 N)).heap[w.heap.size]? = some (.cells #[.int .i64 0, .int .i64 0, .string ⟨#[]⟩] 82 (0, 0))) := (Below.heap_setCell _ _ _ _ (by have := HBW.out; simp only; omega)).trans HX5.out
    have HB6 : Hid (Below w.heap.size w (w5.setCell ⟨bx, 1, none⟩ (.int .i64 N))) := HB5.out.setCell (by have := HBW.out; simp only; omega) _
    have HP6 := Lib.hid (hw.later HB6.out)
    clear HY5 HX5 HB5 HP5 y1 f1
    generalize w5.setCell ⟨bx, 1, none⟩ (.int .i64 N) = wv at *
  all_goals
    have HTP := Lib.hid (ptop_any rs (by omega) _ HP6.out.base HP6.out.tabs)
    have hps : (ParseP rs.data.toList).2 = false → (ParseP rs.data.toList).1.s = ⟨#[]⟩ := fun h => by
      unfold ParseP at h ⊢
      split at h
      · cases h
      · rename_i hc; rw [if_neg hc]; rfl
    generalize ParseP rs.data.toList = tp at *
    obtain ⟨t, bt⟩ := tp
    simp only at hps HV
    go_wp2_with fail
    refine HTP.out.mono ?_
    rintro e w6 ⟨⟨v, rfl, hv⟩, hb6⟩
    have hvs := hv.s_eq
    obtain ⟨vk, vn, vf, vs, va, vl, vc⟩ := v
    simp only at hvs
    subst hvs
    have HY7 := Lib.hid ((hb6.block _ (lt_of_heap HY6.out)).trans HY6.out)
    have HX7 := Lib.hid ((hb6.block _ (lt_of_heap HX6.out)).trans HX6.out)
    have HB7 := Lib.hid (HB6.out.trans (hb6.mono HB6.out.size))
    clear hb6 HY6 HX6 HB6 HP6 hv HTP
    go_upto_region 6 with fail
    have HU : Hid ((w6.alloc (.cells #[.int .i64 vk, .int .i64 vn, .float .f64 vf, .string t.s, .slice va vl vc] 26)).heap[w6.heap.size]? = some (.cells #[.int .i64 vk, .int .i64 vn, .float .f64 vf, .string t.s, .slice va vl vc] 26 (0, 0))) := heap_alloc_new _ _
    have HY8 := Lib.hid ((Below.heap_alloc w6 (.cells #[.int .i64 vk, .int .i64 vn, .float .f64 vf, .string t.s, .slice va vl vc] 26) _ (lt_of_heap HY7.out)).trans HY7.out)
    have HX8 := Lib.hid ((Below.heap_alloc w6 (.cells #[.int .i64 vk, .int .i64 vn, .float .f64 vf, .string t.s, .slice va vl vc] 26) _ (lt_of_heap HX7.out)).trans HX7.out)
    have HB8 := Lib.hid (HB7.out.alloc HB7.out.size (.cells #[.int .i64 vk, .int .i64 vn, .float .f64 vf, .string t.s, .slice va vl vc] 26))
    generalize w6.alloc (.cells #[.int .i64 vk, .int .i64 vn, .float .f64 vf, .string t.s, .slice va vl vc] 26) = w7 at *
    generalize w6.heap.size = bv at *
    clear HY7 HX7 HB7
    generalize t.s = ts at *
    cases bt with
    | false =>
      have HE : Hid (x = ⟨k, N, ⟨#[]⟩⟩) := by rw [Hid, HV.out]; rw [hps rfl]; simp
      clear hps HV
      have y0 := cellAt HY8.out 0 rfl
      have y1 := cellAt HY8.out 1 rfl
      have y2 := cellAt HY8.out 2 rfl
      have x0 := cellAt HX8.out 0 rfl
      have x1 := cellAt HX8.out 1 rfl
      have x2 := cellAt HX8.out 2 rfl
      have g0 := freeAt HX8.out 0
      have g1 := freeAt HX8.out 1
      have g2 := freeAt HX8.out 2
      go_wp2
      rw [HE.out]
      exact step_post (x := ⟨k, N, ⟨#[]⟩⟩) rfl Tryz.underlying82 (by kernel_rfl) HX8.out rfl HB8.out rfl rfl
    | true =>
      clear hps
      have y0 := cellAt HY8.out 0 rfl
      go_wp2_with fail
      refine (named_any k _).mono ?_
      rintro e w8 ⟨rfl, hb8⟩
      have HU9 := Lib.hid ((hb8.block _ (lt_of_heap HU.out)).trans HU.out)
      have HY9 := Lib.hid ((hb8.block _ (lt_of_heap HY8.out)).trans HY8.out)
      have HX9 := Lib.hid ((hb8.block _ (lt_of_heap HX8.out)).trans HX8.out)
      have HB9 := Lib.hid (HB8.out.trans (hb8.mono HB8.out.size))
      clear hb8 y0 HU HY8 HX8 HB8
      generalize hn1 : decide (k ∈ namL) = bm at *
      cases bm with
      | false =>
        have HE : Hid (x = ⟨k, N, ⟨#[]⟩⟩) := by rw [Hid, HV.out]; rw [if_neg (of_decide_eq_false hn1)]
        clear hn1 HV
        have y0 := cellAt HY9.out 0 rfl
        have y1 := cellAt HY9.out 1 rfl
        have y2 := cellAt HY9.out 2 rfl
        have x0 := cellAt HX9.out 0 rfl
        have x1 := cellAt HX9.out 1 rfl
        have x2 := cellAt HX9.out 2 rfl
        have g0 := freeAt HX9.out 0
        have g1 := freeAt HX9.out 1
        have g2 := freeAt HX9.out 2
        go_wp2
        rw [HE.out]
        exact step_post (x := ⟨k, N, ⟨#[]⟩⟩) rfl Tryz.underlying82 (by kernel_rfl) HX9.out rfl HB9.out rfl rfl
      | true =>
        have HE : Hid (x = ⟨k, N, ts⟩) := by rw [Hid, HV.out]; rw [if_pos (of_decide_eq_true hn1)]
        clear hn1 HV
        have u3 := cellAt HU9.out 3 rfl
        have y2 := cellAt HY9.out 2 rfl
        have f2 := freeAt HY9.out 2
        go_upto_region 8 with fail
        have HYa : Hid ((w8.setCell ⟨bx, 2, none⟩ (.string ts)).heap[bx]? = some (.cells #[.int .i64 k, .int .i64 N, .string ts] 82 (0, 0))) := heap_store HY9.out 2 _
        have HXa : Hid ((w8.setCell ⟨bx, 2, none⟩ (.string ts)).heap[w.heap.size]? = some (.cells #[.int .i64 0, .int .i64 0, .string ⟨#[]⟩] 82 (0, 0))) := (Below.heap_setCell _ _ _ _ (by have := HBW.out; simp only; omega)).trans HX9.out
        have HBa : Hid (Below w.heap.size w (w8.setCell ⟨bx, 2, none⟩ (.string ts))) := HB9.out.setCell (by have := HBW.out; simp only; omega) _
        clear HU9 HY9 HX9 HB9 u3 y2 f2
        generalize w8.setCell ⟨bx, 2, none⟩ (.string ts) = w9 at *
        have y0 := cellAt HYa.out 0 rfl
        have y1 := cellAt HYa.out 1 rfl
        have y2 := cellAt HYa.out 2 rfl
        have x0 := cellAt HXa.out 0 rfl
        have x1 := cellAt HXa.out 1 rfl
        have x2 := cellAt HXa.out 2 rfl
        have g0 := freeAt HXa.out 0
        have g1 := freeAt HXa.out 1
        have g2 := freeAt HXa.out 2
        go_wp2
        rw [HE.out]
        exact step_post (x := ⟨k, N, ts⟩) rfl Tryz.underlying82 (by kernel_rfl) HXa.out rfl HBa.out rfl rfl
end Go.Proofs.YtpijpeocdlnhiaaGreatDoor
