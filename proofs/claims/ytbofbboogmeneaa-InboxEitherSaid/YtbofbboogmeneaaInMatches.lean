/- The laws InboxMatches and InboxEither, walked. -/
import Derived.Test.YtbofbboogmeneaaInPlay
namespace Go.Proofs.Ytbofbboogmeneaa
set_option linter.unusedVariables false
set_option linter.unusedSimpArgs false
open Go.RowKit

theorem TBox.ptr2 {w0 w : World} {x : Value} {V : ByteArray → List VV} {Tr : ByteArray → List VT} {Q : ByteArray → List Nat} {W : Nat → Option ByteArray} {S T : Nat → Prop} (h : TBox w0 w x V Tr Q W S T) : ∃ bx, x = .pointer (some ⟨bx, 0, none⟩) := by
  obtain ⟨bx, _, _, _, _, _, _, e, _⟩ := h.box.rep
  exact ⟨bx, e⟩

theorem fewO_true {l : List OpD} (h : fewO l = true) : (∀ o ∈ l, o.name.size ≤ 300 ∧ costT o.t ≤ 900) ∧ l.length ≤ 100 := by
  unfold fewO at h
  simp only [Bool.and_eq_true, List.all_eq_true, decide_eq_true_eq] at h
  refine ⟨fun o ho => ?_, h.2⟩
  have := h.1 o ho
  unfold okO fewT at this
  simp only [Bool.and_eq_true, decide_eq_true_eq] at this
  exact ⟨this.1, this.2.1⟩

set_option maxRecDepth 100000 in
set_option maxHeartbeats 4000000 in
theorem matches_any (lv : Value) (l : List OpD) (w : World) (h : Ops w lv l) :
    Calls Try.prog 6 #[lv] w fun e w' => e = .returned (.bool true) ∧ Below w.heap.size w w' := by
  have HO := Lib.hid h
  have HFEW : Hid (∀ w', Below w.heap.size w w' → Calls Try.prog 25 #[lv] w' fun e w'' => e = .returned (.bool (fewO l)) ∧ Below w'.heap.size w' w'') := fun w' hb => few22_any lv l w' (h.later hb)
  clear h
  go_enter Try.func6, Try.ntmps6
  go_wp2_with fail
  refine (TBox.new _).mono ?_
  rintro e w1 ⟨x, S1, rfl, hb⟩
  obtain ⟨bx, rfl⟩ := hb.ptr2
  have H1 := Lib.hid hb
  clear hb
  go_wp2_with fail
  refine (HFEW.out _ H1.out.box.bel).mono ?_
  rintro e w2 ⟨rfl, hb2⟩
  have HI := Lib.hid (Inv.first (Below.refl _ _) (H1.out.later hb2))
  clear hb2 H1
  cases hf : fewO l with
  | false =>
    clear hf
    go_wp2_with fail
    refine (alive_any _).mono ?_
    rintro e w3 ⟨rfl, hb3⟩
    go_wp2
    go_ret
    exact ⟨rfl, HI.out.total.trans (hb3.mono HI.out.total.size)⟩
  | true =>
    have HF := Lib.hid (fewO_true hf)
    clear hf
    go_wp2_with fail
    refine (play_any w w bx lv l _ _ _ _ _ _ HO.out HF.out.1 HF.out.2 HI.out).mono ?_
    rintro e w3 ⟨lv2, wv2, M, Ws, V, W, S, T, R, rfl, hinv, hM, hW⟩
    obtain ⟨⟨la2, ln2, lc2, rfl⟩, ⟨wa2, wn2, wk2, rfl⟩⟩ := hinv.rows.slices
    have HI3 := Lib.hid hinv
    clear hinv HI
    go_wp2_with fail
    refine (alive_any _).mono ?_
    rintro e w4 ⟨rfl, hb4⟩
    have HB4 : Hid (Below w.heap.size w w4) := (HI3.out.total.alloc HI3.out.total.size _).trans (hb4.mono (by have := HI3.out.total.size; simp; omega))
    clear hb4
    go_wp2
    go_ret
    exact ⟨rfl, HB4.out⟩

set_option maxRecDepth 100000 in
set_option maxHeartbeats 4000000 in
theorem either_any (lv : Value) (l : List OpD) (w : World) (h : Ops w lv l) :
    Calls Try.prog 7 #[lv] w fun e w' => e = .returned (.bool true) ∧ Below w.heap.size w w' := by
  have HO := Lib.hid h
  have HFEW : Hid (∀ w', Below w.heap.size w w' → Calls Try.prog 25 #[lv] w' fun e w'' => e = .returned (.bool (fewO l)) ∧ Below w'.heap.size w' w'') := fun w' hb => few22_any lv l w' (h.later hb)
  clear h
  go_enter Try.func7, Try.ntmps7
  go_wp2_with fail
  refine (TBox.new _).mono ?_
  rintro e w1 ⟨x, S1, rfl, hb⟩
  obtain ⟨bx, rfl⟩ := hb.ptr2
  have H1 := Lib.hid hb
  clear hb
  go_wp2_with fail
  refine (HFEW.out _ H1.out.box.bel).mono ?_
  rintro e w2 ⟨rfl, hb2⟩
  have HI := Lib.hid (Inv.first (Below.refl _ _) (H1.out.later hb2))
  clear hb2 H1
  cases hf : fewO l with
  | false =>
    clear hf
    go_wp2_with fail
    refine (alive_any _).mono ?_
    rintro e w3 ⟨rfl, hb3⟩
    go_wp2
    go_ret
    exact ⟨rfl, HI.out.total.trans (hb3.mono HI.out.total.size)⟩
  | true =>
    have HF := Lib.hid (fewO_true hf)
    clear hf
    go_wp2_with fail
    refine (play_any w w bx lv l _ _ _ _ _ _ HO.out HF.out.1 HF.out.2 HI.out).mono ?_
    rintro e w3 ⟨lv2, wv2, M, Ws, V, W, S, T, R, rfl, hinv, hM, hW⟩
    obtain ⟨⟨la2, ln2, lc2, rfl⟩, ⟨wa2, wn2, wk2, rfl⟩⟩ := hinv.rows.slices
    have HI3 := Lib.hid (hinv.later ((Below.refl _ _).alloc (Nat.le_refl _) (.cells #[.slice la2 ln2 lc2, .slice wa2 wn2 wk2] 53)))
    have HLM : Hid (M.length ≤ 200 ∧ Ws.length ≤ 200) := ⟨by omega, by omega⟩
    clear hinv HI hM hW
    go_wp2_with fail
    refine (HI3.out.rnames HLM.out.1 HLM.out.2).mono ?_
    rintro e w4 ⟨nv, rfl, hr, hb4⟩
    have HI4 := Lib.hid (HI3.out.later hb4)
    have HR := Lib.hid hr
    have HNL : Hid ((namesOf (M.map ltr) Ws).length ≤ 400) := by have := HI3.out.namesLen; have := HLM.out; show _ ≤ _; omega
    have HMEM := Lib.hid (HI3.out.namesMem)
    obtain ⟨-, na, nc, rfl, -, -, -⟩ := hr
    have HEI := Lib.hid HI3.out.either
    have HEM := Lib.hid HI3.out.empty
    clear hb4 HI3
    generalize namesOf (M.map ltr) Ws = ns at *
    have hnl := HNL.out
    go_wp2_with fail
    go_loopw [32] (fun i w' => ∃ m : Nat, m ≤ ns.length ∧ i = .int .i64 m ∧ Hid (Below w4.heap.size w4 w')) (fun i _ => ns.length - (RowKit.intOf i).toNat)
    case atStart => exact ⟨0, by omega, rfl, Below.refl _ _⟩
    case round =>
      obtain ⟨m, hm, rfl, HB⟩ := hrel
      by_cases hlt : m < ns.length
      · obtain ⟨b, o, c, he, hcap, hb, hcell⟩ := (HR.out.later HB.out).at (by omega)
        obtain ⟨rfl, rfl⟩ : na = some ⟨b, o, none⟩ ∧ nc = c := by cases he; exact ⟨rfl, rfl⟩
        have hc := hcell m (.string ⟨ns[m].toArray⟩) (by simp [hlt])
        have hmem := (HMEM.out ns[m]).1 (List.getElem_mem hlt)
        generalize (⟨ns[m].toArray⟩ : ByteArray) = name at *
        have hcase : (0 < (V name).length ∧ (idsOf Ws name).length = 0) ∨ ((V name).length = 0 ∧ 0 < (idsOf Ws name).length) := by
          rcases HEI.out name with h1 | h1
          · have h2 := (HEM.out name).2 h1
            rcases hmem with h3 | h3
            · exact absurd h2 h3
            · exact .inr ⟨by rw [h2]; rfl, List.length_pos_iff.2 h3⟩
          · rcases hmem with h3 | h3
            · exact .inl ⟨List.length_pos_iff.2 h3, by rw [h1]; rfl⟩
            · exact absurd h1 h3
        have HIr := Lib.hid (HI4.out.later HB.out)
        have HCN := Lib.hid (icount_any _ name _ _ _ _ _ HIr.out.box.box.rep)
        have HWN := Lib.hid (iwaiting_any _ name _ _ _ _ _ HIr.out.box.box.rep)
        have HQL := Lib.hid (idsOf_len Ws name)
        clear hcell he hmem
        generalize (V name).length = cn at *
        generalize hqq : (idsOf Ws name).length = qn at *
        have hq1 : qn ≤ 200 := by have := HQL.out; have := HLM.out; omega
        clear hqq
        rcases hcase with ⟨h1, h2⟩ | ⟨h1, h2⟩
        all_goals
          first
          | (subst h2; have hd1 : decide ((0 : Int) < (cn : Int)) = true := by simpa using h1)
          | (subst h1; have hd1 : decide ((0 : Int) < (qn : Int)) = true := by simpa using h2)
          go_wp2_with fail
          refine HCN.out.mono ?_
          rintro e w5 ⟨rfl, rfl⟩
          go_wp2_with fail
          refine HWN.out.mono ?_
          rintro e w6 ⟨wv, rfl, hw, hb6⟩
          obtain ⟨-, wa6, wc6, rfl, -⟩ := reads_of_owns hw
          have HB6 := Lib.hid (HB.out.trans (hb6.mono HB.out.size))
          clear hw hb6
          go_wp2
          go_roundw
          case rel => exact ⟨m + 1, by omega, by go_num, HB6⟩
          case measure => simp [RowKit.intOf]; omega
      · go_wp2_with fail
        refine (alive_any _).mono ?_
        rintro e w5 ⟨rfl, hb5⟩
        have HB5 : Hid (Below w.heap.size w w5) := (HI4.out.total.trans (HB.out.mono HI4.out.total.size)).trans (hb5.mono (by have := HI4.out.total.size; have := HB.out.size; omega))
        clear hb5
        go_wp2
        go_ret
        exact ⟨rfl, HB5.out⟩
end Go.Proofs.Ytbofbboogmeneaa
