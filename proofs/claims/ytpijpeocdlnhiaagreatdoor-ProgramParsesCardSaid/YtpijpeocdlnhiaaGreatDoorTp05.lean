/- Texts for programTexts_holds, joined: PStep, PCheck, PStep2, PRef1, PSame, PSame2, PJoin. -/
import Derived.Test.YtpijpeocdlnhiaaGreatDoorTp03
import Derived.Test.YtpijpeocdlnhiaaGreatDoorTp04
import Derived.OwnWalk
import Derived.Lib.ItoaLen
set_option linter.unusedVariables false
set_option linter.unusedSimpArgs false
namespace Go.Proofs.YtpijpeocdlnhiaaGreatDoor
open Go.RowKit
def wordsL : List ByteArray := [⟨#[]⟩, ⟨#[115, 101, 116]⟩, ⟨#[97, 100, 100]⟩, ⟨#[99, 97, 108, 108]⟩, ⟨#[115, 108, 101, 101, 112]⟩, ⟨#[114, 101, 99, 118]⟩, ⟨#[115, 112, 97, 119, 110]⟩, ⟨#[121, 105, 101, 108, 100]⟩, ⟨#[106, 117, 109, 112]⟩, ⟨#[122, 101, 114, 111]⟩, ⟨#[112, 97, 110, 105, 99]⟩, ⟨#[100, 111, 110, 101]⟩, ⟨#[102, 97, 105, 108]⟩]
def Words (w : World) : Prop := 0 < w.heap.size ∧ ∀ i x, wordsL[i]? = some x → w.cell? ⟨0, i, none⟩ = some (.string x)
theorem Words.later {w w' : World} (h : Words w) (hb : Below w.heap.size w w') : Words w' :=
  ⟨Nat.lt_of_lt_of_le h.1 hb.size, fun i x hx => (hb.cell (p := ⟨0, i, none⟩) h.1).trans (h.2 i x hx)⟩
set_option maxRecDepth 100000 in
set_option maxHeartbeats 2000000 in
theorem stext_done (n : Int) (s : ByteArray) (w : World) (hw : Words w) :
    Calls Tryz.prog 58 #[.agg #[.int .i64 11, .int .i64 n, .string s]] w fun e w' => e = .returned (.string ⟨#[100, 111, 110, 101]⟩) ∧ Below w.heap.size w w' := by
  have hX : (w.alloc (.cells #[.int .i64 11, .int .i64 n, .string s] 82)).heap[w.heap.size]? = some (.cells #[.int .i64 11, .int .i64 n, .string s] 82 (0, 0)) := heap_alloc_new w _
  have HX := Lib.hid hX
  have HBel : Hid (Below w.heap.size w (w.alloc (.cells #[.int .i64 11, .int .i64 n, .string s] 82))) := (Below.refl _ _).alloc (Nat.le_refl _) _
  have hwd := (hw.later HBel.out).2 11 _ rfl
  have H1 : Hid (decide ((11 : Int) ∈ numL) = false) := by rw [Hid]; decide
  have H2 : Hid (decide ((11 : Int) ∈ namL) = false) := by rw [Hid]; decide
  clear hX
  go_enter Tryz.func58, Tryz.ntmps58
  go_upto_region 1 with fail
  generalize w.alloc (.cells #[.int .i64 11, .int .i64 n, .string s] 82) = wa at *
  have x0 := cellAt HX.out 0 rfl
  go_wp2_with fail
  refine (numbered_any 11 _).mono ?_
  rintro e w2 ⟨rfl, hb2⟩
  rw [H1.out]
  have HX2 := Lib.hid ((hb2.block _ (lt_of_heap HX.out)).trans HX.out)
  have HB2 := Lib.hid (HBel.out.trans (hb2.mono HBel.out.size))
  clear hb2 x0 hwd
  have x0 := cellAt HX2.out 0 rfl
  go_wp2_with fail
  refine (named_any 11 _).mono ?_
  rintro e w3 ⟨rfl, hb3⟩
  rw [H2.out]
  have HB3 := Lib.hid (HB2.out.trans (hb3.mono HB2.out.size))
  clear hb3 x0
  go_wp2
  go_ret
  exact ⟨rfl, HB3.out⟩
set_option maxRecDepth 100000 in
set_option maxHeartbeats 2000000 in
theorem stext_call (n : Int) (s : ByteArray) (w : World) (hw : Words w) (hs : s.size ≤ 1000000) :
    Calls Tryz.prog 58 #[.agg #[.int .i64 3, .int .i64 n, .string s]] w fun e w' => e = .returned (.string ((⟨#[99, 97, 108, 108]⟩ : ByteArray) ++ ((⟨#[32]⟩ : ByteArray) ++ quoted s))) ∧ Below w.heap.size w w' := by
  have hX : (w.alloc (.cells #[.int .i64 3, .int .i64 n, .string s] 82)).heap[w.heap.size]? = some (.cells #[.int .i64 3, .int .i64 n, .string s] 82 (0, 0)) := heap_alloc_new w _
  have HX := Lib.hid hX
  have HBel : Hid (Below w.heap.size w (w.alloc (.cells #[.int .i64 3, .int .i64 n, .string s] 82))) := (Below.refl _ _).alloc (Nat.le_refl _) _
  have hwd := (hw.later HBel.out).2 3 _ rfl
  have H1 : Hid (decide ((3 : Int) ∈ numL) = false) := by rw [Hid]; decide
  have H2 : Hid (decide ((3 : Int) ∈ namL) = true) := by rw [Hid]; decide
  clear hX
  go_enter Tryz.func58, Tryz.ntmps58
  go_upto_region 1 with fail
  generalize w.alloc (.cells #[.int .i64 3, .int .i64 n, .string s] 82) = wa at *
  have x0 := cellAt HX.out 0 rfl
  go_wp2_with fail
  refine (numbered_any 3 _).mono ?_
  rintro e w2 ⟨rfl, hb2⟩
  rw [H1.out]
  have HX2 := Lib.hid ((hb2.block _ (lt_of_heap HX.out)).trans HX.out)
  have HB2 := Lib.hid (HBel.out.trans (hb2.mono HBel.out.size))
  clear hb2 x0 hwd
  have x0 := cellAt HX2.out 0 rfl
  go_wp2_with fail
  refine (named_any 3 _).mono ?_
  rintro e w3 ⟨rfl, hb3⟩
  rw [H2.out]
  have HX3 := Lib.hid ((hb3.block _ (lt_of_heap HX2.out)).trans HX2.out)
  have HB3 := Lib.hid (HB2.out.trans (hb3.mono HB2.out.size))
  clear hb3 x0
  have x2 := cellAt HX3.out 2 rfl
  go_wp2_with fail
  refine (vtop_text s _ hs).mono ?_
  rintro e w4 ⟨rfl, hb4⟩
  have HB4 := Lib.hid (HB3.out.trans (hb4.mono HB3.out.size))
  clear hb4 x2
  have hq : (quoted s).size ≤ 2000002 := by
    have h1 : (quoted s).size = (34 :: hexL s.data.toList ++ [34]).length := by unfold quoted; rfl
    rw [h1, List.length_append, List.length_cons, hexL_length, bsize]; simp; omega
  obtain ⟨q, hqe⟩ : ∃ q, q = quoted s := ⟨_, rfl⟩
  rw [← hqe] at hq ⊢
  have HQ := Lib.hid hqe
  clear hqe
  go_wp2
  go_ret
  exact ⟨by rw [← HQ.out]; rfl, HB4.out⟩
structure ST where
  k : Int
  n : Int
  s : ByteArray
abbrev stcells (x : ST) : List Value := [.int .i64 x.k, .int .i64 x.n, .string x.s]
def ST.val (x : ST) : Value := .agg #[.int .i64 x.k, .int .i64 x.n, .string x.s]
theorem stcells_len (x : ST) : (stcells x).length = 3 := rfl
structure RT where
  l : List ST
  a : Option Addr
  c : Nat
def RT.v (r : RT) : Value := .slice r.a r.l.length r.c
structure Prg (w : World) (v : Value) (P : List RT) : Prop where
  rd : Reads w v P.length 1 (P.map RT.v)
  each : ∀ r ∈ P, Reads w r.v r.l.length 3 (r.l.flatMap stcells)
  ll : ∀ r ∈ P, r.l.length ≤ 1000000
theorem Prg.later {w w' : World} {v : Value} {P : List RT} (h : Prg w v P) (hb : Below w.heap.size w w') : Prg w' v P :=
  ⟨h.rd.later hb, fun r hr => (h.each r hr).later hb, h.ll⟩
def fineR (rb : ST → Nat → Nat → Bool) (np : Nat) (r : RT) : Prop := r.l.length ≤ 200 ∧ ∀ x ∈ r.l, rb x np r.l.length = true
def Checked (rb : ST → Nat → Nat → Bool) (P : List RT) (i k : Int) (ok : Bool) : Prop :=
  ((P.length = 0 ∨ 20 < P.length) ∧ i = 0 ∧ k = 0 ∧ ok = false) ∨
  (1 ≤ P.length ∧ P.length ≤ 20 ∧ (((∀ r ∈ P, fineR rb P.length r) ∧ i = 0 ∧ k = 0 ∧ ok = true) ∨
    ∃ (m : Nat) (hm : m < P.length), i = m ∧ ok = false ∧ (∀ j (hj : j < m), fineR rb P.length (P[j]'(by omega))) ∧ ((200 < P[m].l.length ∧ k = 200) ∨ (P[m].l.length ≤ 200 ∧ ∃ (q : Nat) (hq : q < P[m].l.length), k = q ∧ rb P[m].l[q] P.length P[m].l.length = false ∧ ∀ x ∈ P[m].l.take q, rb x P.length P[m].l.length = true))))
def CPost (w : World) (rb : ST → Nat → Nat → Bool) (P : List RT) : Ending → World → Prop := fun e w' => ∃ i k ok, e = .returned (.tuple #[.int .i64 i, .int .i64 k, .bool ok]) ∧ Checked rb P i k ok ∧ Below w.heap.size w w'
set_option maxRecDepth 100000 in
set_option maxHeartbeats 2000000 in
theorem check_any (rb : ST → Nat → Nat → Bool) (a : Option Addr) (c : Nat) (P : List RT) (w : World) (h : Prg w (.slice a P.length c) P) (hP : P.length ≤ 1000000)
    (hr : ∀ r ∈ P, ∀ x ∈ r.l, ∀ W, Calls Tryz.prog 53 #[x.val, .int .i64 P.length, .int .i64 r.l.length] W fun e w' => e = .returned (.bool (rb x P.length r.l.length)) ∧ Below W.heap.size W w') :
    Calls Tryz.prog 27 #[.slice a P.length c] w (CPost w rb P) := by
  have HP := Lib.hid h
  have HR := Lib.hid hr
  have HC1 : Hid (∀ i k ok w', Checked rb P i k ok → Below w.heap.size w w' → CPost w rb P (.returned (.tuple #[.int .i64 i, .int .i64 k, .bool ok])) w') := fun i k ok w' h1 h2 => ⟨i, k, ok, rfl, h1, h2⟩
  obtain ⟨Q, hQ⟩ : ∃ Q, Q = CPost w rb P := ⟨_, rfl⟩
  rw [← hQ] at HC1 ⊢
  clear h hr hQ
  by_cases h0 : P.length = 0
  · have HV := Lib.hid (HC1.out 0 0 false w (.inl ⟨.inl h0, rfl, rfl, rfl⟩) (Below.refl _ _))
    have h0' : ((P.length : Int) == 0) = true := by simp [h0]
    rw [h0]
    go_enter Tryz.func27, Tryz.ntmps27
    go_wp2
    refine bodyPost_ret (results_tmp3 rfl _ _ _) rfl ?_
    exact HV.out
  · by_cases h20 : 20 < P.length
    · have HV := Lib.hid (HC1.out 0 0 false w (.inl ⟨.inr h20, rfl, rfl, rfl⟩) (Below.refl _ _))
      have h0' : ((P.length : Int) == 0) = false := by rw [beq_eq_false_iff_ne]; omega
      have h20' : 20 < (P.length : Int) := by omega
      go_enter Tryz.func27, Tryz.ntmps27
      go_wp2
      refine bodyPost_ret (results_tmp3 rfl _ _ _) rfl ?_
      exact HV.out
    · have h0' : ((P.length : Int) == 0) = false := by rw [beq_eq_false_iff_ne]; omega
      have h20' : ¬ 20 < (P.length : Int) := by omega
      go_enter Tryz.func27, Tryz.ntmps27
      go_wp2_with fail
      go_loopw [19] (fun i w' => ∃ m : Nat, m ≤ P.length ∧ i = .int .i64 m ∧ Hid (∀ j (hj : j < P.length), j < m → fineR rb P.length P[j]) ∧ Hid (Below w.heap.size w w')) (fun i _ => P.length - (RowKit.intOf i).toNat)
      case atStart => exact ⟨0, by omega, rfl, fun j _ h => by omega, Below.refl _ _⟩
      case round =>
        obtain ⟨m, hm, rfl, HF, HB⟩ := hrel
        by_cases hlt : m < P.length
        · obtain ⟨b, o, c', hv, hle, hbl, hcell⟩ := (HP.out.later HB.out).rd.at (by omega)
          cases hv
          have hc := hcell m (RT.v P[m]) (by rw [List.getElem?_map, List.getElem?_eq_getElem hlt]; rfl)
          have HE := Lib.hid (HP.out.each P[m] (List.getElem_mem hlt))
          have hl6 := HP.out.ll P[m] (List.getElem_mem hlt)
          have HRM := Lib.hid (HR.out P[m] (List.getElem_mem hlt))
          have HBAD : Hid (∀ k : Int, (200 < P[m].l.length ∧ k = 200) ∨ (P[m].l.length ≤ 200 ∧ ∃ (q : Nat) (hq : q < P[m].l.length), k = q ∧ rb P[m].l[q] P.length P[m].l.length = false ∧ ∀ x ∈ P[m].l.take q, rb x P.length P[m].l.length = true) → Checked rb P m k false) := fun k hk =>
            .inr ⟨by omega, by omega, .inr ⟨m, hlt, rfl, rfl, fun j hj => HF.out j (by omega) hj, hk⟩⟩
          have HNX : Hid (fineR rb P.length P[m] → ∀ j (hj : j < P.length), j < m + 1 → fineR rb P.length P[j]) := fun h j hj hjm => by
            rcases Nat.lt_or_ge j m with h1 | h1
            · exact HF.out j hj h1
            · have : j = m := by omega
              subst this; exact h
          clear hcell HF
          unfold RT.v at hc HE
          generalize hrr : P[m] = r at *
          clear hrr
          obtain ⟨rl, ra, rc⟩ := r
          simp only at *
          by_cases h200 : 200 < (rl.length : Int)
          · have HV := Lib.hid (HC1.out m 200 false wr (HBAD.out 200 (.inl ⟨by omega, rfl⟩)) HB.out)
            go_wp2
            refine bodyPost_ret (results_tmp3 rfl _ _ _) rfl ?_
            exact HV.out
          · go_wp2_with fail
            go_loopw [30] (fun i w' => ∃ q : Nat, q ≤ rl.length ∧ i = .int .i64 q ∧ Hid (∀ j (hj : j < rl.length), j < q → rb rl[j] P.length rl.length = true) ∧ Hid (Below w.heap.size w w')) (fun i _ => rl.length - (RowKit.intOf i).toNat)
            case atStart => exact ⟨0, by omega, rfl, fun j _ h => by omega, HB⟩
            case round =>
              obtain ⟨q, hq, rfl, HG, HB2⟩ := hrel
              by_cases hlt2 : q < rl.length
              · obtain ⟨b2, o2, hra, hle2, -, hb2, hcell2⟩ := (HE.out.later HB2.out).atN (by omega) (by decide)
                subst hra
                have d0 := hcell2 (q * 3) _ (by simpa using fm_get stcells_len (List.getElem?_eq_getElem hlt2) 0 _ rfl)
                have d1 := hcell2 (q * 3 + 1) _ (fm_get stcells_len (List.getElem?_eq_getElem hlt2) 1 _ rfl)
                have d2 := hcell2 (q * 3 + 2) _ (fm_get stcells_len (List.getElem?_eq_getElem hlt2) 2 _ rfl)
                rw [← Nat.add_assoc] at d1 d2
                have HRX := Lib.hid (HRM.out rl[q] (List.getElem_mem hlt2))
                have HBX : Hid (rb rl[q] P.length rl.length = false → Checked rb P m q false) := fun h => HBAD.out q (.inr ⟨by omega, q, hlt2, rfl, h, fun x hx => by obtain ⟨j, hj, rfl⟩ := List.mem_iff_getElem.1 hx; rw [List.getElem_take]; rw [List.length_take] at hj; exact HG.out j (by omega) (by omega)⟩)
                have HGX : Hid (rb rl[q] P.length rl.length = true → ∀ j (hj : j < rl.length), j < q + 1 → rb rl[j] P.length rl.length = true) := fun h j hj hjq => by
                  rcases Nat.lt_or_ge j q with h1 | h1
                  · exact HG.out j hj h1
                  · have : j = q := by omega
                    subst this; exact h
                clear hcell2 HG
                generalize rl[q] = x at *
                have hsz := HB2.out.size
                have HBA : Hid (Below w.heap.size w (wr.alloc (.cells #[.int .i64 x.k, .int .i64 x.n, .string x.s] 82))) := HB2.out.alloc hsz _
                have HXA : Hid ((wr.alloc (.cells #[.int .i64 x.k, .int .i64 x.n, .string x.s] 82)).heap[wr.heap.size]? = some (.cells #[.int .i64 x.k, .int .i64 x.n, .string x.s] 82 (0, 0))) := heap_alloc_new _ _
                go_upto_region 11 with fail
                generalize wr.alloc (.cells #[.int .i64 x.k, .int .i64 x.n, .string x.s] 82) = wa at *
                clear d0 d1 d2
                have y0 := cellAt HXA.out 0 rfl
                have y1 := cellAt HXA.out 1 rfl
                have y2 := cellAt HXA.out 2 rfl
                have HRW := Lib.hid (HRX.out wa)
                unfold ST.val at HRW
                go_wp2_with fail
                refine HRW.out.mono ?_
                rintro e w4 ⟨rfl, hb4⟩
                have HB4 := Lib.hid (HBA.out.trans (hb4.mono HBA.out.size))
                clear hb4 y0 y1 y2 HRW HRX
                cases hbx : rb x P.length rl.length with
                | false =>
                  have HV := Lib.hid (HC1.out m q false w4 (HBX.out hbx) HB4.out)
                  go_wp2
                  refine bodyPost_ret (results_tmp3 rfl _ _ _) rfl ?_
                  exact HV.out
                | true =>
                  have HGN := Lib.hid (HGX.out hbx)
                  go_wp2
                  go_roundw
                  case rel => exact ⟨q + 1, by omega, by go_num, HGN, HB4⟩
                  case measure => simp [RowKit.intOf]; omega
              · obtain rfl : q = rl.length := by omega
                have HFN := Lib.hid (HNX.out ⟨by show rl.length ≤ 200; omega, fun x hx => by obtain ⟨j, hj, rfl⟩ := List.mem_iff_getElem.1 hx; exact HG.out j hj hj⟩)
                go_wp2
                go_roundw
                case rel => exact ⟨m + 1, by omega, by go_num, HFN, HB2⟩
                case measure => simp [RowKit.intOf]; omega
        · obtain rfl : m = P.length := by omega
          have HV := Lib.hid (HC1.out 0 0 true wr (.inr ⟨by omega, by omega, .inl ⟨fun r hr => by obtain ⟨j, hj, rfl⟩ := List.mem_iff_getElem.1 hr; exact HF.out j hj hj, rfl, rfl, rfl⟩⟩) HB.out)
          go_wp2
          refine bodyPost_ret (results_tmp3 rfl _ _ _) rfl ?_
          exact HV.out
abbrev PTab (w : World) : Prop := Lib.TabIs Tryz.prog w powName .u64 Lib.pow10Tab
theorem below_grow (w : World) (k : Nat) (os : Array Obj) : Below w.heap.size w (Sort.grow (w.drewN k) os) :=
  ⟨rfl, rfl, rfl, by show w.heap.size ≤ (w.heap ++ os).size; rw [Array.size_append]; omega, fun j hj => by
    show (w.heap ++ os)[j]? = w.heap[j]?
    rw [Array.getElem?_append_left hj]⟩
theorem tab_below {w w' : World} (h : PTab w) (hb : Below w.heap.size w w') : PTab w' := by
  unfold PTab Lib.TabIs World.var? at *
  cases hg : Tryz.prog.globalNamed powName with
  | none => simp [hg] at h
  | some g =>
    simp only [hg, Option.bind_some] at h ⊢
    have hlt : g < w.heap.size := by
      rcases Nat.lt_or_ge g w.heap.size with h' | h'
      · exact h'
      · rw [Array.getElem?_eq_none h'] at h; simp at h
    rw [hb.block g hlt]
    exact h
theorem word_size {i : Nat} {x : ByteArray} (h : wordsL[i]? = some x) : x.size ≤ 5 := by
  have hall : ∀ y ∈ wordsL, y.size ≤ 5 := by decide
  exact hall x (List.mem_of_getElem? h)
set_option maxRecDepth 100000 in
set_option maxHeartbeats 2000000 in
theorem stext_bare (k : Nat) (hk : k = 7 ∨ k = 11) (wd : ByteArray) (hwd : wordsL[k]? = some wd) (n : Int) (s : ByteArray) (w : World) (hw : Words w) :
    Calls Tryz.prog 58 #[.agg #[.int .i64 k, .int .i64 n, .string s]] w fun e w' => e = .returned (.string wd) ∧ Below w.heap.size w w' := by
  have hX : (w.alloc (.cells #[.int .i64 k, .int .i64 n, .string s] 82)).heap[w.heap.size]? = some (.cells #[.int .i64 k, .int .i64 n, .string s] 82 (0, 0)) := heap_alloc_new w _
  have HX := Lib.hid hX
  have HBel : Hid (Below w.heap.size w (w.alloc (.cells #[.int .i64 k, .int .i64 n, .string s] 82))) := (Below.refl _ _).alloc (Nat.le_refl _) _
  have hwl := (hw.later HBel.out).2 k _ hwd
  have H1 : Hid (decide ((k : Int) ∈ numL) = false) := by rw [Hid]; rcases hk with rfl | rfl <;> decide
  have H2 : Hid (decide ((k : Int) ∈ namL) = false) := by rw [Hid]; rcases hk with rfl | rfl <;> decide
  have hk13 : k < 13 := by omega
  clear hX hk
  go_enter Tryz.func58, Tryz.ntmps58
  go_upto_region 1 with fail
  generalize w.alloc (.cells #[.int .i64 k, .int .i64 n, .string s] 82) = wa at *
  have x0 := cellAt HX.out 0 rfl
  go_wp2_with fail
  refine (numbered_any k _).mono ?_
  rintro e w2 ⟨rfl, hb2⟩
  rw [H1.out]
  have HX2 := Lib.hid ((hb2.block _ (lt_of_heap HX.out)).trans HX.out)
  have HB2 := Lib.hid (HBel.out.trans (hb2.mono HBel.out.size))
  clear hb2 x0 hwl
  have x0 := cellAt HX2.out 0 rfl
  go_wp2_with fail
  refine (named_any k _).mono ?_
  rintro e w3 ⟨rfl, hb3⟩
  rw [H2.out]
  have HB3 := Lib.hid (HB2.out.trans (hb3.mono HB2.out.size))
  clear hb3 x0
  go_wp2
  go_ret
  exact ⟨rfl, HB3.out⟩
set_option maxRecDepth 100000 in
set_option maxHeartbeats 2000000 in
theorem stext_named (k : Nat) (hk : k = 3 ∨ k = 5 ∨ k = 10 ∨ k = 12) (wd : ByteArray) (hwd : wordsL[k]? = some wd) (n : Int) (s : ByteArray) (w : World) (hw : Words w) (hs : s.size ≤ 1000000) :
    Calls Tryz.prog 58 #[.agg #[.int .i64 k, .int .i64 n, .string s]] w fun e w' => e = .returned (.string (wd ++ ((⟨#[32]⟩ : ByteArray) ++ quoted s))) ∧ Below w.heap.size w w' := by
  have hX : (w.alloc (.cells #[.int .i64 k, .int .i64 n, .string s] 82)).heap[w.heap.size]? = some (.cells #[.int .i64 k, .int .i64 n, .string s] 82 (0, 0)) := heap_alloc_new w _
  have HX := Lib.hid hX
  have HBel : Hid (Below w.heap.size w (w.alloc (.cells #[.int .i64 k, .int .i64 n, .string s] 82))) := (Below.refl _ _).alloc (Nat.le_refl _) _
  have hwl := (hw.later HBel.out).2 k _ hwd
  have hws := word_size hwd
  have H1 : Hid (decide ((k : Int) ∈ numL) = false) := by rw [Hid]; rcases hk with rfl | rfl | rfl | rfl <;> decide
  have H2 : Hid (decide ((k : Int) ∈ namL) = true) := by rw [Hid]; rcases hk with rfl | rfl | rfl | rfl <;> decide
  have hk13 : k < 13 := by omega
  clear hX hk
  go_enter Tryz.func58, Tryz.ntmps58
  go_upto_region 1 with fail
  generalize w.alloc (.cells #[.int .i64 k, .int .i64 n, .string s] 82) = wa at *
  have x0 := cellAt HX.out 0 rfl
  go_wp2_with fail
  refine (numbered_any k _).mono ?_
  rintro e w2 ⟨rfl, hb2⟩
  rw [H1.out]
  have HX2 := Lib.hid ((hb2.block _ (lt_of_heap HX.out)).trans HX.out)
  have HB2 := Lib.hid (HBel.out.trans (hb2.mono HBel.out.size))
  clear hb2 x0 hwl
  have x0 := cellAt HX2.out 0 rfl
  go_wp2_with fail
  refine (named_any k _).mono ?_
  rintro e w3 ⟨rfl, hb3⟩
  rw [H2.out]
  have HX3 := Lib.hid ((hb3.block _ (lt_of_heap HX2.out)).trans HX2.out)
  have HB3 := Lib.hid (HB2.out.trans (hb3.mono HB2.out.size))
  clear hb3 x0
  have x2 := cellAt HX3.out 2 rfl
  go_wp2_with fail
  refine (vtop_text s _ hs).mono ?_
  rintro e w4 ⟨rfl, hb4⟩
  have HB4 := Lib.hid (HB3.out.trans (hb4.mono HB3.out.size))
  clear hb4 x2
  have hq : (quoted s).size ≤ 2000002 := by
    have h1 : (quoted s).size = (34 :: hexL s.data.toList ++ [34]).length := by unfold quoted; rfl
    rw [h1, List.length_append, List.length_cons, hexL_length, bsize]; simp; omega
  obtain ⟨q, hqe⟩ : ∃ q, q = quoted s := ⟨_, rfl⟩
  rw [← hqe] at hq ⊢
  have HQ := Lib.hid hqe
  clear hqe
  go_wp2
  go_ret
  exact ⟨by rw [← HQ.out]; rfl, HB4.out⟩
set_option maxRecDepth 100000 in
set_option maxHeartbeats 2000000 in
theorem stext_num (k : Nat) (hk : k = 1 ∨ k = 2 ∨ k = 4 ∨ k = 6 ∨ k = 8 ∨ k = 9) (wd : ByteArray) (hwd : wordsL[k]? = some wd) (n : Int) (s : ByteArray) (w : World) (hw : Words w) (ht : PTab w) (hn : -9223372036854775808 ≤ n ∧ n ≤ 9223372036854775807) :
    Calls Tryz.prog 58 #[.agg #[.int .i64 k, .int .i64 n, .string s]] w fun e w' => e = .returned (.string (wd ++ ((⟨#[32]⟩ : ByteArray) ++ ⟨(Lib.itoa n).toArray⟩))) ∧ Below w.heap.size w w' := by
  have hX : (w.alloc (.cells #[.int .i64 k, .int .i64 n, .string s] 82)).heap[w.heap.size]? = some (.cells #[.int .i64 k, .int .i64 n, .string s] 82 (0, 0)) := heap_alloc_new w _
  have HX := Lib.hid hX
  have HBel : Hid (Below w.heap.size w (w.alloc (.cells #[.int .i64 k, .int .i64 n, .string s] 82))) := (Below.refl _ _).alloc (Nat.le_refl _) _
  have hwl := (hw.later HBel.out).2 k _ hwd
  have hws := word_size hwd
  have H1 : Hid (decide ((k : Int) ∈ numL) = true) := by rw [Hid]; rcases hk with rfl | rfl | rfl | rfl | rfl | rfl <;> decide
  have hk13 : k < 13 := by omega
  clear hX hk
  go_enter Tryz.func58, Tryz.ntmps58
  go_upto_region 1 with fail
  generalize w.alloc (.cells #[.int .i64 k, .int .i64 n, .string s] 82) = wa at *
  have x0 := cellAt HX.out 0 rfl
  go_wp2_with fail
  refine (numbered_any k _).mono ?_
  rintro e w2 ⟨rfl, hb2⟩
  rw [H1.out]
  have HX2 := Lib.hid ((hb2.block _ (lt_of_heap HX.out)).trans HX.out)
  have HB2 := Lib.hid (HBel.out.trans (hb2.mono HBel.out.size))
  clear hb2 x0 hwl
  have x1 := cellAt HX2.out 1 rfl
  have hc := Lib.hid (Tryz.strconv_FormatInt_10 n hn.1 hn.2 w2 (tab_below ht HB2.out))
  have hlen := Lib.itoa_length_le n hn.1 hn.2
  clear hn ht
  obtain ⟨q, hqe⟩ : ∃ q, q = Lib.itoa n := ⟨_, rfl⟩
  rw [← hqe] at hc hlen
  have HQ := Lib.hid hqe
  clear hqe
  go_wp2_with fail
  refine hc.out.mono ?_
  rintro e w4 ⟨rfl, ka, os, hw4⟩
  have hb4 : Below w2.heap.size w2 w4 := by rw [hw4]; exact below_grow _ _ _
  have HB4 := Lib.hid (HB2.out.trans (hb4.mono HB2.out.size))
  clear hb4 x1 hw4 hc
  have hsz : (⟨q.toArray⟩ : ByteArray).size ≤ 21 := by show q.toArray.size ≤ 21; simpa using hlen
  obtain ⟨qb, hqb⟩ : ∃ qb : ByteArray, qb = ⟨q.toArray⟩ := ⟨_, rfl⟩
  rw [← hqb] at hsz ⊢
  have HQB := Lib.hid hqb
  clear hqb
  go_wp2
  go_ret
  exact ⟨by rw [← HQ.out, ← HQB.out]; rfl, HB4.out⟩
def stextB (x : ST) : ByteArray :=
  if x.k ∈ numL then (wordsL.getD x.k.toNat ⟨#[]⟩) ++ ((⟨#[32]⟩ : ByteArray) ++ ⟨(Lib.itoa x.n).toArray⟩)
  else if x.k ∈ namL then (wordsL.getD x.k.toNat ⟨#[]⟩) ++ ((⟨#[32]⟩ : ByteArray) ++ quoted x.s)
  else wordsL.getD x.k.toNat ⟨#[]⟩
theorem stext_any (x : ST) (hk : 1 ≤ x.k ∧ x.k ≤ 12) (hn : -9223372036854775808 ≤ x.n ∧ x.n ≤ 9223372036854775807) (hs : x.s.size ≤ 1000000) (w : World) (hw : Words w) (ht : PTab w) :
    Calls Tryz.prog 58 #[x.val] w fun e w' => e = .returned (.string (stextB x)) ∧ Below w.heap.size w w' := by
  obtain ⟨k, n, s⟩ := x
  simp only at hk hn hs
  obtain ⟨j, rfl⟩ : ∃ j : Nat, k = j := ⟨k.toNat, by omega⟩
  have hj : j < wordsL.length := show j < 13 by omega
  have hwd : wordsL[j]? = some (wordsL.getD j ⟨#[]⟩) := by rw [List.getD_eq_getElem?_getD, List.getElem?_eq_getElem hj]; rfl
  unfold ST.val stextB
  simp only [Int.toNat_natCast]
  by_cases c1 : (j : Int) ∈ numL
  · rw [if_pos c1]
    exact stext_num j (by simp only [numL, List.mem_cons, List.not_mem_nil, or_false] at c1; omega) _ hwd n s w hw ht hn
  rw [if_neg c1]
  by_cases c2 : (j : Int) ∈ namL
  · rw [if_pos c2]
    exact stext_named j (by simp only [namL, List.mem_cons, List.not_mem_nil, or_false] at c2; omega) _ hwd n s w hw hs
  rw [if_neg c2]
  exact stext_bare j (by simp only [numL, namL, List.mem_cons, List.not_mem_nil, or_false] at c1 c2; omega) _ hwd n s w hw
def ST.ok (x : ST) : Prop := (-9223372036854775808 ≤ x.k ∧ x.k ≤ 9223372036854775807) ∧ (-9223372036854775808 ≤ x.n ∧ x.n ≤ 9223372036854775807) ∧ x.s.size ≤ maxLen
structure RT.inw (r : RT) (w : World) : Prop where
  rd : Reads w r.v r.l.length 3 (r.l.flatMap stcells)
  ll : r.l.length ≤ maxLen
  ok : ∀ x ∈ r.l, x.ok
  lb : r.l.length * 32 ≤ 140737488351232
structure PrgU (w : World) (v : Value) (P : List RT) : Prop where
  rd : Reads w v P.length 1 (P.map RT.v)
  each : ∀ r ∈ P, r.inw w
  ll : P.length ≤ maxLen
  lb : P.length * 24 ≤ 140737488351232
theorem RT.inw.later {r : RT} {w w' : World} (h : r.inw w) (hb : Below w.heap.size w w') : r.inw w' := ⟨h.rd.later hb, h.ll, h.ok, h.lb⟩
theorem PrgU.later {w w' : World} {v : Value} {P : List RT} (h : PrgU w v P) (hb : Below w.heap.size w w') : PrgU w' v P :=
  ⟨h.rd.later hb, fun r hr => (h.each r hr).later hb, h.ll, h.lb⟩
theorem PrgU.prg {w : World} {v : Value} {P : List RT} (h : PrgU w v P) (hl : ∀ r ∈ P, r.l.length ≤ 1000000) : Prg w v P := ⟨h.rd, fun r hr => (h.each r hr).rd, hl⟩
set_option maxRecDepth 100000 in
set_option maxHeartbeats 4000000 in
theorem rword_in (k : Nat) (hk : 1 ≤ k ∧ k ≤ 12) (w : World) :
    Calls Tryz.prog 89 #[.int .i64 k] w fun e w' => e = .returned (.string (wordsL.getD k ⟨#[]⟩)) ∧ Below w.heap.size w w' := by
  have hc : k = 1 ∨ k = 2 ∨ k = 3 ∨ k = 4 ∨ k = 5 ∨ k = 6 ∨ k = 7 ∨ k = 8 ∨ k = 9 ∨ k = 10 ∨ k = 11 ∨ k = 12 := by omega
  clear hk
  rcases hc with rfl | rfl | rfl | rfl | rfl | rfl | rfl | rfl | rfl | rfl | rfl | rfl
  all_goals
    go_enter Tryz.func89, Tryz.ntmps89
    go_wp2
    go_ret
    exact ⟨rfl, (Below.refl _ _).alloc (Nat.le_refl _) _⟩
set_option maxRecDepth 100000 in
theorem rword_out (k : Int) (hk : k < 1 ∨ 12 < k) (w : World) :
    Calls Tryz.prog 89 #[.int .i64 k] w fun e w' => e = .returned (.string ⟨#[]⟩) ∧ Below w.heap.size w w' := by
  have hc : k < 1 ∨ (¬ k < 1 ∧ 12 < k) := by omega
  clear hk
  rcases hc with h | ⟨h, h2⟩
  all_goals
    go_enter Tryz.func89, Tryz.ntmps89
    go_wp2
    go_ret
    exact ⟨rfl, Below.refl _ _⟩
def fieldI (k : Nat) : Int := if k = 1 ∨ k = 2 ∨ k = 4 ∨ k = 6 ∨ k = 8 ∨ k = 9 then 1 else if k = 3 ∨ k = 5 ∨ k = 10 ∨ k = 12 then 2 else 0
set_option maxRecDepth 100000 in
set_option maxHeartbeats 4000000 in
theorem rfield_in (k : Nat) (hk : 1 ≤ k ∧ k ≤ 12) (w : World) :
    Calls Tryz.prog 90 #[.int .i64 k] w fun e w' => e = .returned (.int .i64 (fieldI k)) ∧ w' = w := by
  have hc : k = 1 ∨ k = 2 ∨ k = 3 ∨ k = 4 ∨ k = 5 ∨ k = 6 ∨ k = 7 ∨ k = 8 ∨ k = 9 ∨ k = 10 ∨ k = 11 ∨ k = 12 := by omega
  clear hk
  rcases hc with rfl | rfl | rfl | rfl | rfl | rfl | rfl | rfl | rfl | rfl | rfl | rfl
  all_goals
    go_enter Tryz.func90, Tryz.ntmps90
    go_wp2
    go_ret
    exact ⟨rfl, rfl⟩
theorem PrgU.head {w : World} {a : Option Addr} {c : Nat} {P : List RT} (h : PrgU w (.slice a P.length c) P) {m : Nat} (hm : m < P.length) :
    ∃ b o, a = some ⟨b, o, none⟩ ∧ P.length ≤ c ∧ b < w.heap.size ∧ w.cell? ⟨b, o + m, none⟩ = some P[m].v := by
  obtain ⟨b, o, c', hv, hle, hbl, hcell⟩ := h.rd.at (by omega)
  cases hv
  exact ⟨b, o, rfl, hle, hbl, hcell m _ (by rw [List.getElem?_map, List.getElem?_eq_getElem hm]; rfl)⟩
theorem RT.inw.cells {w : World} {l : List ST} {a : Option Addr} {c : Nat} (h : RT.inw ⟨l, a, c⟩ w) {q : Nat} (hq : q < l.length) :
    ∃ b o, a = some ⟨b, o, none⟩ ∧ l.length ≤ c ∧ b < w.heap.size ∧ w.cell? ⟨b, o + q * 3, none⟩ = some (.int .i64 l[q].k) ∧ w.cell? ⟨b, o + q * 3 + 1, none⟩ = some (.int .i64 l[q].n) ∧ w.cell? ⟨b, o + q * 3 + 2, none⟩ = some (.string l[q].s) := by
  have hr : Reads w (.slice a l.length c) l.length 3 (l.flatMap stcells) := h.rd
  obtain ⟨b2, o2, hra, hle2, -, hb2, hcell2⟩ := hr.atN (by omega) (by decide)
  have d0 := hcell2 (q * 3) _ (by simpa using fm_get stcells_len (List.getElem?_eq_getElem hq) 0 _ rfl)
  have d1 := hcell2 (q * 3 + 1) _ (fm_get stcells_len (List.getElem?_eq_getElem hq) 1 _ rfl)
  have d2 := hcell2 (q * 3 + 2) _ (fm_get stcells_len (List.getElem?_eq_getElem hq) 2 _ rfl)
  rw [← Nat.add_assoc] at d1 d2
  exact ⟨b2, o2, hra, hle2, hb2, d0, d1, d2⟩
def FewPost (w : World) : Ending → World → Prop := fun e w' => (∃ b, e = .returned (.bool b)) ∧ w' = w
set_option maxRecDepth 100000 in
set_option maxHeartbeats 2000000 in
theorem rfew_any (a : Option Addr) (c : Nat) (P : List RT) (w : World) (h : PrgU w (.slice a P.length c) P) :
    Calls Tryz.prog 25 #[.slice a P.length c] w (FewPost w) := by
  have HP := Lib.hid h
  have hll := h.ll
  unfold maxLen at hll
  clear h
  go_enter Tryz.func25, Tryz.ntmps25
  go_wp2_with fail
  go_loopw [3, 4] (fun s i w' => ∃ (m : Nat) (N : Int), m ≤ P.length ∧ s = .int .i64 N ∧ i = .int .i64 m ∧ w' = w) (fun _ i _ => P.length - (RowKit.intOf i).toNat)
  case atStart => exact ⟨0, 0, by omega, rfl, rfl, rfl⟩
  case round =>
    obtain ⟨m, N, hm, rfl, rfl, rfl⟩ := hrel
    by_cases hlt : m < P.length
    · obtain ⟨b, o, rfl, hle, hb, hc⟩ := HP.out.head hlt
      have HE := Lib.hid (HP.out.each _ (List.getElem_mem hlt))
      have hl := HE.out.ll
      unfold maxLen at hl
      generalize P[m] = r at *
      obtain ⟨rl, ra, rc⟩ := r
      simp only [RT.v] at *
      go_wp2_with fail
      go_loopw [3, 5] (fun s i w' => ∃ (q : Nat) (N : Int), q ≤ rl.length ∧ s = .int .i64 N ∧ i = .int .i64 q ∧ w' = wr) (fun _ i _ => rl.length - (RowKit.intOf i).toNat)
      case atStart => exact ⟨0, _, by omega, rfl, rfl, rfl⟩
      case round =>
        obtain ⟨q, N2, hq, rfl, rfl, rfl⟩ := hrel
        by_cases hlt2 : q < rl.length ∧ (q : Int) < 300
        · obtain ⟨hlt2, h300⟩ := hlt2
          obtain ⟨b2, o2, rfl, hle2, hb2, d0, d1, d2⟩ := RT.inw.cells HE.out hlt2
          have hs := (HE.out.ok _ (List.getElem_mem hlt2)).2.2
          unfold maxLen at hs
          generalize rl[q] = x at *
          obtain ⟨xk, xn, xs⟩ := x
          simp only at *
          go_wp2_with fail
          go_roundw
          case rel => exact ⟨q + 1, _, by omega, rfl, by go_num, by trivial⟩
          case measure => simp [RowKit.intOf]; omega
        · rcases Nat.lt_or_ge q rl.length with hlt3 | hge
          · have h300 : ¬ (q : Int) < 300 := fun h => hlt2 ⟨hlt3, h⟩
            clear hlt2
            go_wp2_with fail
            go_roundw
            case rel => exact ⟨m + 1, _, by omega, rfl, by go_num, by trivial⟩
            case measure => simp [RowKit.intOf]; omega
          · obtain rfl : q = rl.length := by omega
            clear hlt2
            go_wp2_with fail
            go_roundw
            case rel => exact ⟨m + 1, _, by omega, rfl, by go_num, by trivial⟩
            case measure => simp [RowKit.intOf]; omega
    · obtain rfl : m = P.length := by omega
      by_cases h25 : (P.length : Int) ≤ 25
      · go_wp2
        go_ret
        exact ⟨⟨_, rfl⟩, rfl⟩
      · go_wp2
        go_ret
        exact ⟨⟨_, rfl⟩, rfl⟩
theorem map_l_eq {P Q : List RT} (h : P.map RT.l = Q.map RT.l) {m : Nat} (h1 : m < P.length) (h2 : m < Q.length) : P[m].l = Q[m].l := by
  have := congrArg (fun l => l[m]?) h
  simpa [h1, h2] using this
theorem map_l_len {P Q : List RT} (h : P.map RT.l = Q.map RT.l) : P.length = Q.length := by
  have := congrArg List.length h
  simpa using this
theorem map_l_of {P Q : List RT} (hl : P.length = Q.length) (h : ∀ j (h1 : j < P.length) (h2 : j < Q.length), P[j].l = Q[j].l) : P.map RT.l = Q.map RT.l := by
  apply List.ext_getElem (by simpa using hl)
  intro j h1 h2
  simp only [List.length_map] at h1 h2
  simpa using h j h1 h2
def SPost (w : World) (p : Prop) : Ending → World → Prop := fun e w' => ∃ b, e = .returned (.bool b) ∧ (b = true ↔ p) ∧ Below w.heap.size w w'
theorem SPost.yes {w w' : World} {p : Prop} (hp : p) (hb : Below w.heap.size w w') : SPost w p (.returned (.bool true)) w' := ⟨true, rfl, by simp [hp], hb⟩
theorem SPost.no {w w' : World} {p : Prop} (hp : ¬ p) (hb : Below w.heap.size w w') : SPost w p (.returned (.bool false)) w' := ⟨false, rfl, by simp [hp], hb⟩
theorem below_drew {B : Nat} {w w' : World} (h : Below B w w') (n : Nat) : Below B w (w'.drewN n) := ⟨h.os, h.tape, h.output, h.size, h.block⟩
set_option maxRecDepth 100000 in
set_option maxHeartbeats 2000000 in
theorem prsame_any (a1 a2 : Option Addr) (c1 c2 : Nat) (P1 P2 : List RT) (w : World) (h1 : PrgU w (.slice a1 P1.length c1) P1) (h2 : PrgU w (.slice a2 P2.length c2) P2) :
    Calls Tryz.prog 33 #[.slice a1 P1.length c1, .slice a2 P2.length c2] w (SPost w (P1.map RT.l = P2.map RT.l)) := by
  have H1 := Lib.hid h1
  have H2 := Lib.hid h2
  have hl1 := h1.ll
  have hl2 := h2.ll
  unfold maxLen at hl1 hl2
  clear h1 h2
  have HY : Hid (P1.map RT.l = P2.map RT.l → ∀ w', Below w.heap.size w w' → SPost w (P1.map RT.l = P2.map RT.l) (.returned (.bool true)) w') := fun h w' hb => SPost.yes h hb
  have HN : Hid (¬ P1.map RT.l = P2.map RT.l → ∀ w', Below w.heap.size w w' → SPost w (P1.map RT.l = P2.map RT.l) (.returned (.bool false)) w') := fun h w' hb => SPost.no h hb
  obtain ⟨Q, hQ⟩ : ∃ Q, Q = SPost w (P1.map RT.l = P2.map RT.l) := ⟨_, rfl⟩
  rw [← hQ] at HY HN ⊢
  clear hQ
  by_cases hle : P1.length = P2.length
  · obtain ⟨n, hn⟩ : ∃ n, n = P2.length := ⟨_, rfl⟩
    rw [hle, ← hn]
    have HL1 : Hid (P1.length = n) := by rw [hn]; exact hle
    have HL2 : Hid (P2.length = n) := hn.symm
    rw [← hn] at hl2
    clear hle hn hl1
    go_enter Tryz.func33, Tryz.ntmps33
    go_wp2_with fail
    go_loopw [5, 6] (fun i _ w' => ∃ m : Nat, m ≤ n ∧ i = .int .i64 m ∧ Hid (∀ j (h1 : j < P1.length) (h2 : j < P2.length), j < m → P1[j].l = P2[j].l) ∧ Hid (Below w.heap.size w w')) (fun i _ _ => n - (RowKit.intOf i).toNat)
    case atStart => exact ⟨0, by omega, rfl, fun j _ _ h => by omega, Below.refl _ _⟩
    case round =>
      obtain ⟨m, hm, rfl, HF, HB⟩ := hrel
      by_cases hlt : m < n
      · have hm1 : m < P1.length := by rw [HL1.out]; exact hlt
        have hm2 : m < P2.length := by rw [HL2.out]; exact hlt
        obtain ⟨b, o, rfl, hc1, hb, d0⟩ := (H1.out.later HB.out).head hm1
        obtain ⟨b', o', rfl, hc2, hb', e0⟩ := (H2.out.later HB.out).head hm2
        rw [HL1.out] at hc1
        rw [HL2.out] at hc2
        have HX := Lib.hid ((H1.out.later HB.out).each _ (List.getElem_mem hm1))
        have HX2 := Lib.hid ((H2.out.later HB.out).each _ (List.getElem_mem hm2))
        have hx := HX.out.ll
        have hx2 := HX2.out.ll
        unfold maxLen at hx hx2
        have HD : Hid (¬ P1[m].l = P2[m].l → ∀ w', Below w.heap.size w w' → Q (.returned (.bool false)) w') := fun h => HN.out (fun e => h (map_l_eq e hm1 hm2))
        have HS : Hid (P1[m].l = P2[m].l → ∀ j (h1 : j < P1.length) (h2 : j < P2.length), j < m + 1 → P1[j].l = P2[j].l) := fun h j h1 h2 hj => by
          rcases Nat.lt_or_ge j m with h3 | h3
          · exact HF.out j h1 h2 h3
          · obtain rfl : j = m := by omega
            exact h
        clear HF
        generalize P1[m] = x at *
        generalize P2[m] = y at *
        clear hm1 hm2
        obtain ⟨l1, a1, k1⟩ := x
        obtain ⟨l2, a2, k2⟩ := y
        simp only [RT.v] at *
        by_cases hle : l1.length = l2.length
        · obtain ⟨n2, hn⟩ : ∃ n2, n2 = l2.length := ⟨_, rfl⟩
          rw [hle, ← hn] at d0
          rw [← hn] at e0
          have HL3 : Hid (l1.length = n2) := by rw [hn]; exact hle
          have HL4 : Hid (l2.length = n2) := hn.symm
          rw [← hn] at hx2
          clear hle hn hx
          go_wp2_with fail
          go_quiet (fail)
          have HBN := Lib.hid (below_drew HB.out nq)
          generalize hwq : wr.drewN nq = wq at *
          replace d0 : wq.cell? ⟨b, o + m, none⟩ = some (.slice a1 n2 k1) := by rw [← hwq]; exact d0
          replace e0 : wq.cell? ⟨b', o' + m, none⟩ = some (.slice a2 n2 k2) := by rw [← hwq]; exact e0
          have hbq : b < wq.heap.size := by rw [← hwq]; exact hb
          have hbq' : b' < wq.heap.size := by rw [← hwq]; exact hb'
          have D0 := Lib.hid d0
          have E0 := Lib.hid e0
          have HX3 : Hid (RT.inw ⟨l1, a1, k1⟩ wq) := by rw [← hwq]; exact HX.out.later (below_drew (Below.refl _ _) nq)
          have HX4 : Hid (RT.inw ⟨l2, a2, k2⟩ wq) := by rw [← hwq]; exact HX2.out.later (below_drew (Below.refl _ _) nq)
          clear hwq hb hb' HB HX HX2
          go_wp2_with fail
          clear d0 e0
          go_loopw [6] (fun i w' => ∃ q : Nat, q ≤ n2 ∧ i = .int .i64 q ∧ Hid (∀ j (h1 : j < l1.length) (h2 : j < l2.length), j < q → l1[j] = l2[j]) ∧ Hid (Below wq.heap.size wq w')) (fun i _ => n2 - (RowKit.intOf i).toNat)
          case atStart => exact ⟨0, by omega, rfl, fun j _ _ h => by omega, Below.refl _ _⟩
          case round =>
            obtain ⟨q, hq, rfl, HF2, HB2⟩ := hrel
            have d0 := (HB2.out.cell (p := ⟨b, o + m, none⟩) hbq).trans D0.out
            have e0 := (HB2.out.cell (p := ⟨b', o' + m, none⟩) hbq').trans E0.out
            by_cases hltq : q < n2
            · have hm1 : q < l1.length := by rw [HL3.out]; exact hltq
              have hm2 : q < l2.length := by rw [HL4.out]; exact hltq
              obtain ⟨b3, o3, rfl, hc3, hb3, d1, d2, d3⟩ := RT.inw.cells (HX3.out.later HB2.out) hm1
              obtain ⟨b4, o4, rfl, hc4, hb4, e1, e2, e3⟩ := RT.inw.cells (HX4.out.later HB2.out) hm2
              rw [HL3.out] at hc3
              rw [HL4.out] at hc4
              have HD3 : Hid (¬ l1[q] = l2[q] → ∀ w', Below w.heap.size w w' → Q (.returned (.bool false)) w') := fun h => HD.out (fun e => h (by subst e; rfl))
              have HS3 : Hid (l1[q] = l2[q] → ∀ j (h1 : j < l1.length) (h2 : j < l2.length), j < q + 1 → l1[j] = l2[j]) := fun h j h1 h2 hj => by
                rcases Nat.lt_or_ge j q with h3 | h3
                · exact HF2.out j h1 h2 h3
                · obtain rfl : j = q := by omega
                  exact h
              clear HF2
              generalize l1[q] = x at *
              generalize l2[q] = y at *
              clear hm1 hm2
              obtain ⟨xk, xn, xs⟩ := x
              obtain ⟨yk, yn, ys⟩ := y
              simp only at *
              have HB5 := Lib.hid (HBN.out.trans (HB2.out.mono HBN.out.size))
              by_cases h0 : xk = yk
              · subst h0
                by_cases h3 : xn = yn
                · subst h3
                  by_cases h4 : xs = ys
                  · subst h4
                    have HS2 := Lib.hid (HS3.out rfl)
                    go_wp2_with fail
                    go_quiet (fail)
                    have HB6 := Lib.hid (below_drew HB2.out nq)
                    go_wp2
                    go_roundw
                    case rel => exact ⟨q + 1, by omega, by go_num, HS2, HB6⟩
                    case measure => simp [RowKit.intOf]; omega
                  · have HD2 := Lib.hid (HD3.out (fun e => h4 (by injection e)))
                    have hs1 := (str_ne h4).1
                    have hs2 := (str_ne h4).2
                    clear h4
                    go_wp2_with fail
                    go_quiet (fail)
                    have HBN := Lib.hid (below_drew HB5.out nq)
                    go_wp2
                    exact HD2.out _ HBN.out
                · have HD2 := Lib.hid (HD3.out (fun e => h3 (by injection e)))
                  have h3' : (xn == yn) = false := by rw [beq_eq_false_iff_ne]; exact h3
                  clear h3
                  go_wp2_with fail
                  go_quiet (fail)
                  have HBN := Lib.hid (below_drew HB5.out nq)
                  go_wp2
                  exact HD2.out _ HBN.out
              · have HD2 := Lib.hid (HD3.out (fun e => h0 (by injection e)))
                have h0' : (xk == yk) = false := by rw [beq_eq_false_iff_ne]; exact h0
                clear h0
                go_wp2_with fail
                go_quiet (fail)
                have HBN := Lib.hid (below_drew HB5.out nq)
                go_wp2
                exact HD2.out _ HBN.out
            · obtain rfl : q = n2 := by omega
              have HE := Lib.hid (HS.out (List.ext_getElem (HL3.out.trans HL4.out.symm) (fun j h1 h2 => HF2.out j h1 h2 (by rw [← HL3.out]; exact h1))))
              have HB5 := Lib.hid (HBN.out.trans (HB2.out.mono HBN.out.size))
              go_wp2
              go_roundw
              case rel => exact ⟨m + 1, by omega, by go_num, HE, HB5⟩
              case measure => simp [RowKit.intOf]; omega
        · have hle2 : ((l1.length : Int) != l2.length) = true := by rw [bne_iff_ne]; omega
          have HE := Lib.hid (HD.out (fun e => hle (by rw [e])))
          clear hle
          go_wp2_with fail
          go_quiet (fail)
          have HBN := Lib.hid (below_drew HB.out nq)
          go_wp2
          exact HE.out _ HBN.out
      · obtain rfl : m = n := by omega
        have HE := Lib.hid (HY.out (map_l_of (HL1.out.trans HL2.out.symm) (fun j h1 h2 => HF.out j h1 h2 (by rw [← HL1.out]; exact h1))) _ HB.out)
        go_wp2
        exact HE.out
  · have hle2 : ((P1.length : Int) != P2.length) = true := by rw [bne_iff_ne]; omega
    have HE := Lib.hid (HN.out (fun e => hle (map_l_len e)) w (Below.refl _ _))
    go_enter Tryz.func33, Tryz.ntmps33
    go_wp2
    exact HE.out
theorem pelemStr : ElemOf Tryz.prog 96 9 (.string ⟨#[]⟩) 1 16 := ⟨Tryz.underlying96, by kernel_rfl, rfl, by decide⟩
def joinB (xs : List ByteArray) (sep : ByteArray) : ByteArray := ⟨(Lib.join (xs.map (·.data.toList)) sep.data.toList).toArray⟩
set_option maxRecDepth 100000 in
set_option maxHeartbeats 2000000 in
theorem joinS_any (tx : ST → ByteArray) (r : RT) (sep : ByteArray) (w : World) (h : Reads w r.v r.l.length 3 (r.l.flatMap stcells)) (hl : 0 < r.l.length ∧ r.l.length ≤ 100000) (hlen : (Lib.join ((r.l.map tx).map (·.data.toList)) sep.data.toList).length ≤ 140737488355328)
    (hg : ∀ x ∈ r.l, ∀ W, Below w.heap.size w W → Calls Tryz.prog 58 #[x.val] W fun e w' => e = .returned (.string (tx x)) ∧ Below W.heap.size W w') :
    Calls Tryz.prog 57 #[r.v, .string sep, .func (.func 58) #[] #[]] w fun e w' => e = .returned (.string (joinB (r.l.map tx) sep)) ∧ Below w.heap.size w w' := by
  obtain ⟨rl, ra, rc⟩ := r
  simp only [RT.v] at *
  have HE := Lib.hid h
  have HG := Lib.hid hg
  have HLEN := Lib.hid hlen
  have HTK : Hid (∀ m (hm : m < rl.length), (rl.take (m + 1)).map tx = (rl.take m).map tx ++ [tx rl[m]]) := fun m hm => by
    rw [List.take_succ_eq_append_getElem hm, List.map_append]; rfl
  clear h hg hlen
  go_enter Tryz.func57, Tryz.ntmps57
  go_wp2_with fail
  go_loopw [7, 12] (fun out i w' => ∃ m : Nat, m ≤ rl.length ∧ i = .int .i64 m ∧ Hid (Row w' 9 1 out m (((rl.take m).map tx).map Value.string) (fun k => w.heap.size ≤ k)) ∧ Hid (Below w.heap.size w w')) (fun _ i _ => rl.length - (RowKit.intOf i).toNat)
  case atStart => exact ⟨0, by omega, rfl, Row.nil _ _ _ _, Below.refl _ _⟩
  case round =>
    obtain ⟨m, hm, rfl, HO, HB⟩ := hrel
    by_cases hlt : m < rl.length
    · obtain ⟨b2, o2, hra, hle2, -, hb2, hcell2⟩ := (HE.out.later HB.out).atN (by omega) (by decide)
      subst hra
      have d0 := hcell2 (m * 3) _ (by simpa using fm_get stcells_len (List.getElem?_eq_getElem hlt) 0 _ rfl)
      have d1 := hcell2 (m * 3 + 1) _ (fm_get stcells_len (List.getElem?_eq_getElem hlt) 1 _ rfl)
      have d2 := hcell2 (m * 3 + 2) _ (fm_get stcells_len (List.getElem?_eq_getElem hlt) 2 _ rfl)
      rw [← Nat.add_assoc] at d1 d2
      have HGX := Lib.hid (HG.out rl[m] (List.getElem_mem hlt))
      have HTM := Lib.hid (HTK.out m hlt)
      clear hcell2
      generalize rl[m] = x at *
      have hsz := HB.out.size
      have HBA : Hid (Below w.heap.size w (wr.alloc (.cells #[.int .i64 x.k, .int .i64 x.n, .string x.s] 82))) := HB.out.alloc hsz _
      have HXA : Hid ((wr.alloc (.cells #[.int .i64 x.k, .int .i64 x.n, .string x.s] 82)).heap[wr.heap.size]? = some (.cells #[.int .i64 x.k, .int .i64 x.n, .string x.s] 82 (0, 0))) := heap_alloc_new _ _
      have HOA : Hid (Row (wr.alloc (.cells #[.int .i64 x.k, .int .i64 x.n, .string x.s] 82)) 9 1 u7 m (((rl.take m).map tx).map Value.string) (fun k => w.heap.size ≤ k)) := HO.out.frame (fun k _ hk => Below.heap_alloc _ _ _ hk)
      go_upto_region 5 with fail
      generalize wr.alloc (.cells #[.int .i64 x.k, .int .i64 x.n, .string x.s] 82) = wa at *
      clear d0 d1 d2
      have y0 := cellAt HXA.out 0 rfl
      have y1 := cellAt HXA.out 1 rfl
      have y2 := cellAt HXA.out 2 rfl
      have HGW := Lib.hid (HGX.out wa HBA.out)
      unfold ST.val at HGW
      go_wp2_with fail
      refine HGW.out.mono ?_
      rintro e w4 ⟨rfl, hb4⟩
      have HB4 := Lib.hid (HBA.out.trans (hb4.mono HBA.out.size))
      have HO4 : Hid (Row w4 9 1 u7 m (((rl.take m).map tx).map Value.string) (fun k => w.heap.size ≤ k)) := HOA.out.frame (fun k _ hk => hb4.block k hk)
      clear hb4 y0 y1 y2 HGW HGX
      generalize tx x = key at *
      have hbl := HB4.out.size
      go_wp2_with (refine wpList_row pelemStr rfl rfl (S := fun k => w.heap.size ≤ k) (n := m) (xs := ((rl.take m).map tx).map Value.string) rfl (HO4.out.frame (fun k _ hk => Below.heap_alloc _ _ _ hk)) (y := .slice (some ⟨w4.heap.size, 0, none⟩) 1 1) (m := 1) (news := [.string key]) rfl (reads_one w4 _ _) (one_of rfl) (by unfold maxLen; omega) (by omega) ?_; intro v5 w5 hr5 hch5)
      go_roundw
      case rel =>
        refine ⟨m + 1, by omega, by go_num, ?_, (HB4.out.alloc hbl _).trans (hch5.toBelow (by simp <;> omega) (fun n hn h => by omega))⟩
        rw [Hid, HTM.out, List.map_append]
        exact hr5.mono (fun k hk => by rcases hk with hk | hk; exact hk; simp only [World.size_alloc] at hk; omega)
      case measure => simp [RowKit.intOf]; omega
    · obtain rfl : m = rl.length := by omega
      rw [List.take_length] at HO
      obtain ⟨bk, o, c, he, hcap, hbk, hcell⟩ := HO.out.reads.at (by omega)
      subst he
      generalize hxs : rl.map tx = xs at *
      have hlx : xs.length = rl.length := by rw [← hxs, List.length_map]
      have hj := Lib.hid (Tryz.strings_Join bk o c xs sep wr (fun j x hx => hcell j (.string x) (by rw [List.getElem?_map, hx]; rfl)) hbk (by omega) (by omega) HLEN.out)
      rw [hlx] at hj
      clear hcell
      go_wp2_with fail
      refine hj.out.mono ?_
      rintro e w5 ⟨rfl, hb5⟩
      have HB5 := Lib.hid (HB.out.trans (hb5.mono HB.out.size))
      clear hb5 hj HLEN
      go_wp2
      go_ret
      refine ⟨?_, HB5.out⟩
      show _ = Ending.returned (.string (joinB (List.map tx rl) sep))
      rw [hxs]; rfl
end Go.Proofs.YtpijpeocdlnhiaaGreatDoor
