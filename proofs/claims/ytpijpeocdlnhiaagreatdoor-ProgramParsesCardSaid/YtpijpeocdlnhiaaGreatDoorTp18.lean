/- Texts for programTexts_holds, joined: QRText, QRTextP, QRCut, QRStep. -/
import Derived.Test.YtpijpeocdlnhiaaGreatDoorTp17
import Derived.Test.YtpijpeocdlnhiaaGreatDoorTp16
import Derived.Test.YtpijpeocdlnhiaaGreatDoorTp05
import Derived.Test.YtpijpeocdlnhiaaGreatDoorTp03
import Derived.Test.YtpijpeocdlnhiaaGreatDoorTp12
set_option linter.unusedVariables false
set_option linter.unusedSimpArgs false
namespace Go.Proofs.YtpijpeocdlnhiaaGreatDoor
open Go.RowKit
theorem rtop_text (s : ByteArray) (hs : s.size ≤ 400000) (w : World) :
    Calls Tryz.prog 21 #[.agg #[.int .i64 3, .int .i64 0, .float .f64 0, .string s, .slice none 0 0]] w fun e w' => e = .returned (.string (quoted s)) ∧ Below w.heap.size w w' := by
  have h := rtop_any (.node 3 0 0 s []) ⟨3, 0, 0, s, none, 0, 0⟩ (fun _ => True) w (by rw [TRead]; exact ⟨rfl, rfl, rfl, rfl, rfl, Nat.zero_le _, [], Reads.nil _ _, fun h => absurd rfl h, by rw [TReads]⟩) (by rw [wfT]; refine ⟨by omega, by omega, by omega, by unfold maxLen; omega, ?_⟩; rw [wfL]; trivial)
    (fun _ => by
      show (34 :: hexL s.data.toList ++ [34]).length ≤ 1000000
      have := bsize s
      simp only [List.length_append, List.length_cons, hexL_length, List.length_nil]; omega)
  have e : textTop (.node 3 0 0 s []) = 34 :: hexL s.data.toList ++ [34] := by unfold textTop; rw [if_pos (good_text s)]; rfl
  rw [e] at h
  exact h
theorem quoted_size (s : ByteArray) : (quoted s).size = 2 * s.size + 2 := by
  have h1 : (quoted s).size = (34 :: hexL s.data.toList ++ [34]).length := by unfold quoted; rfl
  rw [h1, List.length_append, List.length_cons, hexL_length, bsize]; simp
theorem word_size' (k : Nat) : (wordsL.getD k ⟨#[]⟩).size ≤ 5 := by
  have := wordB_len (k : Int)
  unfold wordB at this
  rw [Int.toNat_natCast, ← Lib.size_eq] at this
  exact this
set_option maxRecDepth 100000 in
set_option maxHeartbeats 4000000 in
theorem rstext_any (x : ST) (hk : 1 ≤ x.k ∧ x.k ≤ 12) (hn : -9223372036854775808 ≤ x.n ∧ x.n ≤ 9223372036854775807) (hs : x.s.size ≤ 10000) (w : World) :
    Calls Tryz.prog 60 #[x.val] w fun e w' => e = .returned (.string (stextB x)) ∧ Below w.heap.size w w' := by
  obtain ⟨k, n, s⟩ := x
  simp only at hk hn hs
  obtain ⟨j, rfl⟩ : ∃ j : Nat, k = j := ⟨k.toNat, by omega⟩
  have hj : 1 ≤ j ∧ j ≤ 12 := by omega
  unfold ST.val stextB
  simp only [Int.toNat_natCast, fieldI_num, fieldI_nam]
  have HX : Hid ((w.alloc (.cells #[.int .i64 j, .int .i64 n, .string s] 81)).heap[w.heap.size]? = some (.cells #[.int .i64 j, .int .i64 n, .string s] 81 (0, 0))) := heap_alloc_new w _
  have HBel : Hid (Below w.heap.size w (w.alloc (.cells #[.int .i64 j, .int .i64 n, .string s] 81))) := (Below.refl _ _).alloc (Nat.le_refl _) _
  have HW := fun W => Lib.hid (rword_in j hj W)
  have HF := fun W => Lib.hid (rfield_in j hj W)
  have hws := word_size' j
  generalize hwx : wordsL.getD j ⟨#[]⟩ = wx at *
  have hlen := Lib.itoa_length_le n hn.1 hn.2
  obtain ⟨q, hqe⟩ : ∃ q : ByteArray, q = ⟨(Lib.itoa n).toArray⟩ := ⟨_, rfl⟩
  have hqs : q.size ≤ 21 := by rw [hqe, mk_size]; omega
  have HD := fun W => Lib.hid (rdecimal_any n hn.1 hn.2 W)
  rw [← hqe] at HD ⊢
  have HT := fun W => Lib.hid (rtop_text s (by omega) W)
  have hqt : (quoted s).size ≤ 30000 := by rw [quoted_size]; omega
  generalize quoted s = qt at *
  have hfc := fieldI_cases j
  generalize fieldI j = fv at *
  clear hqe hlen hwx hn
  go_enter Tryz.func60, Tryz.ntmps60
  go_upto_region 1 with fail
  generalize w.alloc (.cells #[.int .i64 j, .int .i64 n, .string s] 81) = wa at *
  have x0 := cellAt HX.out 0 rfl
  go_wp2_with fail
  refine (HF _).out.mono ?_
  rintro e w2 ⟨rfl, rfl⟩
  have x1 := cellAt HX.out 1 rfl
  have x2 := cellAt HX.out 2 rfl
  have HKS : Hid (∀ w', Hid (Below w2.heap.size w2 w') → (w'.cell? ⟨w.heap.size, 0, none⟩ = some (.int .i64 j) ∧ w'.cell? ⟨w.heap.size, 1, none⟩ = some (.int .i64 n) ∧ w'.cell? ⟨w.heap.size, 2, none⟩ = some (.string s))) := fun w' hb =>
    have h := (hb.out.block _ (lt_of_heap HX.out)).trans HX.out
    ⟨cellAt h 0 rfl, cellAt h 1 rfl, cellAt h 2 rfl⟩
  have HB0 : Hid (Below w2.heap.size w2 w2.drew) := (Below.refl _ _).drew
  have HB00 : Hid (Below w2.heap.size w2 w2) := Below.refl _ _
  rcases hfc with rfl | rfl | rfl
  · go_wp2_with fail
    refine (HW _).out.mono ?_
    rintro e w3 ⟨rfl, hb3⟩
    have HB3 := Lib.hid (HBel.out.trans (hb3.mono HBel.out.size))
    clear hb3
    go_wp2
    go_ret
    exact ⟨rfl, HB3.out⟩
  · have c1 : (wx.size : Int) + 1 ≤ 9223372036854775807 := by omega
    have c2 : (wx.size : Int) + 1 + (q.size : Int) ≤ 9223372036854775807 := by omega
    have c3 : ¬ (9223372036854775807 : Int) < (wx.size : Int) + 1 := by omega
    have c4 : ¬ (9223372036854775807 : Int) < (wx.size : Int) + 1 + (q.size : Int) := by omega
    have c5 : ¬ 9223372036854775807 < wx.size + 1 := by omega
    have c6 : ¬ 9223372036854775807 < wx.size + 1 + q.size := by omega
    go_upto_region 3 with fail
    go_region_held3 (fun w' => w'.cell? ⟨w.heap.size, 0, none⟩ = some (.int .i64 j) ∧ w'.cell? ⟨w.heap.size, 1, none⟩ = some (.int .i64 n) ∧ w'.cell? ⟨w.heap.size, 2, none⟩ = some (.string s)) (exact HKS.out _ (by assumption))
      (first
      | (go_at_call 89; refine (HW _).out.mono ?_; rintro e w3 ⟨rfl, hb4⟩
         have HB4 := bel_step (by assumption) hb4
         clear hb4)
      | (go_at_call 78; refine (HD _).out.mono ?_; rintro e w3 ⟨rfl, rfl⟩)
      | fail)
    all_goals
      have HBE := Lib.hid (HBel.out.trans (HB4.out.mono HBel.out.size))
      go_wp2
      go_ret
      exact ⟨by rw [← ByteArray.append_assoc]; rfl, HBE.out⟩
  · have c1 : (wx.size : Int) + 1 ≤ 9223372036854775807 := by omega
    have c2 : (wx.size : Int) + 1 + (qt.size : Int) ≤ 9223372036854775807 := by omega
    have c3 : ¬ (9223372036854775807 : Int) < (wx.size : Int) + 1 := by omega
    have c4 : ¬ (9223372036854775807 : Int) < (wx.size : Int) + 1 + (qt.size : Int) := by omega
    have c5 : ¬ 9223372036854775807 < wx.size + 1 := by omega
    have c6 : ¬ 9223372036854775807 < wx.size + 1 + qt.size := by omega
    go_upto_region 5 with fail
    go_region_held3 (fun w' => w'.cell? ⟨w.heap.size, 0, none⟩ = some (.int .i64 j) ∧ w'.cell? ⟨w.heap.size, 1, none⟩ = some (.int .i64 n) ∧ w'.cell? ⟨w.heap.size, 2, none⟩ = some (.string s)) (exact HKS.out _ (by assumption))
      (first
      | (go_at_call 89; refine (HW _).out.mono ?_; rintro e w3 ⟨rfl, hb4⟩
         have HB4 := bel_step (by assumption) hb4
         clear hb4)
      | (go_at_call 21; refine (HT _).out.mono ?_; rintro e w3 ⟨rfl, hb4⟩
         have HB4 := bel_step (by assumption) hb4
         clear hb4)
      | fail)
    all_goals
      have HBE := Lib.hid (HBel.out.trans (HB4.out.mono HBel.out.size))
      go_wp2
      go_ret
      exact ⟨by rw [← ByteArray.append_assoc]; rfl, HBE.out⟩
theorem join_snoc (s : List UInt8) : ∀ (a : List (List UInt8)) (x : List UInt8), Lib.join (a ++ [x]) s = if a = [] then x else Lib.join a s ++ (s ++ x)
  | [], x => by rw [List.nil_append, join_one, if_pos rfl]
  | [y], x => by rw [List.singleton_append, join_cons2, join_one, join_one, if_neg (by simp)]
  | y :: z :: r, x => by
    rw [List.cons_append, List.cons_append, join_cons2, join_cons2, ← List.cons_append, join_snoc s (z :: r) x, if_neg (by simp), if_neg (by simp)]
    simp
theorem lrT_snoc (l : List ST) (x : ST) : lrT (l ++ [x]) = if l = [] then (stextB x).data.toList else lrT l ++ ([59, 32] ++ (stextB x).data.toList) := by
  unfold lrT
  rw [List.map_append, List.map_singleton, join_snoc]
  simp
theorem lpT_snoc (L : List (List ST)) (l : List ST) : lpT (L ++ [l]) = if L = [] then lrT l else lpT L ++ ([32, 124, 32] ++ lrT l) := by
  unfold lpT
  rw [List.map_append, List.map_singleton, join_snoc]
  simp
theorem lrT_nil : lrT [] = [] := rfl
set_option maxRecDepth 100000 in
set_option maxHeartbeats 4000000 in
theorem rptext_any (a : Option Addr) (c : Nat) (P : List RT) (w : World) (h : PrgU w (.slice a P.length c) P) :
    Calls Tryz.prog 31 #[.slice a P.length c] w fun e w' => e = .returned (.string (textL (P.map RT.l))) ∧ Below w.heap.size w w' := by
  have HRI := Lib.hid (prright_any a c P w h)
  have HP := Lib.hid h
  clear h
  by_cases hr : RightP P
  rotate_left
  · have e : textL (P.map RT.l) = ⟨#[]⟩ := by unfold textL; rw [if_neg (fun hh => hr ((rightP_iff P).2 hh))]
    rw [e]
    have HR := Lib.hid hr
    clear hr e
    go_enter Tryz.func31, Tryz.ntmps31
    go_wp2_with fail
    refine HRI.out.mono ?_
    rintro e w1 ⟨b, rfl, hb, hb1⟩
    have HB := Lib.hid hb1
    cases b with
    | true => exact absurd (hb.1 rfl) HR.out
    | false =>
      clear hb hb1
      go_wp2
      go_ret
      exact ⟨rfl, HB.out⟩
  · have e : textL (P.map RT.l) = ⟨(lpT (P.map RT.l)).toArray⟩ := by unfold textL; rw [if_pos ((rightP_iff P).1 hr)]
    rw [e]
    have h20 := hr.2.1
    have HR := Lib.hid hr
    have HTK : Hid (∀ m (hm : m < P.length), lpT ((P.map RT.l).take (m + 1)) = if m = 0 then lrT P[m].l else lpT ((P.map RT.l).take m) ++ ([32, 124, 32] ++ lrT P[m].l)) := fun m hm => by
      rw [List.take_succ_eq_append_getElem (by rw [List.length_map]; exact hm), lpT_snoc, List.getElem_map]
      by_cases h0 : m = 0
      · subst h0; simp
      · rw [if_neg h0, if_neg (fun e => h0 (by
          have := congrArg List.length e
          rw [List.length_take, List.length_map, List.length_nil] at this
          omega))]
    clear hr e
    go_enter Tryz.func31, Tryz.ntmps31
    go_wp2_with fail
    refine HRI.out.mono ?_
    rintro e w1 ⟨b, rfl, hb, hb1⟩
    have HB1 := Lib.hid hb1
    cases b with
    | false => exact absurd (hb.2 HR.out) (by simp)
    | true =>
      clear hb hb1 HRI
      go_wp2_with fail
      go_loopw [3, 4] (fun s i w' => ∃ (acc : ByteArray) (m : Nat), m ≤ P.length ∧ s = .string acc ∧ i = .int .i64 m ∧ acc.size ≤ m * 700000 ∧ Hid (acc.data.toList = lpT ((P.map RT.l).take m)) ∧ Hid (Below w.heap.size w w')) (fun _ i _ => P.length - (RowKit.intOf i).toNat)
      case atStart => exact ⟨⟨#[]⟩, 0, by omega, rfl, rfl, by decide, rfl, HB1⟩
      case round =>
        obtain ⟨acc, m, hm, rfl, rfl, hsz, HA, HB⟩ := hrel
        by_cases hlt : m < P.length
        · obtain ⟨b, o, rfl, hle, hbl, hc⟩ := (HP.out.later HB.out).head hlt
          have HE := Lib.hid ((HP.out.later HB.out).each P[m] (List.getElem_mem hlt))
          have hfi := HR.out.2.2 P[m] (List.getElem_mem hlt)
          have hl200 := hfi.1
          have HFI : Hid (∀ x ∈ P[m].l, NormS x ∧ x.s.size ≤ 1000) := fun x hx => rightB_norm (hfi.2 x hx)
          have HT2 := Lib.hid (HTK.out m hlt)
          have HCB : Hid (∀ w', Below wr.heap.size wr w' → w'.cell? ⟨b, o + m, none⟩ = some P[m].v) := fun w' hb => (hb.cell (p := ⟨b, o + m, none⟩) hbl).trans hc
          clear hfi
          have hcase : ∃ acc2 : ByteArray, acc2.size ≤ m * 700000 + 3 ∧ ((¬ (0 : Int) < (m : Int) ∧ acc2 = acc) ∨ ((0 : Int) < (m : Int) ∧ acc2 = acc ++ ⟨#[32, 124, 32]⟩)) := by
            by_cases h0 : m = 0
            · exact ⟨acc, Nat.le_trans hsz (Nat.le_add_right _ _), .inl ⟨by omega, rfl⟩⟩
            · refine ⟨acc ++ ⟨#[32, 124, 32]⟩, ?_, .inr ⟨by omega, rfl⟩⟩
              rw [ByteArray.size_append]
              exact Nat.add_le_add_right hsz 3
          obtain ⟨acc2, hsz2, hcs⟩ := hcase
          have HA2 : Hid (lpT ((P.map RT.l).take (m + 1)) = acc2.data.toList ++ lrT P[m].l) := by
            rw [Hid, HT2.out]
            rcases hcs with ⟨h0, rfl⟩ | ⟨h0, rfl⟩
            · have hm0 : m = 0 := by omega
              have e0 : (P.map RT.l).take m = [] := by rw [hm0]; rfl
              rw [if_pos hm0, HA.out, e0]
              rfl
            · rw [if_neg (by omega), ba_list, HA.out, List.append_assoc]
          generalize hrr : P[m] = r at *
          clear hrr HT2 HTK
          obtain ⟨rl, ra, rc⟩ := r
          simp only [RT.v] at *
          have hz : acc.size ≤ 14000000 := by omega
          rcases hcs with ⟨h0, rfl⟩ | ⟨h0, hacc2⟩
          case' inr =>
            have hd1 : decide ((0 : Int) < (m : Int)) = true := decide_eq_true h0
            have hd2 : decide (0 < m) = true := decide_eq_true (by omega)
            have hd3 : 0 < m := by omega
            go_upto_region 9 with fail
            rw [← hacc2]
            clear hacc2
          case' inl =>
            have hd1 : decide ((0 : Int) < (m : Int)) = false := decide_eq_false h0
            have hd2 : decide (0 < m) = false := decide_eq_false (by omega)
            have hd3 : ¬ 0 < m := by omega
            go_upto_region 9 with fail
          all_goals
            clear h0 hsz hz HA hc
            go_wp2_with fail
            go_loopw [3, 5] (fun s i w' => ∃ (ac : ByteArray) (q : Nat), q ≤ rl.length ∧ s = .string ac ∧ i = .int .i64 q ∧ ac.size ≤ m * 700000 + 3 + q * 3002 ∧ Hid (ac.data.toList = acc2.data.toList ++ lrT (rl.take q)) ∧ Hid (Below wr.heap.size wr w')) (fun _ i _ => rl.length - (RowKit.intOf i).toNat)
            case atStart => exact ⟨acc2, 0, by omega, rfl, rfl, by omega, by rw [Hid, List.take_zero, lrT_nil, List.append_nil], Below.refl _ _⟩
            case round =>
              obtain ⟨ac, q, hq, rfl, rfl, has, HAC, HB2⟩ := hrel
              have hc := HCB.out _ HB2.out
              by_cases hltq : q < rl.length
              · obtain ⟨b3, o3, rfl, hc3, hb3, d1, d2, d3⟩ := RT.inw.cells (HE.out.later HB2.out) hltq
                have hnx := HFI.out rl[q] (List.getElem_mem hltq)
                have hnk := hnx.1.1
                have hnk2 := hnx.1.2.1
                have hxs := hnx.2
                have hok := HE.out.ok rl[q] (List.getElem_mem hltq)
                have HG := fun W => Lib.hid (rstext_any rl[q] ⟨hnk, hnk2⟩ hok.2.1 (by omega) W)
                have hlen := stext_len hok hxs
                have HTQ : Hid (lrT (rl.take (q + 1)) = if q = 0 then (stextB rl[q]).data.toList else lrT (rl.take q) ++ ([59, 32] ++ (stextB rl[q]).data.toList)) := by
                  rw [Hid, List.take_succ_eq_append_getElem hltq, lrT_snoc]
                  by_cases h0 : q = 0
                  · rw [if_pos h0, if_pos (by rw [h0]; rfl)]
                  · rw [if_neg h0, if_neg (fun e => h0 (by
                      have := congrArg List.length e
                      rw [List.length_take, List.length_nil] at this
                      omega))]
                clear hnx hok hnk hnk2 hxs
                rw [← Lib.size_eq] at hlen
                generalize hst : stextB rl[q] = st at *
                clear hst
                unfold ST.val at HG
                generalize rl[q] = x at *
                obtain ⟨xk, xn, xs⟩ := x
                simp only at *
                have hcase : ∃ ac2 : ByteArray, ac2.size ≤ ac.size + 2 ∧ ((¬ (0 : Int) < (q : Int) ∧ ac2 = ac) ∨ ((0 : Int) < (q : Int) ∧ ac2 = ac ++ ⟨#[59, 32]⟩)) := by
                  by_cases h0 : q = 0
                  · exact ⟨ac, by omega, .inl ⟨by omega, rfl⟩⟩
                  · refine ⟨ac ++ ⟨#[59, 32]⟩, ?_, .inr ⟨by omega, rfl⟩⟩
                    rw [ByteArray.size_append]
                    exact Nat.le_refl _
                obtain ⟨ac2, hs2, hcs⟩ := hcase
                have HA3 : Hid ((ac2 ++ st).data.toList = acc2.data.toList ++ lrT (rl.take (q + 1))) := by
                  rw [Hid, HTQ.out, ba_list]
                  rcases hcs with ⟨h0, rfl⟩ | ⟨h0, rfl⟩
                  · have hq0 : q = 0 := by omega
                    have e0 : rl.take q = [] := by rw [hq0]; rfl
                    rw [if_pos hq0, HAC.out, e0, lrT_nil, List.append_nil]
                  · rw [if_neg (by omega), ba_list, HAC.out, List.append_assoc, List.append_assoc]
                have hz : ac.size ≤ 15000000 := by omega
                have hz2 : ac2.size ≤ 15000002 := by omega
                have hz3 : (ac2 ++ st).size ≤ m * 700000 + 3 + (q + 1) * 3002 := by rw [ByteArray.size_append]; omega
                clear HTQ HAC
                rcases hcs with ⟨h0, rfl⟩ | ⟨h0, hac2⟩
                case' inr =>
                  go_upto_region 14 with fail
                  rw [← hac2]
                  clear hac2
                case' inl =>
                  go_upto_region 14 with fail
                all_goals
                  go_wp2_with fail
                  refine (HG _).out.mono ?_
                  rintro e w5 ⟨rfl, hb5⟩
                  have HB5 := Lib.hid (HB2.out.trans (hb5.mono HB2.out.size))
                  clear hb5 hc d1 d2 d3 h0
                  go_wp2
                  go_roundw
                  case rel => exact ⟨ac2 ++ st, q + 1, by omega, by rfl, by go_num, hz3, HA3, HB5⟩
                  case measure => simp [RowKit.intOf]; omega
              · obtain rfl : q = rl.length := by omega
                have HB5 := Lib.hid (HB.out.trans (HB2.out.mono HB.out.size))
                have HN : Hid (ac.data.toList = lpT ((P.map RT.l).take (m + 1))) := by rw [Hid, HA2.out, HAC.out, List.take_length]
                have hz3 : ac.size ≤ (m + 1) * 700000 := by omega
                clear HAC HA2
                go_wp2
                go_roundw
                case rel => exact ⟨ac, m + 1, by omega, rfl, by go_num, hz3, HN, HB5⟩
                case measure => simp [RowKit.intOf]; omega
        · obtain rfl : m = P.length := by omega
          have HN : Hid ((⟨(lpT (P.map RT.l)).toArray⟩ : ByteArray) = acc) := by
            have := HA.out
            rw [List.take_of_length_le (by rw [List.length_map]; exact Nat.le_refl _)] at this
            rw [Hid, ← this, ba_data]
          clear HA
          go_wp2
          go_ret
          exact ⟨by rw [HN.out]; rfl, HB.out⟩
theorem ext_list' (s : ByteArray) (i j : Nat) : (s.extract i j).data.toList = (s.data.toList.drop i).take (j - i) := by
  rw [Lib.extract_eq]
theorem ext_all (s : ByteArray) : s.extract 0 s.size = s := by
  rw [← ba_data (s.extract 0 s.size), ext_list', List.drop_zero, Nat.sub_zero, List.take_of_length_le (by rw [Lib.size_eq]; exact Nat.le_refl _), ba_data]
theorem ext_tail (s : ByteArray) (fr : Nat) : (s.extract fr s.size).data.toList = s.data.toList.drop fr := by
  rw [ext_list', List.take_of_length_le (by rw [List.length_drop, Lib.size_eq]; exact Nat.le_refl _)]
theorem ext_tail_size (s : ByteArray) (fr : Nat) : (s.extract fr s.size).size = s.size - fr := by
  rw [Lib.size_eq, ext_tail, List.length_drop, ← Lib.size_eq]
theorem ext_ext0 (s : ByteArray) {fr m : Nat} (h : fr ≤ m) (h2 : m ≤ s.size) : (s.extract fr s.size).extract 0 (m - fr) = s.extract fr m := by
  rw [← ba_data ((s.extract fr s.size).extract 0 (m - fr)), ext_list', ext_tail, List.drop_zero, Nat.sub_zero, ← ext_list', ba_data]
theorem ext_ext1 (s : ByteArray) {fr m k : Nat} (h : fr ≤ m) : (s.extract fr s.size).extract (m - fr + k) (s.extract fr s.size).size = s.extract (m + k) s.size := by
  rw [← ba_data ((s.extract fr s.size).extract (m - fr + k) (s.extract fr s.size).size), ext_tail, ext_tail, List.drop_drop, show fr + (m - fr + k) = m + k by omega, ← ext_tail, ba_data]
theorem occ_at (s sep : ByteArray) {fr m : Nat} (hf : fr ≤ m) (h : m + sep.size ≤ s.size) :
    Lib.occAt (s.extract fr s.size).data.toList sep.data.toList (m - fr) = decide (s.extract m (m + sep.size) = sep) := by
  have e1 : m - fr + sep.data.toList.length ≤ (s.extract fr s.size).data.toList.length := by
    rw [← Lib.size_eq, ← Lib.size_eq, ext_tail_size]; omega
  rw [Lib.occAt_iff_take _ _ _ e1, ext_tail, List.drop_drop, show fr + (m - fr) = m by omega]
  have e2 : (s.extract m (m + sep.size)).data.toList = (s.data.toList.drop m).take sep.data.toList.length := by
    rw [ext_list', ← Lib.size_eq, Nat.add_sub_cancel_left]
  rw [← e2, Bool.eq_iff_iff, beq_iff_eq, decide_eq_true_iff]
  constructor
  · intro h; rw [← ba_data (s.extract m (m + sep.size)), h, ba_data]
  · intro h; rw [h]
structure CutI (s sep : ByteArray) (xs : List ByteArray) (fr m : Nat) : Prop where
  le1 : fr ≤ m
  le2 : m ≤ s.size
  parts : xs ++ partsB (s.extract fr s.size) sep = partsB s sep
  no : ∀ j, j < m - fr → Lib.occAt (s.extract fr s.size).data.toList sep.data.toList j = false
  len : xs.length ≤ fr
theorem CutI.start (s sep : ByteArray) : CutI s sep [] 0 0 := ⟨Nat.le_refl _, Nat.zero_le _, by rw [ext_all]; rfl, fun j hj => absurd hj (by omega), Nat.le_refl _⟩
theorem CutI.hit {s sep : ByteArray} {xs : List ByteArray} {fr m : Nat} (h : CutI s sep xs fr m) (h1 : 1 ≤ sep.size) (hl : m + sep.size ≤ s.size) (e : s.extract m (m + sep.size) = sep) : CutI s sep (xs ++ [s.extract fr m]) (m + sep.size) (m + sep.size) := by
  have hle := h.le1
  have hoc := occ_at s sep h.le1 hl
  rw [decide_eq_true e] at hoc
  have hi : Lib.indexB (s.extract fr s.size) sep = ((m - fr : Nat) : Int) := Lib.index_first (by rw [← Lib.size_eq, ext_tail_size]; omega) hoc (fun j hj => h.no j hj)
  have hp := partsB_hit h1 hi
  rw [ext_ext0 s h.le1 h.le2, ext_ext1 s h.le1] at hp
  refine ⟨Nat.le_refl _, hl, ?_, fun j hj => absurd hj (by omega), ?_⟩
  · rw [List.append_assoc, List.singleton_append, ← hp, h.parts]
  · rw [List.length_append, List.length_singleton]
    have := h.len
    omega
theorem CutI.miss {s sep : ByteArray} {xs : List ByteArray} {fr m : Nat} (h : CutI s sep xs fr m) (h1 : 1 ≤ sep.size) (hl : m + sep.size ≤ s.size) (e : ¬ s.extract m (m + sep.size) = sep) : CutI s sep xs fr (m + 1) := by
  have hle := h.le1
  have hoc := occ_at s sep h.le1 hl
  rw [decide_eq_false e] at hoc
  refine ⟨by omega, by omega, h.parts, fun j hj => ?_, h.len⟩
  rcases Nat.lt_or_ge j (m - fr) with h2 | h2
  · exact h.no j h2
  · rw [show j = m - fr by omega]; exact hoc
theorem CutI.fin {s sep : ByteArray} {xs : List ByteArray} {fr m : Nat} (h : CutI s sep xs fr m) (h1 : 1 ≤ sep.size) (hl : s.size < m + sep.size) : xs ++ [s.extract fr s.size] = partsB s sep := by
  have hle := h.le1
  have hi : Lib.indexB (s.extract fr s.size) sep = -1 := Lib.index_none (fun j hj => by
    rcases Nat.lt_or_ge j (m - fr) with h2 | h2
    · exact h.no j h2
    · cases ho : Lib.occAt (s.extract fr s.size).data.toList sep.data.toList j with
      | false => rfl
      | true =>
        rcases Lib.occAt_room ho with h3 | h3
        · rw [← Lib.size_eq, ← Lib.size_eq, ext_tail_size] at h3; omega
        · rw [Lib.size_eq, h3] at h1; simp at h1)
  rw [← h.parts, partsB_miss hi]
def RCutPost (s sep : ByteArray) (w : World) (e : Ending) (w' : World) : Prop :=
  ∃ a c, e = .returned (.slice a (partsB s sep).length c) ∧ Reads w' (.slice a (partsB s sep).length c) (partsB s sep).length 1 ((partsB s sep).map Value.string) ∧ Below w.heap.size w w'
set_option maxRecDepth 100000 in
set_option maxHeartbeats 4000000 in
theorem rcut_any (s sep : ByteArray) (hs : s.size ≤ 9000) (h1 : 1 ≤ sep.size) (h2 : sep.size ≤ 10) (w : World) :
    Calls Tryz.prog 65 #[.string s, .string sep] w (RCutPost s sep w) := by
  have HQ0 : Hid (∀ a c (xs : List ByteArray) n w', xs = partsB s sep → xs.length = n → Reads w' (.slice a n c) n 1 (xs.map Value.string) → Below w.heap.size w w' → RCutPost s sep w (.returned (.slice a n c)) w') := by
    intro a c xs n w' e e2 h3 h4
    subst e; subst e2
    exact ⟨a, c, rfl, h3, h4⟩
  generalize RCutPost s sep w = Q at *
  go_enter Tryz.func65, Tryz.ntmps65
  go_wp2_with fail
  go_loopw [5, 6, 7] (fun out f i w' => ∃ (xs : List ByteArray) (n fr m : Nat), n ≤ fr ∧ fr ≤ m ∧ m ≤ s.size ∧ f = .int .i64 fr ∧ i = .int .i64 m ∧ Hid (xs.length = n) ∧ Hid (CutI s sep xs fr m) ∧ Hid (Row w' 9 1 out n (xs.map Value.string) (fun k => w.heap.size ≤ k)) ∧ Hid (Below w.heap.size w w')) (fun _ _ i _ => s.size - (RowKit.intOf i).toNat)
  case atStart => exact ⟨[], 0, 0, 0, by omega, by omega, by omega, rfl, rfl, rfl, CutI.start s sep, Row.nil _ _ _ _, Below.refl _ _⟩
  case round =>
    obtain ⟨xs, n, fr, m, hnf, hfm, hms, rfl, rfl, HN, HI, HO, HB⟩ := hrel
    by_cases hlt : (m : Int) + (sep.size : Int) ≤ (s.size : Int)
    · by_cases hx : s.extract m (m + sep.size) = sep
      · have HI2 := Lib.hid (HI.out.hit h1 (by omega) hx)
        have hx' : (s.extract m (m + sep.size)).toList = sep.toList := by rw [hx]
        have hbl := HB.out.size
        clear hx
        go_wp2_with (refine wpList_row pelemStr rfl rfl (S := fun k => w.heap.size ≤ k) (n := n) (xs := xs.map Value.string) rfl (HO.out.frame (fun k _ hk => Below.heap_alloc _ _ _ hk)) (y := .slice (some ⟨wr.heap.size, 0, none⟩) 1 1) (m := 1) (news := [.string (s.extract fr m)]) rfl (reads_one wr _ _) (one_of rfl) (by unfold maxLen; omega) (by omega) ?_; intro v5 w5 hr5 hch5)
        go_roundw
        case rel =>
          refine ⟨xs ++ [s.extract fr m], n + 1, m + sep.size, m + sep.size, by omega, by omega, by omega, by go_num, by go_num, by rw [Hid, List.length_append, HN.out]; rfl, HI2, ?_, (HB.out.alloc hbl _).trans (hch5.toBelow (by simp <;> omega) (fun n hn h => by omega))⟩
          rw [Hid, List.map_append]
          exact hr5.mono (fun k hk => by rcases hk with hk | hk; exact hk; simp only [World.size_alloc] at hk; omega)
        case measure => simp [RowKit.intOf]; omega
      · have HI2 := Lib.hid (HI.out.miss h1 (by omega) hx)
        have hx1 := (str_ne hx).1
        have hx2 := (str_ne hx).2
        clear hx
        go_wp2
        go_roundw
        case rel => exact ⟨xs, n, fr, m + 1, by omega, by omega, by omega, rfl, by go_num, HN, HI2, HO, HB⟩
        case measure => simp [RowKit.intOf]; omega
    · have HF := Lib.hid (HI.out.fin h1 (by omega))
      have hbl := HB.out.size
      go_wp2_with (refine wpList_row pelemStr rfl rfl (S := fun k => w.heap.size ≤ k) (n := n) (xs := xs.map Value.string) rfl (HO.out.frame (fun k _ hk => Below.heap_alloc _ _ _ hk)) (y := .slice (some ⟨wr.heap.size, 0, none⟩) 1 1) (m := 1) (news := [.string (s.extract fr s.size)]) rfl (reads_one wr _ _) (one_of rfl) (by unfold maxLen; omega) (by omega) ?_; intro v5 w5 hr5 hch5)
      have HV : Hid (∃ a c, v5 = .slice a (n + 1) c ∧ Q (.returned (.slice a (n + 1) c)) w5) := by
        have hr := hr5.reads
        obtain ⟨_, ao, c2, hv, _⟩ := id hr
        refine ⟨ao, c2, hv, HQ0.out ao c2 (xs ++ [s.extract fr s.size]) (n + 1) w5 HF.out (by rw [List.length_append, HN.out]; rfl) ?_ ((HB.out.alloc hbl _).trans (hch5.toBelow (by simp <;> omega) (fun n hn h => by omega)))⟩
        rw [List.map_append]
        exact hv ▸ hr
      obtain ⟨a2, c2, rfl, hq⟩ := HV.out
      have HQ := Lib.hid hq
      clear hq HV hr5 hch5
      go_wp2
      exact HQ.out
theorem infoStR : (Tryz.prog.info? 81).map (·.size) = some 3 := by kernel_rfl
set_option maxRecDepth 100000 in
set_option maxHeartbeats 4000000 in
theorem rstep_any (s : ByteArray) (hs : s.size ≤ 9000) (w : World) :
    Calls Tryz.prog 66 #[.string s] w fun e w' => e = .returned (stepR s).val ∧ Below w.heap.size w w' := by
  have HX : Hid ((w.alloc (.cells (st3 0 0 ⟨#[]⟩) 81)).heap[w.heap.size]? = some (.cells (st3 0 0 ⟨#[]⟩) 81 (0, 0))) := heap_alloc_new _ _
  have HB1 : Hid (Below w.heap.size w (w.alloc (.cells (st3 0 0 ⟨#[]⟩) 81))) := (Below.refl _ _).alloc (Nat.le_refl _) _
  have HSZ : Hid ((w.alloc (.cells (st3 0 0 ⟨#[]⟩) 81)).heap.size = w.heap.size + 1) := by simp [Hid]
  go_enter Tryz.func66, Tryz.ntmps66
  go_upto_region 1 with fail
  unfold st3 at *
  generalize w.alloc (.cells #[.int .i64 0, .int .i64 0, .string ⟨#[]⟩] 81) = wa at *
  go_wp2_with fail
  go_loopw [3] (fun i w' => ∃ m : Nat, m ≤ s.size ∧ i = .int .i64 m ∧ Hid (∀ c ∈ s.data.toList.take m, c ≠ 32) ∧ w' = wa) (fun i _ => s.size - (RowKit.intOf i).toNat)
  case atStart => exact ⟨0, by omega, rfl, by simp [Hid], rfl⟩
  case round =>
    obtain ⟨m, hm, rfl, HC, rfl⟩ := hrel
    by_cases hgo : ∃ h : m < s.size, ¬ s[m].toNat = 32
    · obtain ⟨hlt, h32⟩ := hgo
      have hms : m < s.data.toList.length := by rw [← Lib.size_eq]; exact hlt
      have hb : s[m] = s.data.toList[m] := rfl
      have HC2 : Hid (∀ c ∈ s.data.toList.take (m + 1), c ≠ 32) := fun c hc e => by
        rw [List.take_succ_eq_append_getElem hms] at hc
        rcases List.mem_append.1 hc with h1 | h1
        · exact HC.out c h1 e
        · rw [List.mem_singleton.1 h1, ← hb] at e; rw [e] at h32; exact h32 rfl
      have h32' : ((s[m].toNat : Int) != 32) = true := by rw [bne_iff_ne]; omega
      clear hb h32
      go_wp2
      go_roundw
      case rel => exact ⟨m + 1, by omega, by go_num, HC2, by trivial⟩
      case measure => simp [RowKit.intOf]; omega
    · have HH : Hid (headR s.data.toList = s.data.toList.take m) := by
        refine headR_len s m hm HC.out ?_
        rcases Nat.lt_or_ge m s.size with h | h
        · have hms : m < s.data.toList.length := by rw [← Lib.size_eq]; exact h
          have h2 : s[m].toNat = 32 := Decidable.byContradiction fun hn => hgo ⟨h, hn⟩
          exact .inr (by rw [List.getElem?_eq_getElem hms]; congr 1; exact UInt8.toNat_inj.1 h2)
        · exact .inl (by omega)
      have hend : (∃ h : m < s.size, ((s[m].toNat : Int) != 32) = false) ∨ m = s.size := by
        rcases Nat.lt_or_ge m s.size with h | h
        · have h2 : s[m].toNat = 32 := Decidable.byContradiction fun hn => hgo ⟨h, hn⟩
          exact .inl ⟨h, by rw [bne_eq_false_iff_eq]; omega⟩
        · exact .inr (by omega)
      clear hgo HC
      rcases hend with ⟨hlt, h32⟩ | hlt
      case' inr =>
        have hlt' : ¬ ((m : Int) < (s.size : Int)) := by omega
        have hle' : s.size ≤ m := by omega
        clear hlt
      all_goals
        have hl0 : (0 : Int) ≤ (m : Int) := by omega
        have hl1 : (m : Int) ≤ (s.size : Int) := by omega
        have hhd : (⟨(headR s.data.toList).toArray⟩ : ByteArray) = s.extract 0 m := by
          rw [HH.out, ← ba_data (s.extract 0 m), ext_list', List.drop_zero, Nat.sub_zero]
        have HHIT := Lib.hid (fun k hk => stepR_hit s k hk)
        have HMISS := Lib.hid (stepR_miss s)
        rw [hhd] at HHIT HMISS
        clear hhd
        go_wp2_with fail
        go_loopw [4] (fun d w' => ∃ k : Nat, 1 ≤ k ∧ k ≤ 13 ∧ d = .int .i64 k ∧ Hid (∀ j : Nat, 1 ≤ j → j < k → ¬ wordsL.getD j ⟨#[]⟩ = s.extract 0 m) ∧ Hid (w'.heap[w.heap.size]? = some (.cells #[.int .i64 0, .int .i64 0, .string ⟨#[]⟩] 81 (0, 0))) ∧ Hid (Below w.heap.size w w')) (fun d _ => 13 - (RowKit.intOf d).toNat)
        case atStart => exact ⟨1, by omega, by omega, rfl, fun j h1 h2 => by omega, HX, HB1⟩
        case round =>
          obtain ⟨k, hk1, hk13, rfl, HNO, HXr, HBr⟩ := hrel
          by_cases hk : (k : Int) ≤ 12
          · have HW := fun W => Lib.hid (rword_in k (by omega) W)
            have HF := fun W => Lib.hid (rfield_in k (by omega) W)
            have HB0 : Hid (Below wr.heap.size wr wr.drew) := (Below.refl _ _).drew
            have HB00 : Hid (Below wr.heap.size wr wr) := Below.refl _ _
            have HEND : Hid (∀ w', Below wr.heap.size wr w' → Below w.heap.size w w' ∧ w'.heap[w.heap.size]? = some (.cells #[.int .i64 0, .int .i64 0, .string ⟨#[]⟩] 81 (0, 0))) := fun w' hb => ⟨HBr.out.trans (hb.mono HBr.out.size), (hb.block _ (lt_of_heap HXr.out)).trans HXr.out⟩
            have HK := Lib.hid (HHIT.out k ⟨hk1, by omega⟩)
            by_cases hx : wordsL.getD k ⟨#[]⟩ = s.extract 0 m
            · have HS := Lib.hid (HK.out hx)
              have HXX := Lib.hid hx
              have hx1 : ((wordsL.getD k ⟨#[]⟩).toList == (s.extract 0 m).toList) = true := by rw [hx]; simp
              clear hx HK HHIT HMISS HNO
              generalize wordsL.getD k ⟨#[]⟩ = wx at *
              go_upto_region 7 with fail
              go_region_held3 (fun w' => True) (trivial)
                (first
                | (go_at_call 89; refine (HW _).out.mono ?_; rintro e w3 ⟨rfl, hb4⟩
                   have HB4 := bel_step (by assumption) hb4
                   clear hb4)
                | fail)
              all_goals
                obtain ⟨hBz, hXz⟩ := HEND.out _ HB4.out
                have HBz := Lib.hid hBz
                have HXz := Lib.hid hXz
                clear hBz hXz HB4 HEND HB0 HB00 HXr HBr hx1 HW HXX
                go_upto_region 9 with fail
                have HYa : Hid ((w3.alloc (.cells #[.int .i64 k, .int .i64 0, .string ⟨#[]⟩] 81)).heap[w3.heap.size]? = some (.cells #[.int .i64 k, .int .i64 0, .string ⟨#[]⟩] 81 (0, 0))) := heap_alloc_new _ _
                have HXa : Hid ((w3.alloc (.cells #[.int .i64 k, .int .i64 0, .string ⟨#[]⟩] 81)).heap[w.heap.size]? = some (.cells #[.int .i64 0, .int .i64 0, .string ⟨#[]⟩] 81 (0, 0))) := (Below.heap_alloc _ _ _ (lt_of_heap HXz.out)).trans HXz.out
                have HBa : Hid (Below w.heap.size w (w3.alloc (.cells #[.int .i64 k, .int .i64 0, .string ⟨#[]⟩] 81))) := HBz.out.alloc HBz.out.size _
                have HNE : Hid (w.heap.size < w3.heap.size) := lt_of_heap HXz.out
                generalize w3.alloc (.cells #[.int .i64 k, .int .i64 0, .string ⟨#[]⟩] 81) = wa at *
                generalize w3.heap.size = bx at *
                clear HBz HXz
                go_upto_region 10 with fail
                have hmn : (min ((m : Int) + 1) (s.size : Int)).toNat = min (m + 1) s.size := by omega
                have HTL : Hid (tailR s.data.toList = (s.extract (min ((m : Int) + 1) (s.size : Int)).toNat s.size).data.toList) := by
                  rw [Hid, ext_tail, hmn]
                  unfold tailR
                  rw [HH.out, List.length_take, ← Lib.size_eq, Nat.min_eq_left hm]
                have hrz : (s.extract (min ((m : Int) + 1) (s.size : Int)).toNat s.size).size ≤ 9000 := by rw [ext_tail_size]; omega
                rw [HTL.out] at HS
                clear hmn HTL
                generalize s.extract (min ((m : Int) + 1) (s.size : Int)).toNat s.size = rs at *
                have hfc := fieldI_cases k
                generalize fieldI k = fv at *
                have hk64 : k ≤ 13 := hk13
                go_wp2_with fail
                refine (HF _).out.mono ?_
                rintro e w4 ⟨rfl, rfl⟩
                rcases hfc with rfl | rfl | rfl
                · have HS2 : Hid (stepR s = ⟨k, 0, ⟨#[]⟩⟩) := by rw [Hid, HS.out]; simp
                  clear HS
                  go_wp2_with fail
                  refine (HF _).out.mono ?_
                  rintro e w5 ⟨rfl, rfl⟩
                  have HS := HS2
                  have y0 := cellAt HYa.out 0 rfl
                  have y1 := cellAt HYa.out 1 rfl
                  have y2 := cellAt HYa.out 2 rfl
                  have x0 := cellAt HXa.out 0 rfl
                  have x1 := cellAt HXa.out 1 rfl
                  have x2 := cellAt HXa.out 2 rfl
                  have g0 := freeAt HXa.out 0
                  have g1 := freeAt HXa.out 1
                  have g2 := freeAt HXa.out 2
                  go_wp2
                  rw [HS.out]
                  exact step_post (x := ⟨k, 0, ⟨#[]⟩⟩) rfl Tryz.underlying81 infoStR HXa.out rfl HBa.out rfl rfl
                · have HS2 : Hid (stepR s = ⟨k, (numberR rs.data.toList).1, ⟨#[]⟩⟩) := by rw [Hid, HS.out]; simp
                  clear HS
                  have HNU := fun W => Lib.hid (rnumber_any rs (by omega) W)
                  generalize numberR rs.data.toList = nr at *
                  obtain ⟨N, nb⟩ := nr
                  simp only at HNU HS2
                  go_wp2_with fail
                  refine (HNU _).out.mono ?_
                  rintro e w5 ⟨rfl, rfl⟩
                  have y1 := cellAt HYa.out 1 rfl
                  have f1 := freeAt HYa.out 1
                  go_upto_region 12 with fail
                  have HYb : Hid ((w4.setCell ⟨bx, 1, none⟩ (.int .i64 N)).heap[bx]? = some (.cells #[.int .i64 k, .int .i64 N, .string ⟨#[]⟩] 81 (0, 0))) := heap_store HYa.out 1 _
                  have HXb : Hid ((w4.setCell ⟨bx, 1, none⟩ (.int .i64 N)).heap[w.heap.size]? = some (.cells #[.int .i64 0, .int .i64 0, .string ⟨#[]⟩] 81 (0, 0))) := (Below.heap_setCell _ _ _ _ (by have := HNE.out; simp only; omega)).trans HXa.out
                  have HBb : Hid (Below w.heap.size w (w4.setCell ⟨bx, 1, none⟩ (.int .i64 N))) := HBa.out.setCell (by have := HNE.out; simp only; omega) _
                  clear HYa HXa HBa y1 f1
                  generalize w4.setCell ⟨bx, 1, none⟩ (.int .i64 N) = wb at *
                  go_wp2_with fail
                  refine (HF _).out.mono ?_
                  rintro e w5 ⟨rfl, rfl⟩
                  have HS := HS2
                  have y0 := cellAt HYb.out 0 rfl
                  have y1 := cellAt HYb.out 1 rfl
                  have y2 := cellAt HYb.out 2 rfl
                  have x0 := cellAt HXb.out 0 rfl
                  have x1 := cellAt HXb.out 1 rfl
                  have x2 := cellAt HXb.out 2 rfl
                  have g0 := freeAt HXb.out 0
                  have g1 := freeAt HXb.out 1
                  have g2 := freeAt HXb.out 2
                  go_wp2
                  rw [HS.out]
                  exact step_post (x := ⟨k, N, ⟨#[]⟩⟩) rfl Tryz.underlying81 infoStR HXb.out rfl HBb.out rfl rfl
                · go_wp2_with fail
                  refine (HF _).out.mono ?_
                  rintro e w5 ⟨rfl, rfl⟩
                  by_cases h2 : 2 ≤ rs.size
                  · have HS2 : Hid (stepR s = ⟨k, 0, ⟨(unhexR (midR rs.data.toList)).1.toArray⟩⟩) := by
                      rw [Hid, HS.out]
                      have : 2 ≤ rs.data.toList.length := by rw [← Lib.size_eq]; exact h2
                      simp only [this, and_self, if_true, Int.reduceEq, if_false]
                    clear HS
                    have hmid : midR rs.data.toList = (rs.extract 1 (rs.size - 1)).data.toList := by
                      unfold midR
                      rw [ext_list', ← Lib.size_eq]
                      congr 1
                    have hsm : (rs.extract 1 (rs.size - 1)).size ≤ 1000000 := by rw [ByteArray.size_extract]; omega
                    have HUN := fun W => Lib.hid (runhex_any (rs.extract 1 (rs.size - 1)) hsm W)
                    rw [← hmid] at HUN
                    generalize (unhexR (midR rs.data.toList)).1 = ul at *
                    generalize (unhexR (midR rs.data.toList)).2 = ub at *
                    clear hmid hsm
                    have h2' : (2 : Int) ≤ (rs.size : Int) := by omega
                    have e1 : ((rs.size : Int) - 1).toNat = rs.size - 1 := by omega
                    obtain ⟨ulb, hub⟩ : ∃ ulb : ByteArray, ulb = ⟨ul.toArray⟩ := ⟨_, rfl⟩
                    rw [← hub] at HS2 HUN
                    clear hub
                    go_wp2_with fail
                    refine (HUN _).out.mono ?_
                    rintro e w6 ⟨rfl, hb6⟩
                    have HYb := Lib.hid ((hb6.block _ (lt_of_heap HYa.out)).trans HYa.out)
                    have HXb := Lib.hid ((hb6.block _ (lt_of_heap HXa.out)).trans HXa.out)
                    have HBb := Lib.hid (HBa.out.trans (hb6.mono HBa.out.size))
                    clear hb6 HYa HXa HBa HUN
                    have y2 := cellAt HYb.out 2 rfl
                    have f2 := freeAt HYb.out 2
                    go_upto_region 14 with fail
                    have HYc : Hid ((w6.setCell ⟨bx, 2, none⟩ (.string ulb)).heap[bx]? = some (.cells #[.int .i64 k, .int .i64 0, .string ulb] 81 (0, 0))) := heap_store HYb.out 2 _
                    have HXc : Hid ((w6.setCell ⟨bx, 2, none⟩ (.string ulb)).heap[w.heap.size]? = some (.cells #[.int .i64 0, .int .i64 0, .string ⟨#[]⟩] 81 (0, 0))) := (Below.heap_setCell _ _ _ _ (by have := HNE.out; simp only; omega)).trans HXb.out
                    have HBc : Hid (Below w.heap.size w (w6.setCell ⟨bx, 2, none⟩ (.string ulb))) := HBb.out.setCell (by have := HNE.out; simp only; omega) _
                    clear HYb HXb HBb y2 f2
                    generalize w6.setCell ⟨bx, 2, none⟩ (.string ulb) = wc2 at *
                    have HS := HS2
                    have y0 := cellAt HYc.out 0 rfl
                    have y1 := cellAt HYc.out 1 rfl
                    have y2 := cellAt HYc.out 2 rfl
                    have x0 := cellAt HXc.out 0 rfl
                    have x1 := cellAt HXc.out 1 rfl
                    have x2 := cellAt HXc.out 2 rfl
                    have g0 := freeAt HXc.out 0
                    have g1 := freeAt HXc.out 1
                    have g2 := freeAt HXc.out 2
                    go_wp2
                    rw [HS.out]
                    exact step_post (x := ⟨k, 0, ulb⟩) rfl Tryz.underlying81 infoStR HXc.out rfl HBc.out rfl rfl
                  · have HS2 : Hid (stepR s = ⟨k, 0, ⟨#[]⟩⟩) := by
                      rw [Hid, HS.out]
                      have : ¬ 2 ≤ rs.data.toList.length := by rw [← Lib.size_eq]; exact h2
                      simp only [this, and_false, if_false, Int.reduceEq]
                    clear HS
                    have h2' : ¬ (2 : Int) ≤ (rs.size : Int) := by omega
                    have HS := HS2
                    have y0 := cellAt HYa.out 0 rfl
                    have y1 := cellAt HYa.out 1 rfl
                    have y2 := cellAt HYa.out 2 rfl
                    have x0 := cellAt HXa.out 0 rfl
                    have x1 := cellAt HXa.out 1 rfl
                    have x2 := cellAt HXa.out 2 rfl
                    have g0 := freeAt HXa.out 0
                    have g1 := freeAt HXa.out 1
                    have g2 := freeAt HXa.out 2
                    go_wp2
                    rw [HS.out]
                    exact step_post (x := ⟨k, 0, ⟨#[]⟩⟩) rfl Tryz.underlying81 infoStR HXa.out rfl HBa.out rfl rfl
            · have HNO2 : Hid (∀ j : Nat, 1 ≤ j → j < k + 1 → ¬ wordsL.getD j ⟨#[]⟩ = s.extract 0 m) := fun j h1 h2 => by
                rcases Nat.lt_or_ge j k with h3 | h3
                · exact HNO.out j h1 h3
                · rw [show j = k by omega]; exact hx
              have hx1 := (str_ne hx).2
              have hx2 := (str_ne hx).1
              clear hx HK HHIT HMISS HNO
              generalize wordsL.getD k ⟨#[]⟩ = wx at *
              go_upto_region 7 with fail
              go_region_held3 (fun w' => True) (trivial)
                (first
                | (go_at_call 89; refine (HW _).out.mono ?_; rintro e w3 ⟨rfl, hb4⟩
                   have HB4 := bel_step (by assumption) hb4
                   clear hb4)
                | fail)
              all_goals
                obtain ⟨hBz, hXz⟩ := HEND.out _ HB4.out
                have HBz := Lib.hid hBz
                have HXz := Lib.hid hXz
                clear hBz hXz HB4 HEND HB0 HB00 HXr HBr hx1 hx2 HW HF
                go_wp2
                go_roundw
                case rel => exact ⟨k + 1, by omega, by omega, by go_num, HNO2, HXz, HBz⟩
                case measure => simp [RowKit.intOf]; omega
          · have HS : Hid (stepR s = ⟨0, 0, ⟨#[]⟩⟩) := HMISS.out (fun j h1 h2 => HNO.out j h1 (by omega))
            clear HHIT HMISS HNO
            have x0 := cellAt HXr.out 0 rfl
            have x1 := cellAt HXr.out 1 rfl
            have x2 := cellAt HXr.out 2 rfl
            have g0 := freeAt HXr.out 0
            have g1 := freeAt HXr.out 1
            have g2 := freeAt HXr.out 2
            go_wp2
            rw [HS.out]
            exact step_post (x := ⟨0, 0, ⟨#[]⟩⟩) rfl Tryz.underlying81 infoStR HXr.out rfl HBr.out rfl rfl
end Go.Proofs.YtpijpeocdlnhiaaGreatDoor
