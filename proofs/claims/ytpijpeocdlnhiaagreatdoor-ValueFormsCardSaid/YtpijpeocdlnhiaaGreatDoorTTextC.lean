/- value.Text of every payload. -/
import Derived.Test.YtpijpeocdlnhiaaGreatDoorTTextB
import Derived.Test.YtpijpeocdlnhiaaGreatDoorTopValid
namespace Go.Proofs.YtpijpeocdlnhiaaGreatDoor
set_option linter.unusedVariables false
set_option linter.unusedSimpArgs false
open Go.RowKit

theorem head_of {left k n : Int} {f : Nat} {s : ByteArray} {len : Nat} (h : headB left k n f s len = true) : (0 ≤ k ∧ k ≤ 4) ∧ (k ≠ 4 → len = 0) := by
  unfold headB at h
  simp only [Bool.and_eq_true, Bool.or_eq_true, decide_eq_true_eq] at h
  exact ⟨h.1.1.1.1.1, fun hk => h.1.2.resolve_left hk⟩
theorem tail_len : ∀ (l : List VT), l.length ≤ (tailT l).length ∧ ∀ t ∈ l, (textT t).length ≤ (tailT l).length
  | [] => by rw [tailT]; exact ⟨Nat.le_refl _, fun t h => by cases h⟩
  | t :: r => by
    have h := tail_len r
    simp only [tailT, List.length_cons, List.length_append]
    refine ⟨by omega, fun u hu => ?_⟩
    rcases List.mem_cons.1 hu with rfl | hu
    · omega
    · have := h.2 u hu
      omega
theorem texts_len (l : List VT) : l.length ≤ (textsT l).length + 1 ∧ ∀ t ∈ l, (textT t).length ≤ (textsT l).length := by
  cases l with
  | nil => rw [textsT]; exact ⟨by simp, fun t h => by cases h⟩
  | cons t r =>
    have h := tail_len r
    simp only [textsT, List.length_cons, List.length_append]
    refine ⟨by omega, fun u hu => ?_⟩
    rcases List.mem_cons.1 hu with rfl | hu
    · omega
    · have := h.2 u hu
      omega
theorem text_all (t : VT) : ∀ (left : Int), goodT left t = true → wfT t → (textT t).length ≤ 1000000 → TextC t := by
  induction t using VT.ind with
  | _ k n f s l ih =>
    intro left hg hw hl
    rw [goodT, Bool.and_eq_true] at hg
    obtain ⟨hh, hgl⟩ := hg
    obtain ⟨hk, hk4⟩ := head_of hh
    rw [wfT] at hw
    obtain ⟨-, hn, hf, hs, hwl⟩ := hw
    intro v S w hv hT
    obtain ⟨e1, e2, e3, e4, e5⟩ := hv.fields
    simp only [VT.k, VT.n, VT.f, VT.s, VT.l] at e1 e2 e3 e4 e5
    obtain rfl | rfl | rfl | rfl | rfl : k = 0 ∨ k = 1 ∨ k = 2 ∨ k = 3 ∨ k = 4 := by omega
    · have ht : textT (.node 0 n f s l) = nilS := by rw [textT, if_neg (by decide)]; rfl
      rw [ht]
      exact none_text v w
    · have ht : textT (.node 1 n f s l) = Lib.itoa v.n := by rw [textT, if_neg (by decide), e2]; rfl
      rw [ht]
      exact int_text v w (by rw [e2]; exact hn) hT
    · have ht : textT (.node 2 n f s l) = 35 :: numTextL v.f := by rw [textT, if_neg (by decide), e3]; rfl
      rw [ht]
      exact float_text v w (by rw [e3]; exact hf) hT
    · have ht : textT (.node 3 n f s l) = 34 :: hexL v.s.data.toList ++ [34] := by rw [textT, if_neg (by decide), e4]; rfl
      rw [ht] at hl ⊢
      refine str_text v w ?_
      rw [List.length_append, List.length_cons, hexL_length, bsize] at hl
      omega
    · have ht : textT (.node 4 n f s l) = 91 :: (textsT l ++ [93]) := by rw [textT, if_pos rfl]
      rw [ht] at hl ⊢
      rw [List.length_cons, List.length_append] at hl
      have h1 := texts_len l
      have h3 : ([93] : List UInt8).length = 1 := rfl
      refine list_text n f s l (by omega) (by omega) (fun t ht => ?_) (fun t ht => ih t ht (left - 1) ((goodL_iff _ _).1 hgl t ht) ((wfL_iff l).1 hwl t ht) (by have := h1.2 t ht; omega)) v S w hv hT
      have h2 := (goodL_iff _ _).1 hgl t ht
      obtain ⟨k', n', f', s', l'⟩ := t
      rw [goodT, Bool.and_eq_true] at h2
      exact (head_of h2.1).1
theorem bel_stepT {w0 a b : World} (h : Hid (Below w0.heap.size w0 a)) (hb : Below a.heap.size a b) : Hid (Below w0.heap.size w0 b) := h.out.trans (hb.mono h.out.size)
set_option maxRecDepth 100000 in
set_option maxHeartbeats 4000000 in
theorem vtop_any (t : VT) (v : VV) (S : Nat → Prop) (w : World) (hv : TRead w S t v) (hwf : wfT t) (hlen : goodT 8 t = true → (textT t).length ≤ 1000000) (hT : Tabs w) :
    Calls Tryz.prog 12 #[v.val] w fun e w' => e = .returned (.string ⟨(textTop t).toArray⟩) ∧ Below w.heap.size w w' := by
  have HX : Hid ((w.alloc (.cells #[.int .i64 v.k, .int .i64 v.n, .float .f64 v.f, .string v.s, .slice v.a v.l v.c] 26)).heap[w.heap.size]? = some (.cells #[.int .i64 v.k, .int .i64 v.n, .float .f64 v.f, .string v.s, .slice v.a v.l v.c] 26 (0, 0))) := heap_alloc_new w _
  have HBel : Hid (Below w.heap.size w (w.alloc (.cells #[.int .i64 v.k, .int .i64 v.n, .float .f64 v.f, .string v.s, .slice v.a v.l v.c] 26))) := (Below.refl _ _).alloc (Nat.le_refl _) _
  have HVA := Lib.hid (valid_any t v S _ (hv.later HBel.out) hwf)
  have hkr : goodT 8 t = true → 0 ≤ v.k ∧ v.k ≤ 4 := by
    intro h
    rw [hv.fields.1]
    obtain ⟨k', n', f', s', l'⟩ := t
    rw [goodT, Bool.and_eq_true] at h
    exact (head_of h.1).1
  have hC : goodT 8 t = true → ∀ W, Hid (Below w.heap.size w W) → Calls Tryz.prog (textF v.k) #[.agg #[], v.val] W fun e w' => e = .returned (.string ⟨(textT t).toArray⟩) ∧ Below W.heap.size W w' := by
    intro h W hW
    rw [hv.fields.1]
    exact text_all t 8 h hwf (hlen h) v S W (hv.later hW.out) (hT.later hW.out)
  have htt : textTop t = if goodT 8 t = true then textT t else [] := rfl
  rw [htt]
  generalize goodT 8 t = g at *
  generalize textT t = tx at *
  clear htt hv hwf hlen hT
  obtain ⟨pk, pn, pf, ps, pa, pl, pc⟩ := v
  dsimp only [VV.val] at *
  cases g with
  | false =>
    rw [if_neg (by decide)]
    clear hC hkr
    go_enter Tryz.func12, Tryz.ntmps12
    go_upto_region 1 with fail
    generalize w.alloc (.cells #[.int .i64 pk, .int .i64 pn, .float .f64 pf, .string ps, .slice pa pl pc] 26) = wa at *
    obtain ⟨x0, x1, x2, x3, x4⟩ := cells5 HX.out
    go_wp2_with fail
    refine HVA.out.mono ?_
    rintro e w2 ⟨rfl, hb2⟩
    have HB2 := Lib.hid (HBel.out.trans (hb2.mono HBel.out.size))
    clear hb2
    go_wp2_with fail
    go_ret
    exact ⟨rfl, HB2.out⟩
  | true =>
    rw [if_pos rfl]
    have HC := Lib.hid (hC rfl)
    have hkm := hkr rfl
    clear hC hkr
    have hk5 : pk = 0 ∨ pk = 1 ∨ pk = 2 ∨ pk = 3 ∨ pk = 4 := by omega
    clear hkm
    go_enter Tryz.func12, Tryz.ntmps12
    go_upto_region 1 with fail
    generalize w.alloc (.cells #[.int .i64 pk, .int .i64 pn, .float .f64 pf, .string ps, .slice pa pl pc] 26) = wa at *
    obtain ⟨x0, x1, x2, x3, x4⟩ := cells5 HX.out
    go_wp2_with fail
    refine HVA.out.mono ?_
    rintro e w2 ⟨rfl, hb2⟩
    have HB2 := Lib.hid (HBel.out.trans (hb2.mono HBel.out.size))
    have HX2 := Lib.hid ((hb2.block _ (lt_of_heap HX.out)).trans HX.out)
    clear hb2 x0 x1 x2 x3 x4 HVA
    have HKS : Hid (∀ w', Hid (Below w2.heap.size w2 w') → (w'.cell? ⟨w.heap.size, 0, none⟩ = some (.int .i64 pk) ∧ w'.cell? ⟨w.heap.size, 1, none⟩ = some (.int .i64 pn) ∧ w'.cell? ⟨w.heap.size, 2, none⟩ = some (.float .f64 pf) ∧ w'.cell? ⟨w.heap.size, 3, none⟩ = some (.string ps) ∧ w'.cell? ⟨w.heap.size, 4, none⟩ = some (.slice pa pl pc))) := fun w' hb =>
      cells5 ((hb.out.block _ (lt_of_heap HX2.out)).trans HX2.out)
    have HB0 : Hid (Below w2.heap.size w2 w2.drew) := (Below.refl _ _).drew
    have HB00 : Hid (Below w2.heap.size w2 w2) := Below.refl _ _
    have HCC : Hid (∀ W, Hid (Below w2.heap.size w2 W) → Calls Tryz.prog (textF pk) #[.agg #[], .agg #[.int .i64 pk, .int .i64 pn, .float .f64 pf, .string ps, .slice pa pl pc]] W fun e w' => e = .returned (.string ⟨tx.toArray⟩) ∧ Below W.heap.size W w') := fun W hW => HC.out W (HB2.out.trans (hW.out.mono HB2.out.size))
    clear HC HX HBel HX2
    go_upto_region 3 with fail
    rcases hk5 with rfl | rfl | rfl | rfl | rfl
    · have HK := Lib.hid kv_0
      have hmeth := km_0
      rw [tf_0] at HCC
      go_region_held3 (fun w' => w'.cell? ⟨w.heap.size, 0, none⟩ = some (.int .i64 0) ∧ w'.cell? ⟨w.heap.size, 1, none⟩ = some (.int .i64 pn) ∧ w'.cell? ⟨w.heap.size, 2, none⟩ = some (.float .f64 pf) ∧ w'.cell? ⟨w.heap.size, 3, none⟩ = some (.string ps) ∧ w'.cell? ⟨w.heap.size, 4, none⟩ = some (.slice pa pl pc)) (exact HKS.out _ (by assumption))
        (first
        | (go_at_call 39; refine (of_any 0 _).mono ?_; rintro e w3 ⟨rfl, rfl⟩; rw [HK.out])
        | (go_at_call 212; refine (HCC.out _ (by assumption)).mono ?_; rintro e w4 ⟨rfl, hb4⟩
           have HB4 := bel_stepT (by assumption) hb4
           clear hb4)
        | fail)
      all_goals
        have HBE := Lib.hid (HB2.out.trans (HB4.out.mono HB2.out.size))
        go_wp2
        go_ret
        exact ⟨rfl, HBE.out⟩
    · have HK := Lib.hid kv_1
      have hmeth := km_1
      rw [tf_1] at HCC
      go_region_held3 (fun w' => w'.cell? ⟨w.heap.size, 0, none⟩ = some (.int .i64 1) ∧ w'.cell? ⟨w.heap.size, 1, none⟩ = some (.int .i64 pn) ∧ w'.cell? ⟨w.heap.size, 2, none⟩ = some (.float .f64 pf) ∧ w'.cell? ⟨w.heap.size, 3, none⟩ = some (.string ps) ∧ w'.cell? ⟨w.heap.size, 4, none⟩ = some (.slice pa pl pc)) (exact HKS.out _ (by assumption))
        (first
        | (go_at_call 39; refine (of_any 1 _).mono ?_; rintro e w3 ⟨rfl, rfl⟩; rw [HK.out])
        | (go_at_call 215; refine (HCC.out _ (by assumption)).mono ?_; rintro e w4 ⟨rfl, hb4⟩
           have HB4 := bel_stepT (by assumption) hb4
           clear hb4)
        | fail)
      all_goals
        have HBE := Lib.hid (HB2.out.trans (HB4.out.mono HB2.out.size))
        go_wp2
        go_ret
        exact ⟨rfl, HBE.out⟩
    · have HK := Lib.hid kv_2
      have hmeth := km_2
      rw [tf_2] at HCC
      go_region_held3 (fun w' => w'.cell? ⟨w.heap.size, 0, none⟩ = some (.int .i64 2) ∧ w'.cell? ⟨w.heap.size, 1, none⟩ = some (.int .i64 pn) ∧ w'.cell? ⟨w.heap.size, 2, none⟩ = some (.float .f64 pf) ∧ w'.cell? ⟨w.heap.size, 3, none⟩ = some (.string ps) ∧ w'.cell? ⟨w.heap.size, 4, none⟩ = some (.slice pa pl pc)) (exact HKS.out _ (by assumption))
        (first
        | (go_at_call 39; refine (of_any 2 _).mono ?_; rintro e w3 ⟨rfl, rfl⟩; rw [HK.out])
        | (go_at_call 219; refine (HCC.out _ (by assumption)).mono ?_; rintro e w4 ⟨rfl, hb4⟩
           have HB4 := bel_stepT (by assumption) hb4
           clear hb4)
        | fail)
      all_goals
        have HBE := Lib.hid (HB2.out.trans (HB4.out.mono HB2.out.size))
        go_wp2
        go_ret
        exact ⟨rfl, HBE.out⟩
    · have HK := Lib.hid kv_3
      have hmeth := km_3
      rw [tf_3] at HCC
      go_region_held3 (fun w' => w'.cell? ⟨w.heap.size, 0, none⟩ = some (.int .i64 3) ∧ w'.cell? ⟨w.heap.size, 1, none⟩ = some (.int .i64 pn) ∧ w'.cell? ⟨w.heap.size, 2, none⟩ = some (.float .f64 pf) ∧ w'.cell? ⟨w.heap.size, 3, none⟩ = some (.string ps) ∧ w'.cell? ⟨w.heap.size, 4, none⟩ = some (.slice pa pl pc)) (exact HKS.out _ (by assumption))
        (first
        | (go_at_call 39; refine (of_any 3 _).mono ?_; rintro e w3 ⟨rfl, rfl⟩; rw [HK.out])
        | (go_at_call 222; refine (HCC.out _ (by assumption)).mono ?_; rintro e w4 ⟨rfl, hb4⟩
           have HB4 := bel_stepT (by assumption) hb4
           clear hb4)
        | fail)
      all_goals
        have HBE := Lib.hid (HB2.out.trans (HB4.out.mono HB2.out.size))
        go_wp2
        go_ret
        exact ⟨rfl, HBE.out⟩
    · have HK := Lib.hid kv_4
      have hmeth := km_4
      rw [tf_4] at HCC
      go_region_held3 (fun w' => w'.cell? ⟨w.heap.size, 0, none⟩ = some (.int .i64 4) ∧ w'.cell? ⟨w.heap.size, 1, none⟩ = some (.int .i64 pn) ∧ w'.cell? ⟨w.heap.size, 2, none⟩ = some (.float .f64 pf) ∧ w'.cell? ⟨w.heap.size, 3, none⟩ = some (.string ps) ∧ w'.cell? ⟨w.heap.size, 4, none⟩ = some (.slice pa pl pc)) (exact HKS.out _ (by assumption))
        (first
        | (go_at_call 39; refine (of_any 4 _).mono ?_; rintro e w3 ⟨rfl, rfl⟩; rw [HK.out])
        | (go_at_call 226; refine (HCC.out _ (by assumption)).mono ?_; rintro e w4 ⟨rfl, hb4⟩
           have HB4 := bel_stepT (by assumption) hb4
           clear hb4)
        | fail)
      all_goals
        have HBE := Lib.hid (HB2.out.trans (HB4.out.mono HB2.out.size))
        go_wp2
        go_ret
        exact ⟨rfl, HBE.out⟩
end Go.Proofs.YtpijpeocdlnhiaaGreatDoor
