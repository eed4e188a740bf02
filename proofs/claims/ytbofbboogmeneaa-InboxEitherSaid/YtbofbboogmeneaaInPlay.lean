/- Operations on an inbox and on the reference, walked. -/
import Derived.Test.YtbofbboogmeneaaInPlay0
namespace Go.Proofs.Ytbofbboogmeneaa
set_option linter.unusedVariables false
set_option linter.unusedSimpArgs false
open Go.RowKit

theorem same_calls (t : VT) (v u : VV) (S T : Nat → Prop) (w : World) (hv : TRead w S t v) (hu : TRead w T t u) :
    Calls Try.prog 23 #[v.val, u.val] w fun e w' => e = .returned (.bool true) ∧ Below w.heap.size w w' := by
  have := same_any t t v u S T w hv hu
  rwa [sameT_refl] at this

set_option maxRecDepth 100000 in
set_option maxHeartbeats 4000000 in
theorem play_any (w00 w0 : World) (bx : Nat) (opv : Value) (l : List OpD) (w : World) (V0 : ByteArray → List VV) (W0 : Nat → Option ByteArray) (S0 T0 R0 : Nat → Prop)
    (hops : Ops w00 opv l) (hfew : ∀ o ∈ l, o.name.size ≤ 300 ∧ costT o.t ≤ 900) (hlen : l.length ≤ 100)
    (hinv : Inv w00 w0 w (.pointer (some ⟨bx, 0, none⟩)) (.slice none 0 0) (.slice none 0 0) [] [] V0 W0 S0 T0 R0) :
    Calls Try.prog 26 #[.pointer (some ⟨bx, 0, none⟩), opv] w fun e w' => ∃ lv wv M Ws V W S T R, e = .returned (.tuple #[.agg #[lv, wv], .bool true]) ∧ Inv w00 w0 w' (.pointer (some ⟨bx, 0, none⟩)) lv wv M Ws V W S T R ∧ M.length ≤ 100 ∧ Ws.length ≤ 100 := by
  have HO := Lib.hid hops
  obtain ⟨-, oa, oc, rfl, -, -, -⟩ := hops.reads
  have HFEW := Lib.hid hfew
  have HP0 : Hid (PlayAt w00 w0 ((w.alloc (.cells #[.slice none 0 0, .slice none 0 0] 53)).alloc (.cells #[.slice none 0 0, .slice none 0 0] 53)) (.pointer (some ⟨bx, 0, none⟩)) 0 w.heap.size (w.heap.size + 1) (.slice none 0 0) (.slice none 0 0) [] [] V0 W0 S0 T0 R0) := by
    have hl : ∀ k, w.heap.size ≤ k → w0.heap.size ≤ k ∧ ¬ S0 k ∧ ¬ T0 k ∧ ¬ R0 k := fun k hk =>
      ⟨Nat.le_trans hinv.box.box.bel.size hk, fun e => by have := (hinv.box.box.low k e).2; omega, fun e => by have := (hinv.box.low k e).2; omega, fun e => by have := (hinv.low k e).2; omega⟩
    refine ⟨hinv.later (((Below.refl _ _).alloc (Nat.le_refl _) _).alloc (by simp) _), ⟨Nat.le_refl _, Nat.le_refl _⟩, ?_, (alloc2_low w _ _).trans (heap_alloc_new w _), hl _ (by omega), hl _ (Nat.le_refl _), by omega⟩
    exact alloc2_high w _ _ (heap_alloc_new _ _)
  clear hops hfew hinv
  go_enter Try.func26, Try.ntmps26
  go_wp2_with fail
  generalize (w.alloc (.cells #[.slice none 0 0, .slice none 0 0] 53)).alloc (.cells #[.slice none 0 0, .slice none 0 0] 53) = wd at *
  obtain ⟨B6, hB6⟩ : ∃ B6, w.heap.size + 1 = B6 := ⟨_, rfl⟩
  rw [hB6] at HP0 ⊢
  clear hB6
  generalize w.heap.size = B4 at *
  go_loopw [18] (fun i w' => ∃ (m : Nat) (lv wv : Value) (M : List Let) (Ws : List (ByteArray × Nat)) (V : ByteArray → List VV) (W : Nat → Option ByteArray) (S T R : Nat → Prop), m ≤ l.length ∧ i = .int .i64 m ∧ Hid (PlayAt w00 w0 w' (.pointer (some ⟨bx, 0, none⟩)) m B4 B6 lv wv M Ws V W S T R)) (fun i _ => l.length - (RowKit.intOf i).toNat)
  case atStart => exact ⟨0, _, _, [], [], _, _, _, _, _, by omega, rfl, HP0.out⟩
  case round =>
    clear HP0
    obtain ⟨m, lv, wv, M, Ws, V, W, S, T, R, hm, rfl, HPr⟩ := hrel
    obtain ⟨⟨la, ln, lc, rfl⟩, ⟨wa, wn, wk, rfl⟩⟩ := HPr.out.inv.rows.slices
    by_cases hlt : m < l.length
    · obtain ⟨b, o, c, he, hcap, hb, hcell⟩ := (HO.out.later HPr.out.inv.total).cells (by omega)
      obtain ⟨rfl, rfl⟩ : oa = some ⟨b, o, none⟩ ∧ oc = c := by cases he; exact ⟨rfl, rfl⟩
      obtain ⟨hc0, hc1, hc2, hc3, hc4, hc5, hc6, hc7⟩ := hcell m hlt
      have HV := Lib.hid (HO.out.vals _ (List.getElem_mem hlt)).1
      have HF := Lib.hid (HFEW.out _ (List.getElem_mem hlt))
      generalize l[m].t = t at *
      generalize l[m].v = v at *
      generalize l[m].name = on at *
      generalize l[m].k = ok at *
      generalize l[m].id = oi at *
      clear hcell he
      have HLT : Hid (m < 100 ∧ M.length < 200 ∧ Ws.length < 200) := by have := HPr.out.len; exact ⟨by omega, by omega, by omega⟩
      have hb3 := below3 wr (.cells #[.int .i64 ok, .string on, .int .u64 oi, .int .i64 v.k, .int .i64 v.n, .float .f64 v.f, .string v.s, .slice v.a v.l v.c] 91) (.cells #[.int .i64 0, .int .i64 0, .float .f64 0, .string ⟨#[]⟩, .slice none 0 0] 31) (.cells #[.int .i64 0, .int .i64 0, .float .f64 0, .string ⟨#[]⟩, .slice none 0 0] 31)
      have h3 := heap3 wr (.cells #[.int .i64 ok, .string on, .int .u64 oi, .int .i64 v.k, .int .i64 v.n, .float .f64 v.f, .string v.s, .slice v.a v.l v.c] 91) (.cells #[.int .i64 0, .int .i64 0, .float .f64 0, .string ⟨#[]⟩, .slice none 0 0] 31) (.cells #[.int .i64 0, .int .i64 0, .float .f64 0, .string ⟨#[]⟩, .slice none 0 0] 31)
      have HPx := Lib.hid (HPr.out.later hb3.1)
      have H8x : Hid ((((wr.alloc (.cells #[.int .i64 ok, .string on, .int .u64 oi, .int .i64 v.k, .int .i64 v.n, .float .f64 v.f, .string v.s, .slice v.a v.l v.c] 91)).alloc (.cells #[.int .i64 0, .int .i64 0, .float .f64 0, .string ⟨#[]⟩, .slice none 0 0] 31)).alloc (.cells #[.int .i64 0, .int .i64 0, .float .f64 0, .string ⟨#[]⟩, .slice none 0 0] 31)).heap[wr.heap.size]? = some (.cells #[.int .i64 ok, .string on, .int .u64 oi, .int .i64 v.k, .int .i64 v.n, .float .f64 v.f, .string v.s, .slice v.a v.l v.c] 91 (0, 0))) := h3.1.trans (heap_alloc_new wr _)
      have H11x : Hid ((((wr.alloc (.cells #[.int .i64 ok, .string on, .int .u64 oi, .int .i64 v.k, .int .i64 v.n, .float .f64 v.f, .string v.s, .slice v.a v.l v.c] 91)).alloc (.cells #[.int .i64 0, .int .i64 0, .float .f64 0, .string ⟨#[]⟩, .slice none 0 0] 31)).alloc (.cells #[.int .i64 0, .int .i64 0, .float .f64 0, .string ⟨#[]⟩, .slice none 0 0] 31)).heap[wr.heap.size + 1]? = some (.cells #[.int .i64 0, .int .i64 0, .float .f64 0, .string ⟨#[]⟩, .slice none 0 0] 31 (0, 0))) := h3.2.1.trans (heap_alloc_new _ _)
      have H12x : Hid ((((wr.alloc (.cells #[.int .i64 ok, .string on, .int .u64 oi, .int .i64 v.k, .int .i64 v.n, .float .f64 v.f, .string v.s, .slice v.a v.l v.c] 91)).alloc (.cells #[.int .i64 0, .int .i64 0, .float .f64 0, .string ⟨#[]⟩, .slice none 0 0] 31)).alloc (.cells #[.int .i64 0, .int .i64 0, .float .f64 0, .string ⟨#[]⟩, .slice none 0 0] 31)).heap[wr.heap.size + 1 + 1]? = some (.cells #[.int .i64 0, .int .i64 0, .float .f64 0, .string ⟨#[]⟩, .slice none 0 0] 31 (0, 0))) := h3.2.2.trans (heap_alloc_new _ _)
      have HOUT : Hid (∀ k, wr.heap.size ≤ k → w0.heap.size ≤ k ∧ ¬ S k ∧ ¬ T k ∧ ¬ R k ∧ k ≠ B6 ∧ k ≠ B4) := fun k hk =>
        ⟨Nat.le_trans HPr.out.inv.box.box.bel.size hk, fun e => by have := (HPr.out.inv.box.box.low k e).2; omega, fun e => by have := (HPr.out.inv.box.low k e).2; omega, fun e => by have := (HPr.out.inv.low k e).2; omega, fun e => by have := lt_of_heap HPr.out.b6; omega, fun e => by have := lt_of_heap HPr.out.b4; omega⟩
      have HSX : Hid ((((wr.alloc (.cells #[.int .i64 ok, .string on, .int .u64 oi, .int .i64 v.k, .int .i64 v.n, .float .f64 v.f, .string v.s, .slice v.a v.l v.c] 91)).alloc (.cells #[.int .i64 0, .int .i64 0, .float .f64 0, .string ⟨#[]⟩, .slice none 0 0] 31)).alloc (.cells #[.int .i64 0, .int .i64 0, .float .f64 0, .string ⟨#[]⟩, .slice none 0 0] 31)).heap.size = wr.heap.size + 3) := hb3.2
      have HB6lt : B6 < wr.heap.size := lt_of_heap HPr.out.b6
      clear hb3 h3
      by_cases hk0 : ok = 0
      · subst hk0
        go_wp2_with fail
        generalize (((wr.alloc (.cells #[.int .i64 0, .string on, .int .u64 oi, .int .i64 v.k, .int .i64 v.n, .float .f64 v.f, .string v.s, .slice v.a v.l v.c] 91)).alloc (.cells #[.int .i64 0, .int .i64 0, .float .f64 0, .string ⟨#[]⟩, .slice none 0 0] 31)).alloc (.cells #[.int .i64 0, .int .i64 0, .float .f64 0, .string ⟨#[]⟩, .slice none 0 0] 31)) = wx at *
        have HBG := Lib.hid (Nat.le_of_lt HB6lt)
        generalize hB8 : wr.heap.size = B8 at *
        clear hB8
        refine (put_step HPx.out.inv on t v HV.out HF.out.2 HF.out.1 HLT.out.2.1 HLT.out.2.2).mono ?_
        rintro e w1 ⟨a, p, M2, Ws2, V2, W2, S2, T2, rfl, hch, hS, hT, hM, hW, href⟩
        have HREF := Lib.hid (href w1 (Below.refl _ _))
        simp only [VV.val] at HREF
        clear href
        have H8_1 := Lib.hid (hch.heap H8x.out (HOUT.out _ (by omega)).2.1)
        have H11_1 := Lib.hid (hch.heap H11x.out (HOUT.out _ (by omega)).2.1)
        have H12_1 := Lib.hid (hch.heap H12x.out (HOUT.out _ (by omega)).2.1)
        have H6_1 := Lib.hid (hch.heap HPx.out.b6 HPx.out.o6.2.1)
        obtain ⟨hy60, hy61⟩ := cells2 H6_1.out
        have hy81 := cellAt H8_1.out 1 (v := .string on) rfl
        have hy82 := cellAt H8_1.out 2 (v := .int .u64 oi) rfl
        have hy83 := cellAt H8_1.out 3 (v := .int .i64 v.k) rfl
        have hy84 := cellAt H8_1.out 4 (v := .int .i64 v.n) rfl
        have hy85 := cellAt H8_1.out 5 (v := .float .f64 v.f) rfl
        have hy86 := cellAt H8_1.out 6 (v := .string v.s) rfl
        have hy87 := cellAt H8_1.out 7 (v := .slice v.a v.l v.c) rfl
        go_wp2_with fail
        refine HREF.out.mono ?_
        rintro e w3 ⟨lv2, wv2, rfl, hd⟩
        obtain ⟨R', hb13, hinv3, hR3⟩ := id hd
        obtain ⟨⟨la2, ln2, lc2, rfl⟩, ⟨wa2, wn2, wk2, rfl⟩⟩ := hinv3.rows.slices
        clear hinv3 hR3 R' hb13
        obtain ⟨R2, hp, hb13, -⟩ := HPx.out.step hch hS hT (by have := HPx.out.len; omega) (by have := HPx.out.len; omega) (Chg.refl (fun _ => False) _) (fun h => h) (fun h => h) hd
        have H8_3 := Lib.hid ((hb13.block _ (lt_of_heap H8_1.out)).trans H8_1.out)
        have H11_3 := Lib.hid ((hb13.block _ (lt_of_heap H11_1.out)).trans H11_1.out)
        have H12_3 := Lib.hid ((hb13.block _ (lt_of_heap H12_1.out)).trans H12_1.out)
        have H6_3 := Lib.hid ((hb13.block _ (lt_of_heap H6_1.out)).trans H6_1.out)
        have HP := Lib.hid hp
        obtain ⟨hz60, hz61⟩ := cells2 H6_3.out
        have hf60 := freeAt H6_3.out 0
        have hf61 := freeAt H6_3.out 1
        clear hy60 hy61 hy81 hy82 hy83 hy84 hy85 hy86 hy87 hp hb13 hd hch hS hT
        go_wp2_with fail
        have H8 : Hid (((w3.setCell ⟨B6, 0, none⟩ (.slice la2 ln2 lc2)).setCell ⟨B6, 1, none⟩ (.slice wa2 wn2 wk2)).heap[B8]? = _) := (Below.heap_setCell _ _ _ _ (by show B8 ≠ B6; omega)).trans ((Below.heap_setCell _ _ _ _ (by show B8 ≠ B6; omega)).trans H8_3.out)
        have H11 : Hid (((w3.setCell ⟨B6, 0, none⟩ (.slice la2 ln2 lc2)).setCell ⟨B6, 1, none⟩ (.slice wa2 wn2 wk2)).heap[B8 + 1]? = _) := (Below.heap_setCell _ _ _ _ (by show B8 + 1 ≠ B6; omega)).trans ((Below.heap_setCell _ _ _ _ (by show B8 + 1 ≠ B6; omega)).trans H11_3.out)
        have H12 : Hid (((w3.setCell ⟨B6, 0, none⟩ (.slice la2 ln2 lc2)).setCell ⟨B6, 1, none⟩ (.slice wa2 wn2 wk2)).heap[B8 + 1 + 1]? = _) := (Below.heap_setCell _ _ _ _ (by show B8 + 1 + 1 ≠ B6; omega)).trans ((Below.heap_setCell _ _ _ _ (by show B8 + 1 + 1 ≠ B6; omega)).trans H12_3.out)
        clear hz60 hz61 hf60 hf61
        generalize ((w3.setCell ⟨B6, 0, none⟩ (.slice la2 ln2 lc2)).setCell ⟨B6, 1, none⟩ (.slice wa2 wn2 wk2)) = wy at *
        obtain ⟨tt, htt⟩ : ∃ tt : VT, tt = .node 0 0 0 ⟨#[]⟩ [] := ⟨_, rfl⟩
        have HTG : Hid (TRead wy (fun _ => True) tt ⟨0, 0, 0, ⟨#[]⟩, none, 0, 0⟩) := by rw [htt]; exact zero_read _ _
        have HTW := HTG
        have HKS : Hid (∀ w', Hid (Below wy.heap.size wy w') → (w'.cell? ⟨B6, 0, none⟩ = some (.slice la2 ln2 lc2) ∧ w'.cell? ⟨B6, 1, none⟩ = some (.slice wa2 wn2 wk2) ∧ w'.cell? ⟨B8, 1, none⟩ = some (.string on) ∧ w'.cell? ⟨B8 + 1, 0, none⟩ = some (.int .i64 0) ∧ w'.cell? ⟨B8 + 1, 1, none⟩ = some (.int .i64 0) ∧ w'.cell? ⟨B8 + 1, 2, none⟩ = some (.float .f64 0) ∧ w'.cell? ⟨B8 + 1, 3, none⟩ = some (.string ⟨#[]⟩) ∧ w'.cell? ⟨B8 + 1, 4, none⟩ = some (.slice none 0 0) ∧ w'.cell? ⟨B8 + 1 + 1, 0, none⟩ = some (.int .i64 0) ∧ w'.cell? ⟨B8 + 1 + 1, 1, none⟩ = some (.int .i64 0) ∧ w'.cell? ⟨B8 + 1 + 1, 2, none⟩ = some (.float .f64 0) ∧ w'.cell? ⟨B8 + 1 + 1, 3, none⟩ = some (.string ⟨#[]⟩) ∧ w'.cell? ⟨B8 + 1 + 1, 4, none⟩ = some (.slice none 0 0))) := fun w' hb => by
          have k6 := cells2 ((hb.out.block _ (lt_of_heap HP.out.b6)).trans HP.out.b6)
          have k8 := cellAt ((hb.out.block _ (lt_of_heap H8.out)).trans H8.out) 1 (v := .string on) rfl
          have k11 := cells5 ((hb.out.block _ (lt_of_heap H11.out)).trans H11.out)
          have k12 := cells5 ((hb.out.block _ (lt_of_heap H12.out)).trans H12.out)
          exact ⟨k6.1, k6.2, k8, k11.1, k11.2.1, k11.2.2.1, k11.2.2.2.1, k11.2.2.2.2, k12⟩
        have HB0 : Hid (Below wy.heap.size wy wy.drew) := (Below.refl _ _).drew
        have HLM : Hid (M2.length ≤ 200 ∧ Ws2.length ≤ 200) := by have := HP.out.len; exact ⟨by omega, by omega⟩
        have HNL : Hid ((namesOf (M2.map ltr) Ws2).length ≤ 1000) := by have := HP.out.inv.namesLen; have := HLM.out; show _ ≤ _; omega
        have HIL : Hid ((idsOf Ws2 on).length ≤ 1000) := by have := idsOf_len Ws2 on; have := HLM.out; show _ ≤ _; omega
        go_region_held3 (fun w' => w'.cell? ⟨B6, 0, none⟩ = some (.slice la2 ln2 lc2) ∧ w'.cell? ⟨B6, 1, none⟩ = some (.slice wa2 wn2 wk2) ∧ w'.cell? ⟨B8, 1, none⟩ = some (.string on) ∧ w'.cell? ⟨B8 + 1, 0, none⟩ = some (.int .i64 0) ∧ w'.cell? ⟨B8 + 1, 1, none⟩ = some (.int .i64 0) ∧ w'.cell? ⟨B8 + 1, 2, none⟩ = some (.float .f64 0) ∧ w'.cell? ⟨B8 + 1, 3, none⟩ = some (.string ⟨#[]⟩) ∧ w'.cell? ⟨B8 + 1, 4, none⟩ = some (.slice none 0 0) ∧ w'.cell? ⟨B8 + 1 + 1, 0, none⟩ = some (.int .i64 0) ∧ w'.cell? ⟨B8 + 1 + 1, 1, none⟩ = some (.int .i64 0) ∧ w'.cell? ⟨B8 + 1 + 1, 2, none⟩ = some (.float .f64 0) ∧ w'.cell? ⟨B8 + 1 + 1, 3, none⟩ = some (.string ⟨#[]⟩) ∧ w'.cell? ⟨B8 + 1 + 1, 4, none⟩ = some (.slice none 0 0)) (exact HKS.out _ (by assumption))
          (first
          | (go_at_call 23; refine (same_calls tt ⟨0, 0, 0, ⟨#[]⟩, none, 0, 0⟩ ⟨0, 0, 0, ⟨#[]⟩, none, 0, 0⟩ _ _ _ (HTG.out.later (Hid.out (by assumption : Hid (Below wy.heap.size wy _)))) (HTW.out.later (Hid.out (by assumption : Hid (Below wy.heap.size wy _))))).mono ?_; rintro e w2 ⟨rfl, hb2⟩
             have HB1 := bel_step (by assumption) hb2
             clear hb2)
          | (go_at_call 17; refine ((HP.out.inv.later (Hid.out (by assumption : Hid (Below wy.heap.size wy _)))).counts on).mono ?_; rintro e w2 ⟨rfl, rfl⟩)
          | (go_at_call 50; refine ((HP.out.inv.later (Hid.out (by assumption : Hid (Below wy.heap.size wy _)))).rcounts HLM.out.1 on).mono ?_; rintro e w2 ⟨rfl, hb2⟩
             have HB1 := bel_step (by assumption) hb2
             clear hb2)
          | (go_at_call 14; refine ((HP.out.inv.later (Hid.out (by assumption : Hid (Below wy.heap.size wy _)))).waiting on).mono ?_; rintro e w2 ⟨v1, rfl, hr1, hb2⟩
             have HB1 := bel_step (by assumption) hb2
             have HR1 := Lib.hid hr1
             clear hb2 hr1)
          | (go_at_call 51; refine ((HP.out.inv.later (Hid.out (by assumption : Hid (Below wy.heap.size wy _)))).rwaiting HLM.out.2 on).mono ?_; rintro e w3 ⟨v2, rfl, hr2, hb2⟩
             have HB2 := bel_step (by assumption) hb2
             have HR1b := Lib.hid (HR1.out.later hb2)
             have HR2 := Lib.hid hr2
             clear hb2 hr2)
          | (go_at_call 13; refine (sequal_same _ _ (idsOf Ws2 on) _ HR1b.out HR2.out HIL.out).mono ?_; rintro e w4 ⟨rfl, n4, rfl⟩
             have HB4 := bel_step (b := w3.drewN n4) HB2 ⟨rfl, rfl, rfl, Nat.le_refl _, fun _ _ => rfl⟩)
          | (go_at_call 24; refine ((HP.out.inv.later (Hid.out (by assumption : Hid (Below wy.heap.size wy _)))).names HLM.out.1 HLM.out.2).mono ?_; rintro e w5 ⟨v5, rfl, hr5, hb5⟩
             have HB5 := bel_step (by assumption) hb5
             have HR5 := Lib.hid hr5
             clear hb5 hr5)
          | (go_at_call 27; refine ((HP.out.inv.later (Hid.out (by assumption : Hid (Below wy.heap.size wy _)))).rnames HLM.out.1 HLM.out.2).mono ?_; rintro e w6 ⟨v6, rfl, hr6, hb6⟩
             have HB6 := bel_step (by assumption) hb6
             have HR5b := Lib.hid (HR5.out.later hb6)
             have HR6 := Lib.hid hr6
             clear hb6 hr6)
          | (go_at_call 52; refine (sequalS_same _ _ (namesOf (M2.map ltr) Ws2) _ HR5b.out HR6.out HNL.out).mono ?_; rintro e w7 ⟨rfl, n7, rfl⟩
             have HB7 := bel_step (b := w6.drewN n7) HB6 ⟨rfl, rfl, rfl, Nat.le_refl _, fun _ _ => rfl⟩))
        all_goals
          go_wp2
          go_roundw
          case rel => exact ⟨m + 1, .slice la2 ln2 lc2, .slice wa2 wn2 wk2, M2, Ws2, V2, W2, S2, T2, R2, by omega, by go_num, HP.out.later HB7.out⟩
          case measure => simp [RowKit.intOf]; omega
      · by_cases hk1 : ok = 1
        · subst hk1
          go_wp2_with fail
          generalize (((wr.alloc (.cells #[.int .i64 1, .string on, .int .u64 oi, .int .i64 v.k, .int .i64 v.n, .float .f64 v.f, .string v.s, .slice v.a v.l v.c] 91)).alloc (.cells #[.int .i64 0, .int .i64 0, .float .f64 0, .string ⟨#[]⟩, .slice none 0 0] 31)).alloc (.cells #[.int .i64 0, .int .i64 0, .float .f64 0, .string ⟨#[]⟩, .slice none 0 0] 31)) = wx at *
          have HBG := Lib.hid (Nat.le_of_lt HB6lt)
          generalize hB8 : wr.heap.size = B8 at *
          clear hB8
          refine (take_step HPx.out.inv on oi HF.out.1 HLT.out.2.1 HLT.out.2.2).mono ?_
          rintro e w1 ⟨p, ⟨gk, gn, gf, gs, ga, gl, gc⟩, tt, M2, Ws2, V2, W2, S2, T2, rfl, htg, hch, hS, hT, hM, hW, href⟩
          simp only [VV.val]
          have hoS : ∀ k, B8 ≤ k → k < B8 + 3 → w0.heap.size ≤ k ∧ ¬ S2 k ∧ ¬ T2 k ∧ ¬ R k := fun k h1 h2 => by
            have ho := HOUT.out k h1
            have hs := HSX.out
            refine ⟨ho.1, fun e => ?_, fun e => ?_, ho.2.2.2.1⟩
            · rcases hS k e with h3 | h3; exact ho.2.1 h3; omega
            · rcases hT k e with h3 | h3; exact ho.2.2.1 h3; omega
          have HOS := Lib.hid hoS
          have H8_1 := Lib.hid (hch.heap H8x.out (HOUT.out _ (by omega)).2.1)
          have H11_1 := Lib.hid (hch.heap H11x.out (HOUT.out _ (by omega)).2.1)
          have H12_1 := Lib.hid (hch.heap H12x.out (HOUT.out _ (by omega)).2.1)
          have H6_1 := Lib.hid (hch.heap HPx.out.b6 HPx.out.o6.2.1)
          obtain ⟨hy60, hy61⟩ := cells2 H6_1.out
          have hy81 := cellAt H8_1.out 1 (v := .string on) rfl
          have hy82 := cellAt H8_1.out 2 (v := .int .u64 oi) rfl
          have hy83 := cellAt H8_1.out 3 (v := .int .i64 v.k) rfl
          have hy84 := cellAt H8_1.out 4 (v := .int .i64 v.n) rfl
          have hy85 := cellAt H8_1.out 5 (v := .float .f64 v.f) rfl
          have hy86 := cellAt H8_1.out 6 (v := .string v.s) rfl
          have hy87 := cellAt H8_1.out 7 (v := .slice v.a v.l v.c) rfl
          obtain ⟨hq0, hq1, hq2, hq3, hq4⟩ := cells5 H11_1.out
          obtain ⟨hg0, hg1, hg2, hg3, hg4⟩ := free5 H11_1.out
          obtain ⟨hch5, hst5⟩ := store5 H11_1.out (.int .i64 gk) (.int .i64 gn) (.float .f64 gf) (.string gs) (.slice ga gl gc)
          have HREF := Lib.hid (href (((((w1.setCell ⟨B8 + 1, 0, none⟩ (.int .i64 gk)).setCell ⟨B8 + 1, 1, none⟩ (.int .i64 gn)).setCell ⟨B8 + 1, 2, none⟩ (.float .f64 gf)).setCell ⟨B8 + 1, 3, none⟩ (.string gs)).setCell ⟨B8 + 1, 4, none⟩ (.slice ga gl gc)) (fun k => k = B8 + 1) hch5 (fun k hk => by subst hk; exact hoS _ (by omega) (by omega)))
          have HTG1 : Hid (TRead (((((w1.setCell ⟨B8 + 1, 0, none⟩ (.int .i64 gk)).setCell ⟨B8 + 1, 1, none⟩ (.int .i64 gn)).setCell ⟨B8 + 1, 2, none⟩ (.float .f64 gf)).setCell ⟨B8 + 1, 3, none⟩ (.string gs)).setCell ⟨B8 + 1, 4, none⟩ (.slice ga gl gc)) T2 tt ⟨gk, gn, gf, gs, ga, gl, gc⟩) := htg.frame (fun k hk hl => hch5.block k hl (fun e => by have e2 : k = B8 + 1 := e; subst e2; exact (hoS _ (by omega) (by omega)).2.2.1 hk))
          have HCH5 := Lib.hid hch5
          have HST5 := Lib.hid hst5
          have hne1 : ¬ B6 = B8 + 1 := by omega
          clear href hch5 hst5 htg hoS
          go_wp2_with fail
          clear hq0 hq1 hq2 hq3 hq4 hg0 hg1 hg2 hg3 hg4 hne1
          refine HREF.out.mono ?_
          rintro e w3 ⟨lv2, wv2, ⟨qk, qn, qf, qs, qa, ql, qc⟩, rfl, hvw, hd⟩
          simp only [VV.val]
          have HVW := Lib.hid hvw
          generalize (((((w1.setCell ⟨B8 + 1, 0, none⟩ (.int .i64 gk)).setCell ⟨B8 + 1, 1, none⟩ (.int .i64 gn)).setCell ⟨B8 + 1, 2, none⟩ (.float .f64 gf)).setCell ⟨B8 + 1, 3, none⟩ (.string gs)).setCell ⟨B8 + 1, 4, none⟩ (.slice ga gl gc)) = w1s at *
          obtain ⟨R', hb13, hinv3, hR3⟩ := id hd
          obtain ⟨⟨la2, ln2, lc2, rfl⟩, ⟨wa2, wn2, wk2, rfl⟩⟩ := hinv3.rows.slices
          clear hinv3
          obtain ⟨R2, hp, -, hR2⟩ := HPx.out.step hch hS hT (by have := HPx.out.len; omega) (by have := HPx.out.len; omega) HCH5.out (fun e => by have e2 : B6 = B8 + 1 := e; omega) (fun e => by have e2 : B4 = B8 + 1 := e; exact (HOUT.out (B8 + 1) (by omega)).2.2.2.2.2 e2.symm) hd
          have H8_3 := Lib.hid ((hb13.block _ (lt_of_heap (HCH5.out.heap H8_1.out (fun e => by have e2 : B8 = B8 + 1 := e; omega)))).trans (HCH5.out.heap H8_1.out (fun e => by have e2 : B8 = B8 + 1 := e; omega)))
          have H11_3 := Lib.hid ((hb13.block _ (lt_of_heap HST5.out)).trans HST5.out)
          have H12_2 := HCH5.out.heap H12_1.out (fun e => by have e2 : B8 + 1 + 1 = B8 + 1 := e; omega)
          have H12_3 := Lib.hid ((hb13.block _ (lt_of_heap H12_2)).trans H12_2)
          have H6_2 := HCH5.out.heap H6_1.out (fun e => by have e2 : B6 = B8 + 1 := e; omega)
          have H6_3 := Lib.hid ((hb13.block _ (lt_of_heap H6_2)).trans H6_2)
          have HTG3 := Lib.hid (HTG1.out.later hb13)
          have HP6 := Lib.hid hp
          have HOR : Hid (¬ R2 (B8 + 1 + 1)) := fun e => by
            rcases hR2 _ e with h1 | h1
            · exact (HOS.out (B8 + 1 + 1) (by omega) (by omega)).2.2.2 h1
            · have := lt_of_heap H12_2; omega
          obtain ⟨hz60, hz61⟩ := cells2 H6_3.out
          have hf60 := freeAt H6_3.out 0
          have hf61 := freeAt H6_3.out 1
          obtain ⟨hq0, hq1, hq2, hq3, hq4⟩ := cells5 H12_3.out
          obtain ⟨hg0, hg1, hg2, hg3, hg4⟩ := free5 H12_3.out
          clear hy60 hy61 hy81 hy82 hy83 hy84 hy85 hy86 hy87 hp hb13 hd hch hS hT H12_2 H6_2 hvw hR2
          have hne2 : ¬ B6 = B8 + 1 + 1 := by omega
          go_wp2_with fail
          have hch6 : Chg (fun k => k = B6) w3 ((w3.setCell ⟨B6, 0, none⟩ (.slice la2 ln2 lc2)).setCell ⟨B6, 1, none⟩ (.slice wa2 wn2 wk2)) := ((Chg.refl (fun k => k = B6) w3).setCell (p := ⟨B6, 0, none⟩) (.inl rfl) _).setCell (p := ⟨B6, 1, none⟩) (.inl rfl) _
          have H8z := Lib.hid (hch6.heap H8_3.out (fun e => by have e2 : B8 = B6 := e; omega))
          have H11z := Lib.hid (hch6.heap H11_3.out (fun e => by have e2 : B8 + 1 = B6 := e; omega))
          have H12z := Lib.hid (hch6.heap H12_3.out (fun e => by have e2 : B8 + 1 + 1 = B6 := e; omega))
          have HTGz := Lib.hid (HTG3.out.frame (w' := ((w3.setCell ⟨B6, 0, none⟩ (.slice la2 ln2 lc2)).setCell ⟨B6, 1, none⟩ (.slice wa2 wn2 wk2))) (fun k hk hl => hch6.block k hl (fun e => by have e2 : k = B6 := e; subst e2; exact HP6.out.o6.2.2.1 hk)))
          clear hch6 hz60 hz61 hf60 hf61 hq0 hq1 hq2 hq3 hq4 hg0 hg1 hg2 hg3 hg4 hne2
          generalize ((w3.setCell ⟨B6, 0, none⟩ (.slice la2 ln2 lc2)).setCell ⟨B6, 1, none⟩ (.slice wa2 wn2 wk2)) = wz at *
          obtain ⟨hch12, hst12⟩ := store5 H12z.out (.int .i64 qk) (.int .i64 qn) (.float .f64 qf) (.string qs) (.slice qa ql qc)
          have ho12 := HOS.out (B8 + 1 + 1) (by omega) (by omega)
          have hB4 := (HOUT.out (B8 + 1 + 1) (by omega)).2.2.2.2
          have HP := Lib.hid (HP6.out.beside hch12 (fun k hk => by subst hk; exact ⟨ho12.1, ho12.2.1, ho12.2.2.1, HOR.out, hB4.1, hB4.2⟩))
          have H8 := Lib.hid (hch12.heap H8z.out (fun e => by have e2 : B8 = B8 + 1 + 1 := e; omega))
          have H11 := Lib.hid (hch12.heap H11z.out (fun e => by have e2 : B8 + 1 = B8 + 1 + 1 := e; omega))
          have H12 := Lib.hid hst12
          have HTG := Lib.hid (HTGz.out.frame (w' := (((((wz.setCell ⟨B8 + 1 + 1, 0, none⟩ (.int .i64 qk)).setCell ⟨B8 + 1 + 1, 1, none⟩ (.int .i64 qn)).setCell ⟨B8 + 1 + 1, 2, none⟩ (.float .f64 qf)).setCell ⟨B8 + 1 + 1, 3, none⟩ (.string qs)).setCell ⟨B8 + 1 + 1, 4, none⟩ (.slice qa ql qc))) (fun k hk hl => hch12.block k hl (fun e => by have e2 : k = B8 + 1 + 1 := e; subst e2; exact ho12.2.2.1 hk)))
          have HTW := Lib.hid (HVW.out.later HP.out.inv.total)
          clear hch12 hst12 ho12 hB4
          generalize (((((wz.setCell ⟨B8 + 1 + 1, 0, none⟩ (.int .i64 qk)).setCell ⟨B8 + 1 + 1, 1, none⟩ (.int .i64 qn)).setCell ⟨B8 + 1 + 1, 2, none⟩ (.float .f64 qf)).setCell ⟨B8 + 1 + 1, 3, none⟩ (.string qs)).setCell ⟨B8 + 1 + 1, 4, none⟩ (.slice qa ql qc)) = wy at *
          have HKS : Hid (∀ w', Hid (Below wy.heap.size wy w') → (w'.cell? ⟨B6, 0, none⟩ = some (.slice la2 ln2 lc2) ∧ w'.cell? ⟨B6, 1, none⟩ = some (.slice wa2 wn2 wk2) ∧ w'.cell? ⟨B8, 1, none⟩ = some (.string on) ∧ w'.cell? ⟨B8 + 1, 0, none⟩ = some (.int .i64 gk) ∧ w'.cell? ⟨B8 + 1, 1, none⟩ = some (.int .i64 gn) ∧ w'.cell? ⟨B8 + 1, 2, none⟩ = some (.float .f64 gf) ∧ w'.cell? ⟨B8 + 1, 3, none⟩ = some (.string gs) ∧ w'.cell? ⟨B8 + 1, 4, none⟩ = some (.slice ga gl gc) ∧ w'.cell? ⟨B8 + 1 + 1, 0, none⟩ = some (.int .i64 qk) ∧ w'.cell? ⟨B8 + 1 + 1, 1, none⟩ = some (.int .i64 qn) ∧ w'.cell? ⟨B8 + 1 + 1, 2, none⟩ = some (.float .f64 qf) ∧ w'.cell? ⟨B8 + 1 + 1, 3, none⟩ = some (.string qs) ∧ w'.cell? ⟨B8 + 1 + 1, 4, none⟩ = some (.slice qa ql qc))) := fun w' hb => by
            have k6 := cells2 ((hb.out.block _ (lt_of_heap HP.out.b6)).trans HP.out.b6)
            have k8 := cellAt ((hb.out.block _ (lt_of_heap H8.out)).trans H8.out) 1 (v := .string on) rfl
            have k11 := cells5 ((hb.out.block _ (lt_of_heap H11.out)).trans H11.out)
            have k12 := cells5 ((hb.out.block _ (lt_of_heap H12.out)).trans H12.out)
            exact ⟨k6.1, k6.2, k8, k11.1, k11.2.1, k11.2.2.1, k11.2.2.2.1, k11.2.2.2.2, k12⟩
          have HB0 : Hid (Below wy.heap.size wy wy.drew) := (Below.refl _ _).drew
          have HLM : Hid (M2.length ≤ 200 ∧ Ws2.length ≤ 200) := by have := HP.out.len; exact ⟨by omega, by omega⟩
          have HNL : Hid ((namesOf (M2.map ltr) Ws2).length ≤ 1000) := by have := HP.out.inv.namesLen; have := HLM.out; show _ ≤ _; omega
          have HIL : Hid ((idsOf Ws2 on).length ≤ 1000) := by have := idsOf_len Ws2 on; have := HLM.out; show _ ≤ _; omega
          go_region_held3 (fun w' => w'.cell? ⟨B6, 0, none⟩ = some (.slice la2 ln2 lc2) ∧ w'.cell? ⟨B6, 1, none⟩ = some (.slice wa2 wn2 wk2) ∧ w'.cell? ⟨B8, 1, none⟩ = some (.string on) ∧ w'.cell? ⟨B8 + 1, 0, none⟩ = some (.int .i64 gk) ∧ w'.cell? ⟨B8 + 1, 1, none⟩ = some (.int .i64 gn) ∧ w'.cell? ⟨B8 + 1, 2, none⟩ = some (.float .f64 gf) ∧ w'.cell? ⟨B8 + 1, 3, none⟩ = some (.string gs) ∧ w'.cell? ⟨B8 + 1, 4, none⟩ = some (.slice ga gl gc) ∧ w'.cell? ⟨B8 + 1 + 1, 0, none⟩ = some (.int .i64 qk) ∧ w'.cell? ⟨B8 + 1 + 1, 1, none⟩ = some (.int .i64 qn) ∧ w'.cell? ⟨B8 + 1 + 1, 2, none⟩ = some (.float .f64 qf) ∧ w'.cell? ⟨B8 + 1 + 1, 3, none⟩ = some (.string qs) ∧ w'.cell? ⟨B8 + 1 + 1, 4, none⟩ = some (.slice qa ql qc)) (exact HKS.out _ (by assumption))
            (first
            | (go_at_call 23; refine (same_calls tt ⟨gk, gn, gf, gs, ga, gl, gc⟩ ⟨qk, qn, qf, qs, qa, ql, qc⟩ _ _ _ (HTG.out.later (Hid.out (by assumption : Hid (Below wy.heap.size wy _)))) (HTW.out.later (Hid.out (by assumption : Hid (Below wy.heap.size wy _))))).mono ?_; rintro e w2 ⟨rfl, hb2⟩
               have HB1 := bel_step (by assumption) hb2
               clear hb2)
            | (go_at_call 17; refine ((HP.out.inv.later (Hid.out (by assumption : Hid (Below wy.heap.size wy _)))).counts on).mono ?_; rintro e w2 ⟨rfl, rfl⟩)
            | (go_at_call 50; refine ((HP.out.inv.later (Hid.out (by assumption : Hid (Below wy.heap.size wy _)))).rcounts HLM.out.1 on).mono ?_; rintro e w2 ⟨rfl, hb2⟩
               have HB1 := bel_step (by assumption) hb2
               clear hb2)
            | (go_at_call 14; refine ((HP.out.inv.later (Hid.out (by assumption : Hid (Below wy.heap.size wy _)))).waiting on).mono ?_; rintro e w2 ⟨v1, rfl, hr1, hb2⟩
               have HB1 := bel_step (by assumption) hb2
               have HR1 := Lib.hid hr1
               clear hb2 hr1)
            | (go_at_call 51; refine ((HP.out.inv.later (Hid.out (by assumption : Hid (Below wy.heap.size wy _)))).rwaiting HLM.out.2 on).mono ?_; rintro e w3 ⟨v2, rfl, hr2, hb2⟩
               have HB2 := bel_step (by assumption) hb2
               have HR1b := Lib.hid (HR1.out.later hb2)
               have HR2 := Lib.hid hr2
               clear hb2 hr2)
            | (go_at_call 13; refine (sequal_same _ _ (idsOf Ws2 on) _ HR1b.out HR2.out HIL.out).mono ?_; rintro e w4 ⟨rfl, n4, rfl⟩
               have HB4 := bel_step (b := w3.drewN n4) HB2 ⟨rfl, rfl, rfl, Nat.le_refl _, fun _ _ => rfl⟩)
            | (go_at_call 24; refine ((HP.out.inv.later (Hid.out (by assumption : Hid (Below wy.heap.size wy _)))).names HLM.out.1 HLM.out.2).mono ?_; rintro e w5 ⟨v5, rfl, hr5, hb5⟩
               have HB5 := bel_step (by assumption) hb5
               have HR5 := Lib.hid hr5
               clear hb5 hr5)
            | (go_at_call 27; refine ((HP.out.inv.later (Hid.out (by assumption : Hid (Below wy.heap.size wy _)))).rnames HLM.out.1 HLM.out.2).mono ?_; rintro e w6 ⟨v6, rfl, hr6, hb6⟩
               have HB6 := bel_step (by assumption) hb6
               have HR5b := Lib.hid (HR5.out.later hb6)
               have HR6 := Lib.hid hr6
               clear hb6 hr6)
            | (go_at_call 52; refine (sequalS_same _ _ (namesOf (M2.map ltr) Ws2) _ HR5b.out HR6.out HNL.out).mono ?_; rintro e w7 ⟨rfl, n7, rfl⟩
               have HB7 := bel_step (b := w6.drewN n7) HB6 ⟨rfl, rfl, rfl, Nat.le_refl _, fun _ _ => rfl⟩))
          all_goals
            go_wp2
            go_roundw
            case rel => exact ⟨m + 1, .slice la2 ln2 lc2, .slice wa2 wn2 wk2, M2, Ws2, V2, W2, S2, T2, R2, by omega, by go_num, HP.out.later HB7.out⟩
            case measure => simp [RowKit.intOf]; omega
        · skip
          have hkb0 : (ok == 0) = false := by simpa using hk0
          have hkb1 : (ok == 1) = false := by simpa using hk1
          go_wp2_with fail
          generalize (((wr.alloc (.cells #[.int .i64 ok, .string on, .int .u64 oi, .int .i64 v.k, .int .i64 v.n, .float .f64 v.f, .string v.s, .slice v.a v.l v.c] 91)).alloc (.cells #[.int .i64 0, .int .i64 0, .float .f64 0, .string ⟨#[]⟩, .slice none 0 0] 31)).alloc (.cells #[.int .i64 0, .int .i64 0, .float .f64 0, .string ⟨#[]⟩, .slice none 0 0] 31)) = wx at *
          have HBG := Lib.hid (Nat.le_of_lt HB6lt)
          generalize hB8 : wr.heap.size = B8 at *
          clear hB8
          refine (forget_step HPx.out.inv oi HLT.out.2.2).mono ?_
          rintro e w1 ⟨p, Ws2, W2, S2, T2, rfl, hch, hS, hT, hW, href⟩
          have HREF := Lib.hid (href w1 (Below.refl _ _))
          clear href
          have H8_1 := Lib.hid (hch.heap H8x.out (HOUT.out _ (by omega)).2.1)
          have H11_1 := Lib.hid (hch.heap H11x.out (HOUT.out _ (by omega)).2.1)
          have H12_1 := Lib.hid (hch.heap H12x.out (HOUT.out _ (by omega)).2.1)
          have H6_1 := Lib.hid (hch.heap HPx.out.b6 HPx.out.o6.2.1)
          obtain ⟨hy60, hy61⟩ := cells2 H6_1.out
          have hy81 := cellAt H8_1.out 1 (v := .string on) rfl
          have hy82 := cellAt H8_1.out 2 (v := .int .u64 oi) rfl
          have hy83 := cellAt H8_1.out 3 (v := .int .i64 v.k) rfl
          have hy84 := cellAt H8_1.out 4 (v := .int .i64 v.n) rfl
          have hy85 := cellAt H8_1.out 5 (v := .float .f64 v.f) rfl
          have hy86 := cellAt H8_1.out 6 (v := .string v.s) rfl
          have hy87 := cellAt H8_1.out 7 (v := .slice v.a v.l v.c) rfl
          go_wp2_with fail
          refine HREF.out.mono ?_
          rintro e w3 ⟨wv2, rfl, hd⟩
          obtain ⟨R', hb13, hinv3, hR3⟩ := id hd
          obtain ⟨-, ⟨wa2, wn2, wk2, rfl⟩⟩ := hinv3.rows.slices
          clear hinv3 hR3 R' hb13
          obtain ⟨R2, hp, hb13, -⟩ := HPx.out.step hch hS hT (by have := HPx.out.len; omega) (by have := HPx.out.len; omega) (Chg.refl (fun _ => False) _) (fun h => h) (fun h => h) hd
          have H8_3 := Lib.hid ((hb13.block _ (lt_of_heap H8_1.out)).trans H8_1.out)
          have H11_3 := Lib.hid ((hb13.block _ (lt_of_heap H11_1.out)).trans H11_1.out)
          have H12_3 := Lib.hid ((hb13.block _ (lt_of_heap H12_1.out)).trans H12_1.out)
          have H6_3 := Lib.hid ((hb13.block _ (lt_of_heap H6_1.out)).trans H6_1.out)
          have HP := Lib.hid hp
          obtain ⟨hz60, hz61⟩ := cells2 H6_3.out
          have hf60 := freeAt H6_3.out 0
          have hf61 := freeAt H6_3.out 1
          clear hy60 hy61 hy81 hy82 hy83 hy84 hy85 hy86 hy87 hp hb13 hd hch hS hT
          go_wp2_with fail
          have H8 : Hid (((w3.setCell ⟨B6, 0, none⟩ (.slice la ln lc)).setCell ⟨B6, 1, none⟩ (.slice wa2 wn2 wk2)).heap[B8]? = _) := (Below.heap_setCell _ _ _ _ (by show B8 ≠ B6; omega)).trans ((Below.heap_setCell _ _ _ _ (by show B8 ≠ B6; omega)).trans H8_3.out)
          have H11 : Hid (((w3.setCell ⟨B6, 0, none⟩ (.slice la ln lc)).setCell ⟨B6, 1, none⟩ (.slice wa2 wn2 wk2)).heap[B8 + 1]? = _) := (Below.heap_setCell _ _ _ _ (by show B8 + 1 ≠ B6; omega)).trans ((Below.heap_setCell _ _ _ _ (by show B8 + 1 ≠ B6; omega)).trans H11_3.out)
          have H12 : Hid (((w3.setCell ⟨B6, 0, none⟩ (.slice la ln lc)).setCell ⟨B6, 1, none⟩ (.slice wa2 wn2 wk2)).heap[B8 + 1 + 1]? = _) := (Below.heap_setCell _ _ _ _ (by show B8 + 1 + 1 ≠ B6; omega)).trans ((Below.heap_setCell _ _ _ _ (by show B8 + 1 + 1 ≠ B6; omega)).trans H12_3.out)
          clear hz60 hz61 hf60 hf61
          generalize ((w3.setCell ⟨B6, 0, none⟩ (.slice la ln lc)).setCell ⟨B6, 1, none⟩ (.slice wa2 wn2 wk2)) = wy at *
          obtain ⟨tt, htt⟩ : ∃ tt : VT, tt = .node 0 0 0 ⟨#[]⟩ [] := ⟨_, rfl⟩
          have HTG : Hid (TRead wy (fun _ => True) tt ⟨0, 0, 0, ⟨#[]⟩, none, 0, 0⟩) := by rw [htt]; exact zero_read _ _
          have HTW := HTG
          have HKS : Hid (∀ w', Hid (Below wy.heap.size wy w') → (w'.cell? ⟨B6, 0, none⟩ = some (.slice la ln lc) ∧ w'.cell? ⟨B6, 1, none⟩ = some (.slice wa2 wn2 wk2) ∧ w'.cell? ⟨B8, 1, none⟩ = some (.string on) ∧ w'.cell? ⟨B8 + 1, 0, none⟩ = some (.int .i64 0) ∧ w'.cell? ⟨B8 + 1, 1, none⟩ = some (.int .i64 0) ∧ w'.cell? ⟨B8 + 1, 2, none⟩ = some (.float .f64 0) ∧ w'.cell? ⟨B8 + 1, 3, none⟩ = some (.string ⟨#[]⟩) ∧ w'.cell? ⟨B8 + 1, 4, none⟩ = some (.slice none 0 0) ∧ w'.cell? ⟨B8 + 1 + 1, 0, none⟩ = some (.int .i64 0) ∧ w'.cell? ⟨B8 + 1 + 1, 1, none⟩ = some (.int .i64 0) ∧ w'.cell? ⟨B8 + 1 + 1, 2, none⟩ = some (.float .f64 0) ∧ w'.cell? ⟨B8 + 1 + 1, 3, none⟩ = some (.string ⟨#[]⟩) ∧ w'.cell? ⟨B8 + 1 + 1, 4, none⟩ = some (.slice none 0 0))) := fun w' hb => by
            have k6 := cells2 ((hb.out.block _ (lt_of_heap HP.out.b6)).trans HP.out.b6)
            have k8 := cellAt ((hb.out.block _ (lt_of_heap H8.out)).trans H8.out) 1 (v := .string on) rfl
            have k11 := cells5 ((hb.out.block _ (lt_of_heap H11.out)).trans H11.out)
            have k12 := cells5 ((hb.out.block _ (lt_of_heap H12.out)).trans H12.out)
            exact ⟨k6.1, k6.2, k8, k11.1, k11.2.1, k11.2.2.1, k11.2.2.2.1, k11.2.2.2.2, k12⟩
          have HB0 : Hid (Below wy.heap.size wy wy.drew) := (Below.refl _ _).drew
          have HLM : Hid (M.length ≤ 200 ∧ Ws2.length ≤ 200) := by have := HP.out.len; exact ⟨by omega, by omega⟩
          have HNL : Hid ((namesOf (M.map ltr) Ws2).length ≤ 1000) := by have := HP.out.inv.namesLen; have := HLM.out; show _ ≤ _; omega
          have HIL : Hid ((idsOf Ws2 on).length ≤ 1000) := by have := idsOf_len Ws2 on; have := HLM.out; show _ ≤ _; omega
          go_region_held3 (fun w' => w'.cell? ⟨B6, 0, none⟩ = some (.slice la ln lc) ∧ w'.cell? ⟨B6, 1, none⟩ = some (.slice wa2 wn2 wk2) ∧ w'.cell? ⟨B8, 1, none⟩ = some (.string on) ∧ w'.cell? ⟨B8 + 1, 0, none⟩ = some (.int .i64 0) ∧ w'.cell? ⟨B8 + 1, 1, none⟩ = some (.int .i64 0) ∧ w'.cell? ⟨B8 + 1, 2, none⟩ = some (.float .f64 0) ∧ w'.cell? ⟨B8 + 1, 3, none⟩ = some (.string ⟨#[]⟩) ∧ w'.cell? ⟨B8 + 1, 4, none⟩ = some (.slice none 0 0) ∧ w'.cell? ⟨B8 + 1 + 1, 0, none⟩ = some (.int .i64 0) ∧ w'.cell? ⟨B8 + 1 + 1, 1, none⟩ = some (.int .i64 0) ∧ w'.cell? ⟨B8 + 1 + 1, 2, none⟩ = some (.float .f64 0) ∧ w'.cell? ⟨B8 + 1 + 1, 3, none⟩ = some (.string ⟨#[]⟩) ∧ w'.cell? ⟨B8 + 1 + 1, 4, none⟩ = some (.slice none 0 0)) (exact HKS.out _ (by assumption))
            (first
            | (go_at_call 23; refine (same_calls tt ⟨0, 0, 0, ⟨#[]⟩, none, 0, 0⟩ ⟨0, 0, 0, ⟨#[]⟩, none, 0, 0⟩ _ _ _ (HTG.out.later (Hid.out (by assumption : Hid (Below wy.heap.size wy _)))) (HTW.out.later (Hid.out (by assumption : Hid (Below wy.heap.size wy _))))).mono ?_; rintro e w2 ⟨rfl, hb2⟩
               have HB1 := bel_step (by assumption) hb2
               clear hb2)
            | (go_at_call 17; refine ((HP.out.inv.later (Hid.out (by assumption : Hid (Below wy.heap.size wy _)))).counts on).mono ?_; rintro e w2 ⟨rfl, rfl⟩)
            | (go_at_call 50; refine ((HP.out.inv.later (Hid.out (by assumption : Hid (Below wy.heap.size wy _)))).rcounts HLM.out.1 on).mono ?_; rintro e w2 ⟨rfl, hb2⟩
               have HB1 := bel_step (by assumption) hb2
               clear hb2)
            | (go_at_call 14; refine ((HP.out.inv.later (Hid.out (by assumption : Hid (Below wy.heap.size wy _)))).waiting on).mono ?_; rintro e w2 ⟨v1, rfl, hr1, hb2⟩
               have HB1 := bel_step (by assumption) hb2
               have HR1 := Lib.hid hr1
               clear hb2 hr1)
            | (go_at_call 51; refine ((HP.out.inv.later (Hid.out (by assumption : Hid (Below wy.heap.size wy _)))).rwaiting HLM.out.2 on).mono ?_; rintro e w3 ⟨v2, rfl, hr2, hb2⟩
               have HB2 := bel_step (by assumption) hb2
               have HR1b := Lib.hid (HR1.out.later hb2)
               have HR2 := Lib.hid hr2
               clear hb2 hr2)
            | (go_at_call 13; refine (sequal_same _ _ (idsOf Ws2 on) _ HR1b.out HR2.out HIL.out).mono ?_; rintro e w4 ⟨rfl, n4, rfl⟩
               have HB4 := bel_step (b := w3.drewN n4) HB2 ⟨rfl, rfl, rfl, Nat.le_refl _, fun _ _ => rfl⟩)
            | (go_at_call 24; refine ((HP.out.inv.later (Hid.out (by assumption : Hid (Below wy.heap.size wy _)))).names HLM.out.1 HLM.out.2).mono ?_; rintro e w5 ⟨v5, rfl, hr5, hb5⟩
               have HB5 := bel_step (by assumption) hb5
               have HR5 := Lib.hid hr5
               clear hb5 hr5)
            | (go_at_call 27; refine ((HP.out.inv.later (Hid.out (by assumption : Hid (Below wy.heap.size wy _)))).rnames HLM.out.1 HLM.out.2).mono ?_; rintro e w6 ⟨v6, rfl, hr6, hb6⟩
               have HB6 := bel_step (by assumption) hb6
               have HR5b := Lib.hid (HR5.out.later hb6)
               have HR6 := Lib.hid hr6
               clear hb6 hr6)
            | (go_at_call 52; refine (sequalS_same _ _ (namesOf (M.map ltr) Ws2) _ HR5b.out HR6.out HNL.out).mono ?_; rintro e w7 ⟨rfl, n7, rfl⟩
               have HB7 := bel_step (b := w6.drewN n7) HB6 ⟨rfl, rfl, rfl, Nat.le_refl _, fun _ _ => rfl⟩))
          all_goals
            go_wp2
            go_roundw
            case rel => exact ⟨m + 1, .slice la ln lc, .slice wa2 wn2 wk2, M, Ws2, V, W2, S2, T2, R2, by omega, by go_num, HP.out.later HB7.out⟩
            case measure => simp [RowKit.intOf]; omega
    · obtain ⟨hz60, hz61⟩ := cells2 HPr.out.b6
      obtain ⟨hz40, hz41⟩ := cells2 HPr.out.b4
      have hf40 := freeAt HPr.out.b4 0
      have hf41 := freeAt HPr.out.b4 1
      go_wp2
      try simp only [Exit.inBlock, Exit.then]
      obtain ⟨hch4, hst4⟩ := store2 HPr.out.b4 (.slice la ln lc) (.slice wa wn wk)
      have hinv4 := HPr.out.inv.other hch4 (fun k hk => by subst hk; exact HPr.out.o4)
      have hl4 := HPr.out.len
      generalize ((wr.setCell ⟨B4, 0, none⟩ (.slice la ln lc)).setCell ⟨B4, 1, none⟩ (.slice wa wn wk)) = wf at *
      refine bodyPost_ret (results_row_tmp1 (P := Try.prog) rfl _ _ B4 53 #[.slice la ln lc, .slice wa wn wk] (0, 0) _ rfl hst4 Try.underlying53 rfl rfl) rfl ?_
      exact ⟨_, _, M, Ws, V, W, S, T, R, rfl, hinv4, by omega, by omega⟩
end Go.Proofs.Ytbofbboogmeneaa
