/- Texts for programTexts_holds, joined: TTextB, TTextC, TRefC. -/
import Derived.Test.YtpijpeocdlnhiaaGreatDoorTp10
import Derived.Test.YtpijpeocdlnhiaaGreatDoorTp02
import Derived.Test.YtpijpeocdlnhiaaGreatDoorTp13
import Derived.Test.YtpijpeocdlnhiaaGreatDoorTp03
import Derived.Test.YtpijpeocdlnhiaaGreatDoorTp12
set_option linter.unusedVariables false
set_option linter.unusedSimpArgs false
namespace Go.Proofs.YtpijpeocdlnhiaaGreatDoor
open Go.RowKit
def textF (k : Int) : FuncId :=
  if k = 1 then 215 else if k = 2 then 219 else if k = 3 then 222 else if k = 4 then 226 else 212
theorem km_0 (W : World) : (method 342 103 (.agg #[]) "clockwork/value.text").run Tryz.prog W = .ok (212, .agg #[]) W := by kernel_rfl
theorem kv_0 : kindV 0 = .iface 103 (.agg #[]) := rfl
theorem tf_0 : textF 0 = 212 := rfl
theorem km_1 (W : World) : (method 342 104 (.agg #[]) "clockwork/value.text").run Tryz.prog W = .ok (215, .agg #[]) W := by kernel_rfl
theorem kv_1 : kindV 1 = .iface 104 (.agg #[]) := rfl
theorem tf_1 : textF 1 = 215 := rfl
theorem km_2 (W : World) : (method 342 105 (.agg #[]) "clockwork/value.text").run Tryz.prog W = .ok (219, .agg #[]) W := by kernel_rfl
theorem kv_2 : kindV 2 = .iface 105 (.agg #[]) := rfl
theorem tf_2 : textF 2 = 219 := rfl
theorem km_3 (W : World) : (method 342 106 (.agg #[]) "clockwork/value.text").run Tryz.prog W = .ok (222, .agg #[]) W := by kernel_rfl
theorem kv_3 : kindV 3 = .iface 106 (.agg #[]) := rfl
theorem tf_3 : textF 3 = 222 := rfl
theorem km_4 (W : World) : (method 342 107 (.agg #[]) "clockwork/value.text").run Tryz.prog W = .ok (226, .agg #[]) W := by kernel_rfl
theorem kv_4 : kindV 4 = .iface 107 (.agg #[]) := rfl
theorem tf_4 : textF 4 = 226 := rfl
theorem elemStr : ElemOf Tryz.prog 96 9 (.string ⟨#[]⟩) 1 16 := ⟨Tryz.underlying96, by kernel_rfl, rfl, by decide⟩
abbrev strs (l : List VT) : List Value := l.map fun t => .string ⟨(textT t).toArray⟩
theorem strs_one (t : VT) : ∀ u ∈ [Value.string ⟨(textT t).toArray⟩], u.oneCell' = true := by
  intro u hu
  rw [List.mem_singleton] at hu
  subst hu; rfl
theorem tail_texts : ∀ l : List VT, Lib.joinTail [32] (l.map textT) = tailT l
  | [] => rfl
  | t :: r => by
    rw [tailT, ← tail_texts r]
    simp [Lib.joinTail]
theorem join_texts : ∀ l : List VT, Lib.join (l.map textT) [32] = textsT l
  | [] => rfl
  | t :: r => by rw [List.map_cons, Lib.join_cons, tail_texts, textsT]
def TextC (t : VT) : Prop := ∀ (v : VV) (S : Nat → Prop) (w : World), TRead w S t v → Tabs w → Calls Tryz.prog (textF t.k) #[.agg #[], v.val] w fun e w' => e = .returned (.string ⟨(textT t).toArray⟩) ∧ Below w.heap.size w w'
set_option maxRecDepth 100000 in
set_option maxHeartbeats 4000000 in
theorem list_text (n : Int) (f : Nat) (s : ByteArray) (l : List VT) (hl : l.length ≤ 1000000) (htl : (textsT l).length ≤ 1000000) (hk : ∀ t ∈ l, 0 ≤ t.k ∧ t.k ≤ 4) (IH : ∀ t ∈ l, TextC t) (v : VV) (S : Nat → Prop) (w : World) (hv : TRead w S (.node 4 n f s l) v) (hT : Tabs w) :
    Calls Tryz.prog 226 #[.agg #[], v.val] w fun e w' => e = .returned (.string ⟨(91 :: (textsT l ++ [93])).toArray⟩) ∧ Below w.heap.size w w' := by
  have HV := Lib.hid hv
  have hval : v.val = .agg #[.int .i64 4, .int .i64 n, .float .f64 f, .string s, .slice v.a l.length v.c] := hv.val
  have hlen : l.length ≤ v.c := by obtain ⟨vs, hr, _⟩ := hv.elems; obtain ⟨_, _, _, he, hle, _⟩ := hr; cases he; exact hle
  rw [hval]
  have HI := Lib.hid IH
  have HKI := Lib.hid hk
  have HT := Lib.hid hT
  clear hv hval IH hk hT
  obtain ⟨va, hva⟩ : ∃ va, va = v.a := ⟨_, rfl⟩
  have HVA := Lib.hid hva
  rw [← hva]
  clear hva
  have HB1 : Hid (Below w.heap.size w ((w.alloc (.cells #[] 107)).alloc (.cells #[.int .i64 4, .int .i64 n, .float .f64 f, .string s, .slice va l.length v.c] 26))) := ((Below.refl _ _).alloc (Nat.le_refl _) _).alloc (by simp) _
  have HS1 : Hid (((w.alloc (.cells #[] 107)).alloc (.cells #[.int .i64 4, .int .i64 n, .float .f64 f, .string s, .slice va l.length v.c] 26)).heap.size = w.heap.size + 1 + 1) := by simp [Hid]
  go_enter Tryz.func226, Tryz.ntmps226
  go_upto_region 3 with fail
  generalize ((w.alloc (.cells #[] 107)).alloc (.cells #[.int .i64 4, .int .i64 n, .float .f64 f, .string s, .slice va l.length v.c] 26)) = wd at *
  go_loopw [5, 11] (fun o i w' => ∃ (m : Nat) (a : Option Addr) (c : Nat), m ≤ l.length ∧ i = .int .i64 m ∧ o = .slice a m c ∧ Hid (Row w' 9 1 (.slice a m c) m (strs (l.take m)) (fun b => w.heap.size + 1 + 1 ≤ b)) ∧ Hid (Below w.heap.size w w') ∧ Hid (w.heap.size + 1 + 1 ≤ w'.heap.size)) (fun _ i _ => l.length - (RowKit.intOf i).toNat)
  case atStart => exact ⟨0, none, 0, by omega, rfl, rfl, Row.nil _ _ _ _, HB1.out, Nat.le_of_eq HS1.out.symm⟩
  case round =>
    obtain ⟨m, a, c, hm, rfl, rfl, HR, HBE, HSZ⟩ := hrel
    by_cases hlt : m < l.length
    · obtain ⟨b, o, hb0, hcap, hblt, -, p, hp, hc0, hc1, hc2, hc3, hc4⟩ := (HV.out.later HBE.out).child m hlt
      obtain rfl : va = some ⟨b, o, none⟩ := HVA.out.trans hb0
      clear hb0
      have hin := List.getElem_mem hlt
      have hkm := HKI.out l[m] hin
      have hpk : p.k = l[m].k := hp.fields.1
      have HC : Hid (∀ W, Below wr.heap.size wr W → Calls Tryz.prog (textF p.k) #[.agg #[], p.val] W fun e w' => e = .returned (.string ⟨(textT l[m]).toArray⟩) ∧ Below W.heap.size W w') :=
        fun W hW => by rw [hpk]; exact HI.out l[m] hin p S W (hp.later hW) (HT.out.later (HBE.out.trans (hW.mono HBE.out.size)))
      have HTK : Hid (strs (l.take (m + 1)) = strs (l.take m) ++ [.string ⟨(textT l[m]).toArray⟩]) := by
        rw [Hid, List.take_succ_eq_append_getElem hlt]
        exact List.map_append
      rw [← hpk] at hkm
      have hone := strs_one l[m]
      generalize textT l[m] = tx at *
      clear hp hin hpk
      go_upto_region 5 with fail
      have HXx : Hid ((wr.alloc (.cells #[.int .i64 p.k, .int .i64 p.n, .float .f64 p.f, .string p.s, .slice p.a p.l p.c] 26)).heap[wr.heap.size]? = some (.cells #[.int .i64 p.k, .int .i64 p.n, .float .f64 p.f, .string p.s, .slice p.a p.l p.c] 26 (0, 0))) := heap_alloc_new wr _
      have HBx : Hid (Below wr.heap.size wr (wr.alloc (.cells #[.int .i64 p.k, .int .i64 p.n, .float .f64 p.f, .string p.s, .slice p.a p.l p.c] 26))) := (Below.refl _ _).alloc (Nat.le_refl _) _
      clear hc0 hc1 hc2 hc3 hc4
      have HRx := Lib.hid (HR.out.frame (fun k hk hl => HBx.out.block k hl))
      have HCx := Lib.hid (HC.out _ HBx.out.drew)
      generalize (wr.alloc (.cells #[.int .i64 p.k, .int .i64 p.n, .float .f64 p.f, .string p.s, .slice p.a p.l p.c] 26)) = wx at *
      obtain ⟨hx0, hx1, hx2, hx3, hx4⟩ := cells5 HXx.out
      have hml : m = (l.take m).length := by rw [List.length_take]; omega
      have HMM := Lib.hid hml
      clear hml
      obtain ⟨pk, pn, pf, ps, pa, pl, pc⟩ := p
      dsimp only [VV.val] at *
      have hk5 : pk = 0 ∨ pk = 1 ∨ pk = 2 ∨ pk = 3 ∨ pk = 4 := by omega
      clear hkm
      rcases hk5 with rfl | rfl | rfl | rfl | rfl
      · have HK := Lib.hid kv_0
        have hmeth := km_0
        rw [tf_0] at HCx
        go_region_law (first
          | (go_simp; go_at_call 39; refine (of_any 0 _).mono ?_; rintro e w3 ⟨rfl, rfl⟩; rw [HK.out])
          | (go_simp; go_at_call 212; refine HCx.out.mono ?_; rintro e w4 ⟨rfl, hb4⟩
             have HB4 := Lib.hid (HBx.out.drew.trans (hb4.mono HBx.out.drew.size))
             have HR4 := Lib.hid (HRx.out.frame (fun k hk hl => hb4.block k hl))
             clear hb4)
          | (refine step_row elemStr rfl rfl (S := fun b => w.heap.size + 1 + 1 ≤ b) (v := .slice a m c) (n := m) (xs := strs (l.take m)) rfl (HR4.out.frame (fun k _ hk => Below.heap_alloc _ _ _ hk)) (y := .slice (some ⟨w4.heap.size, 0, none⟩) 1 1) (m := 1) (news := [.string ⟨tx.toArray⟩]) rfl (Reads.block (heap_alloc_new w4 _) 1 1 rfl) hone (by unfold maxLen; omega) (by omega) ?_; intro v5 w5 hr5 hch5
             obtain ⟨a5, c5, rfl⟩ : ∃ a5 c5, v5 = .slice a5 (m + 1) c5 := (by obtain ⟨-, a5, c5, h, -⟩ := hr5.reads; exact ⟨a5, c5, h⟩)
             have HR5 := Lib.hid hr5
             have HCH5 := Lib.hid hch5
             clear hr5 hch5))
        all_goals
          go_wp2_with fail
          go_roundw
          case rel =>
            refine ⟨m + 1, a5, c5, by omega, by go_num, rfl, ?_, ?_, ?_⟩
            · rw [Hid, HTK.out]
              exact HR5.out.mono (fun k hk => by rcases hk with hk | hk; exact hk; have h1 := HSZ.out; have h2 := HBx.out.size; have h3 := HB4.out.size; simp only [World.size_alloc] at hk; omega)
            · have h2 := HBx.out.size
              have h3 := HB4.out.size
              have h4 := HBE.out.size
              exact ((HBE.out.trans (HB4.out.mono HBE.out.size)).alloc (by omega) _).trans (HCH5.out.toBelow (B := w.heap.size) (by simp only [World.size_alloc]; omega) (fun n hn h => by have := HSZ.out; omega))
            · have h1 := HSZ.out
              have h3 := HB4.out.size
              have h5 := HCH5.out.size
              show w.heap.size + 1 + 1 ≤ _
              simp only [World.size_alloc] at h5
              omega
          case measure => simp [RowKit.intOf]; omega
      · have HK := Lib.hid kv_1
        have hmeth := km_1
        rw [tf_1] at HCx
        go_region_law (first
          | (go_simp; go_at_call 39; refine (of_any 1 _).mono ?_; rintro e w3 ⟨rfl, rfl⟩; rw [HK.out])
          | (go_simp; go_at_call 215; refine HCx.out.mono ?_; rintro e w4 ⟨rfl, hb4⟩
             have HB4 := Lib.hid (HBx.out.drew.trans (hb4.mono HBx.out.drew.size))
             have HR4 := Lib.hid (HRx.out.frame (fun k hk hl => hb4.block k hl))
             clear hb4)
          | (refine step_row elemStr rfl rfl (S := fun b => w.heap.size + 1 + 1 ≤ b) (v := .slice a m c) (n := m) (xs := strs (l.take m)) rfl (HR4.out.frame (fun k _ hk => Below.heap_alloc _ _ _ hk)) (y := .slice (some ⟨w4.heap.size, 0, none⟩) 1 1) (m := 1) (news := [.string ⟨tx.toArray⟩]) rfl (Reads.block (heap_alloc_new w4 _) 1 1 rfl) hone (by unfold maxLen; omega) (by omega) ?_; intro v5 w5 hr5 hch5
             obtain ⟨a5, c5, rfl⟩ : ∃ a5 c5, v5 = .slice a5 (m + 1) c5 := (by obtain ⟨-, a5, c5, h, -⟩ := hr5.reads; exact ⟨a5, c5, h⟩)
             have HR5 := Lib.hid hr5
             have HCH5 := Lib.hid hch5
             clear hr5 hch5))
        all_goals
          go_wp2_with fail
          go_roundw
          case rel =>
            refine ⟨m + 1, a5, c5, by omega, by go_num, rfl, ?_, ?_, ?_⟩
            · rw [Hid, HTK.out]
              exact HR5.out.mono (fun k hk => by rcases hk with hk | hk; exact hk; have h1 := HSZ.out; have h2 := HBx.out.size; have h3 := HB4.out.size; simp only [World.size_alloc] at hk; omega)
            · have h2 := HBx.out.size
              have h3 := HB4.out.size
              have h4 := HBE.out.size
              exact ((HBE.out.trans (HB4.out.mono HBE.out.size)).alloc (by omega) _).trans (HCH5.out.toBelow (B := w.heap.size) (by simp only [World.size_alloc]; omega) (fun n hn h => by have := HSZ.out; omega))
            · have h1 := HSZ.out
              have h3 := HB4.out.size
              have h5 := HCH5.out.size
              show w.heap.size + 1 + 1 ≤ _
              simp only [World.size_alloc] at h5
              omega
          case measure => simp [RowKit.intOf]; omega
      · have HK := Lib.hid kv_2
        have hmeth := km_2
        rw [tf_2] at HCx
        go_region_law (first
          | (go_simp; go_at_call 39; refine (of_any 2 _).mono ?_; rintro e w3 ⟨rfl, rfl⟩; rw [HK.out])
          | (go_simp; go_at_call 219; refine HCx.out.mono ?_; rintro e w4 ⟨rfl, hb4⟩
             have HB4 := Lib.hid (HBx.out.drew.trans (hb4.mono HBx.out.drew.size))
             have HR4 := Lib.hid (HRx.out.frame (fun k hk hl => hb4.block k hl))
             clear hb4)
          | (refine step_row elemStr rfl rfl (S := fun b => w.heap.size + 1 + 1 ≤ b) (v := .slice a m c) (n := m) (xs := strs (l.take m)) rfl (HR4.out.frame (fun k _ hk => Below.heap_alloc _ _ _ hk)) (y := .slice (some ⟨w4.heap.size, 0, none⟩) 1 1) (m := 1) (news := [.string ⟨tx.toArray⟩]) rfl (Reads.block (heap_alloc_new w4 _) 1 1 rfl) hone (by unfold maxLen; omega) (by omega) ?_; intro v5 w5 hr5 hch5
             obtain ⟨a5, c5, rfl⟩ : ∃ a5 c5, v5 = .slice a5 (m + 1) c5 := (by obtain ⟨-, a5, c5, h, -⟩ := hr5.reads; exact ⟨a5, c5, h⟩)
             have HR5 := Lib.hid hr5
             have HCH5 := Lib.hid hch5
             clear hr5 hch5))
        all_goals
          go_wp2_with fail
          go_roundw
          case rel =>
            refine ⟨m + 1, a5, c5, by omega, by go_num, rfl, ?_, ?_, ?_⟩
            · rw [Hid, HTK.out]
              exact HR5.out.mono (fun k hk => by rcases hk with hk | hk; exact hk; have h1 := HSZ.out; have h2 := HBx.out.size; have h3 := HB4.out.size; simp only [World.size_alloc] at hk; omega)
            · have h2 := HBx.out.size
              have h3 := HB4.out.size
              have h4 := HBE.out.size
              exact ((HBE.out.trans (HB4.out.mono HBE.out.size)).alloc (by omega) _).trans (HCH5.out.toBelow (B := w.heap.size) (by simp only [World.size_alloc]; omega) (fun n hn h => by have := HSZ.out; omega))
            · have h1 := HSZ.out
              have h3 := HB4.out.size
              have h5 := HCH5.out.size
              show w.heap.size + 1 + 1 ≤ _
              simp only [World.size_alloc] at h5
              omega
          case measure => simp [RowKit.intOf]; omega
      · have HK := Lib.hid kv_3
        have hmeth := km_3
        rw [tf_3] at HCx
        go_region_law (first
          | (go_simp; go_at_call 39; refine (of_any 3 _).mono ?_; rintro e w3 ⟨rfl, rfl⟩; rw [HK.out])
          | (go_simp; go_at_call 222; refine HCx.out.mono ?_; rintro e w4 ⟨rfl, hb4⟩
             have HB4 := Lib.hid (HBx.out.drew.trans (hb4.mono HBx.out.drew.size))
             have HR4 := Lib.hid (HRx.out.frame (fun k hk hl => hb4.block k hl))
             clear hb4)
          | (refine step_row elemStr rfl rfl (S := fun b => w.heap.size + 1 + 1 ≤ b) (v := .slice a m c) (n := m) (xs := strs (l.take m)) rfl (HR4.out.frame (fun k _ hk => Below.heap_alloc _ _ _ hk)) (y := .slice (some ⟨w4.heap.size, 0, none⟩) 1 1) (m := 1) (news := [.string ⟨tx.toArray⟩]) rfl (Reads.block (heap_alloc_new w4 _) 1 1 rfl) hone (by unfold maxLen; omega) (by omega) ?_; intro v5 w5 hr5 hch5
             obtain ⟨a5, c5, rfl⟩ : ∃ a5 c5, v5 = .slice a5 (m + 1) c5 := (by obtain ⟨-, a5, c5, h, -⟩ := hr5.reads; exact ⟨a5, c5, h⟩)
             have HR5 := Lib.hid hr5
             have HCH5 := Lib.hid hch5
             clear hr5 hch5))
        all_goals
          go_wp2_with fail
          go_roundw
          case rel =>
            refine ⟨m + 1, a5, c5, by omega, by go_num, rfl, ?_, ?_, ?_⟩
            · rw [Hid, HTK.out]
              exact HR5.out.mono (fun k hk => by rcases hk with hk | hk; exact hk; have h1 := HSZ.out; have h2 := HBx.out.size; have h3 := HB4.out.size; simp only [World.size_alloc] at hk; omega)
            · have h2 := HBx.out.size
              have h3 := HB4.out.size
              have h4 := HBE.out.size
              exact ((HBE.out.trans (HB4.out.mono HBE.out.size)).alloc (by omega) _).trans (HCH5.out.toBelow (B := w.heap.size) (by simp only [World.size_alloc]; omega) (fun n hn h => by have := HSZ.out; omega))
            · have h1 := HSZ.out
              have h3 := HB4.out.size
              have h5 := HCH5.out.size
              show w.heap.size + 1 + 1 ≤ _
              simp only [World.size_alloc] at h5
              omega
          case measure => simp [RowKit.intOf]; omega
      · have HK := Lib.hid kv_4
        have hmeth := km_4
        rw [tf_4] at HCx
        go_region_law (first
          | (go_simp; go_at_call 39; refine (of_any 4 _).mono ?_; rintro e w3 ⟨rfl, rfl⟩; rw [HK.out])
          | (go_simp; go_at_call 226; refine HCx.out.mono ?_; rintro e w4 ⟨rfl, hb4⟩
             have HB4 := Lib.hid (HBx.out.drew.trans (hb4.mono HBx.out.drew.size))
             have HR4 := Lib.hid (HRx.out.frame (fun k hk hl => hb4.block k hl))
             clear hb4)
          | (refine step_row elemStr rfl rfl (S := fun b => w.heap.size + 1 + 1 ≤ b) (v := .slice a m c) (n := m) (xs := strs (l.take m)) rfl (HR4.out.frame (fun k _ hk => Below.heap_alloc _ _ _ hk)) (y := .slice (some ⟨w4.heap.size, 0, none⟩) 1 1) (m := 1) (news := [.string ⟨tx.toArray⟩]) rfl (Reads.block (heap_alloc_new w4 _) 1 1 rfl) hone (by unfold maxLen; omega) (by omega) ?_; intro v5 w5 hr5 hch5
             obtain ⟨a5, c5, rfl⟩ : ∃ a5 c5, v5 = .slice a5 (m + 1) c5 := (by obtain ⟨-, a5, c5, h, -⟩ := hr5.reads; exact ⟨a5, c5, h⟩)
             have HR5 := Lib.hid hr5
             have HCH5 := Lib.hid hch5
             clear hr5 hch5))
        all_goals
          go_wp2_with fail
          go_roundw
          case rel =>
            refine ⟨m + 1, a5, c5, by omega, by go_num, rfl, ?_, ?_, ?_⟩
            · rw [Hid, HTK.out]
              exact HR5.out.mono (fun k hk => by rcases hk with hk | hk; exact hk; have h1 := HSZ.out; have h2 := HBx.out.size; have h3 := HB4.out.size; simp only [World.size_alloc] at hk; omega)
            · have h2 := HBx.out.size
              have h3 := HB4.out.size
              have h4 := HBE.out.size
              exact ((HBE.out.trans (HB4.out.mono HBE.out.size)).alloc (by omega) _).trans (HCH5.out.toBelow (B := w.heap.size) (by simp only [World.size_alloc]; omega) (fun n hn h => by have := HSZ.out; omega))
            · have h1 := HSZ.out
              have h3 := HB4.out.size
              have h5 := HCH5.out.size
              show w.heap.size + 1 + 1 ≤ _
              simp only [World.size_alloc] at h5
              omega
          case measure => simp [RowKit.intOf]; omega
    · obtain rfl : m = l.length := by omega
      rw [List.take_length] at HR
      obtain ⟨sj, hsj⟩ : ∃ sj : ByteArray, sj = ⟨(textsT l).toArray⟩ := ⟨_, rfl⟩
      have hsjs : sj.size ≤ 1000000 := by rw [hsj]; show (textsT l).toArray.size ≤ _; rw [List.size_toArray]; exact htl
      have hres : (⟨(91 :: (textsT l ++ [93])).toArray⟩ : ByteArray) = ⟨#[91]⟩ ++ sj ++ ⟨#[93]⟩ := by
        rw [hsj]
        show _ = (⟨([91] : List UInt8).toArray⟩ : ByteArray) ++ ⟨(textsT l).toArray⟩ ++ ⟨([93] : List UInt8).toArray⟩
        rw [ba_app, ba_app]; rfl
      have HJ : Hid (Calls Tryz.prog 91 #[.slice a l.length c, .string ⟨#[32]⟩] wr fun e w' => e = .returned (.string sj) ∧ Below wr.heap.size wr w') := by
        rw [Hid, hsj]
        rcases Nat.eq_zero_or_pos l.length with h0 | h0
        · have hnil := List.eq_nil_of_length_eq_zero h0
          rw [h0, hnil]
          refine (Tryz.strings_Join_none a c ⟨#[32]⟩ wr).mono ?_
          rintro e w' ⟨rfl, rfl⟩
          exact ⟨rfl, Below.refl _ _⟩
        · obtain ⟨b5, o5, c5, hv5, hle5, hb5, hcell5⟩ := HR.out.reads.at h0
          cases hv5
          have hj : Lib.join ((l.map fun t => (⟨(textT t).toArray⟩ : ByteArray)).map (·.data.toList)) (⟨#[32]⟩ : ByteArray).data.toList = textsT l := by
            rw [List.map_map]
            exact join_texts l
          have h := Tryz.strings_Join b5 o5 c (l.map fun t => (⟨(textT t).toArray⟩ : ByteArray)) ⟨#[32]⟩ wr (fun j x hx => hcell5 j _ (by
            rw [List.getElem?_map] at hx ⊢
            cases hq : l[j]? with
            | none => rw [hq] at hx; cases hx
            | some t => rw [hq] at hx; cases hx; rfl)) hb5 (by rw [List.length_map]; omega) (by rw [List.length_map]; exact hle5) (by rw [hj]; omega)
          rw [hj, List.length_map] at h
          exact h
      have HRS := Lib.hid hres
      clear hres hsj HR
      go_wp2_with fail
      refine HJ.out.mono ?_
      rintro e w2 ⟨rfl, hb2⟩
      have HB2 := Lib.hid (HBE.out.trans (hb2.mono HBE.out.size))
      clear hb2
      go_wp2_with fail
      go_ret
      exact ⟨by rw [HRS.out]; rfl, HB2.out⟩
theorem head_of {left k n : Int} {f : Nat} {s : ByteArray} {len : Nat} (h : headB left k n f s len = true) : (0 ≤ k ∧ k ≤ 4) ∧ (k ≠ 4 → len = 0) := by
  unfold headB at h
  simp only [Bool.and_eq_true, Bool.or_eq_true, decide_eq_true_eq] at h
  exact ⟨h.1.1.1.1.1, fun hk => h.1.2.resolve_left hk⟩
theorem tail_len : ∀ (l : List VT), l.length ≤ (tailT l).length ∧ ∀ t ∈ l, (textT t).length ≤ (tailT l).length
  | [] => by rw [tailT]; exact ⟨Nat.le_refl _, fun t h => by cases h⟩
  | t :: r => by
    have h := tail_len r
    simp only [tailT, List.length_cons, List.length_append]
    refine ⟨by omega, fun u hu => ?_⟩
    rcases List.mem_cons.1 hu with rfl | hu
    · omega
    · have := h.2 u hu
      omega
theorem texts_len (l : List VT) : l.length ≤ (textsT l).length + 1 ∧ ∀ t ∈ l, (textT t).length ≤ (textsT l).length := by
  cases l with
  | nil => rw [textsT]; exact ⟨by simp, fun t h => by cases h⟩
  | cons t r =>
    have h := tail_len r
    simp only [textsT, List.length_cons, List.length_append]
    refine ⟨by omega, fun u hu => ?_⟩
    rcases List.mem_cons.1 hu with rfl | hu
    · omega
    · have := h.2 u hu
      omega
theorem text_all (t : VT) : ∀ (left : Int), goodT left t = true → wfT t → (textT t).length ≤ 1000000 → TextC t := by
  induction t using VT.ind with
  | _ k n f s l ih =>
    intro left hg hw hl
    rw [goodT, Bool.and_eq_true] at hg
    obtain ⟨hh, hgl⟩ := hg
    obtain ⟨hk, hk4⟩ := head_of hh
    rw [wfT] at hw
    obtain ⟨-, hn, hf, hs, hwl⟩ := hw
    intro v S w hv hT
    obtain ⟨e1, e2, e3, e4, e5⟩ := hv.fields
    simp only [VT.k, VT.n, VT.f, VT.s, VT.l] at e1 e2 e3 e4 e5
    obtain rfl | rfl | rfl | rfl | rfl : k = 0 ∨ k = 1 ∨ k = 2 ∨ k = 3 ∨ k = 4 := by omega
    · have ht : textT (.node 0 n f s l) = nilS := by rw [textT, if_neg (by decide)]; rfl
      rw [ht]
      exact none_text v w
    · have ht : textT (.node 1 n f s l) = Lib.itoa v.n := by rw [textT, if_neg (by decide), e2]; rfl
      rw [ht]
      exact int_text v w (by rw [e2]; exact hn) hT
    · have ht : textT (.node 2 n f s l) = 35 :: numTextL v.f := by rw [textT, if_neg (by decide), e3]; rfl
      rw [ht]
      exact float_text v w (by rw [e3]; exact hf) hT
    · have ht : textT (.node 3 n f s l) = 34 :: hexL v.s.data.toList ++ [34] := by rw [textT, if_neg (by decide), e4]; rfl
      rw [ht] at hl ⊢
      refine str_text v w ?_
      rw [List.length_append, List.length_cons, hexL_length, bsize] at hl
      omega
    · have ht : textT (.node 4 n f s l) = 91 :: (textsT l ++ [93]) := by rw [textT, if_pos rfl]
      rw [ht] at hl ⊢
      rw [List.length_cons, List.length_append] at hl
      have h1 := texts_len l
      have h3 : ([93] : List UInt8).length = 1 := rfl
      refine list_text n f s l (by omega) (by omega) (fun t ht => ?_) (fun t ht => ih t ht (left - 1) ((goodL_iff _ _).1 hgl t ht) ((wfL_iff l).1 hwl t ht) (by have := h1.2 t ht; omega)) v S w hv hT
      have h2 := (goodL_iff _ _).1 hgl t ht
      obtain ⟨k', n', f', s', l'⟩ := t
      rw [goodT, Bool.and_eq_true] at h2
      exact (head_of h2.1).1
theorem bel_stepT {w0 a b : World} (h : Hid (Below w0.heap.size w0 a)) (hb : Below a.heap.size a b) : Hid (Below w0.heap.size w0 b) := h.out.trans (hb.mono h.out.size)
set_option maxRecDepth 100000 in
set_option maxHeartbeats 4000000 in
theorem vtop_any (t : VT) (v : VV) (S : Nat → Prop) (w : World) (hv : TRead w S t v) (hwf : wfT t) (hlen : goodT 8 t = true → (textT t).length ≤ 1000000) (hT : Tabs w) :
    Calls Tryz.prog 12 #[v.val] w fun e w' => e = .returned (.string ⟨(textTop t).toArray⟩) ∧ Below w.heap.size w w' := by
  have HX : Hid ((w.alloc (.cells #[.int .i64 v.k, .int .i64 v.n, .float .f64 v.f, .string v.s, .slice v.a v.l v.c] 26)).heap[w.heap.size]? = some (.cells #[.int .i64 v.k, .int .i64 v.n, .float .f64 v.f, .string v.s, .slice v.a v.l v.c] 26 (0, 0))) := heap_alloc_new w _
  have HBel : Hid (Below w.heap.size w (w.alloc (.cells #[.int .i64 v.k, .int .i64 v.n, .float .f64 v.f, .string v.s, .slice v.a v.l v.c] 26))) := (Below.refl _ _).alloc (Nat.le_refl _) _
  have HVA := Lib.hid (valid_any t v S _ (hv.later HBel.out) hwf)
  have hkr : goodT 8 t = true → 0 ≤ v.k ∧ v.k ≤ 4 := by
    intro h
    rw [hv.fields.1]
    obtain ⟨k', n', f', s', l'⟩ := t
    rw [goodT, Bool.and_eq_true] at h
    exact (head_of h.1).1
  have hC : goodT 8 t = true → ∀ W, Hid (Below w.heap.size w W) → Calls Tryz.prog (textF v.k) #[.agg #[], v.val] W fun e w' => e = .returned (.string ⟨(textT t).toArray⟩) ∧ Below W.heap.size W w' := by
    intro h W hW
    rw [hv.fields.1]
    exact text_all t 8 h hwf (hlen h) v S W (hv.later hW.out) (hT.later hW.out)
  have htt : textTop t = if goodT 8 t = true then textT t else [] := rfl
  rw [htt]
  generalize goodT 8 t = g at *
  generalize textT t = tx at *
  clear htt hv hwf hlen hT
  obtain ⟨pk, pn, pf, ps, pa, pl, pc⟩ := v
  dsimp only [VV.val] at *
  cases g with
  | false =>
    rw [if_neg (by decide)]
    clear hC hkr
    go_enter Tryz.func12, Tryz.ntmps12
    go_upto_region 1 with fail
    generalize w.alloc (.cells #[.int .i64 pk, .int .i64 pn, .float .f64 pf, .string ps, .slice pa pl pc] 26) = wa at *
    obtain ⟨x0, x1, x2, x3, x4⟩ := cells5 HX.out
    go_wp2_with fail
    refine HVA.out.mono ?_
    rintro e w2 ⟨rfl, hb2⟩
    have HB2 := Lib.hid (HBel.out.trans (hb2.mono HBel.out.size))
    clear hb2
    go_wp2_with fail
    go_ret
    exact ⟨rfl, HB2.out⟩
  | true =>
    rw [if_pos rfl]
    have HC := Lib.hid (hC rfl)
    have hkm := hkr rfl
    clear hC hkr
    have hk5 : pk = 0 ∨ pk = 1 ∨ pk = 2 ∨ pk = 3 ∨ pk = 4 := by omega
    clear hkm
    go_enter Tryz.func12, Tryz.ntmps12
    go_upto_region 1 with fail
    generalize w.alloc (.cells #[.int .i64 pk, .int .i64 pn, .float .f64 pf, .string ps, .slice pa pl pc] 26) = wa at *
    obtain ⟨x0, x1, x2, x3, x4⟩ := cells5 HX.out
    go_wp2_with fail
    refine HVA.out.mono ?_
    rintro e w2 ⟨rfl, hb2⟩
    have HB2 := Lib.hid (HBel.out.trans (hb2.mono HBel.out.size))
    have HX2 := Lib.hid ((hb2.block _ (lt_of_heap HX.out)).trans HX.out)
    clear hb2 x0 x1 x2 x3 x4 HVA
    have HKS : Hid (∀ w', Hid (Below w2.heap.size w2 w') → (w'.cell? ⟨w.heap.size, 0, none⟩ = some (.int .i64 pk) ∧ w'.cell? ⟨w.heap.size, 1, none⟩ = some (.int .i64 pn) ∧ w'.cell? ⟨w.heap.size, 2, none⟩ = some (.float .f64 pf) ∧ w'.cell? ⟨w.heap.size, 3, none⟩ = some (.string ps) ∧ w'.cell? ⟨w.heap.size, 4, none⟩ = some (.slice pa pl pc))) := fun w' hb =>
      cells5 ((hb.out.block _ (lt_of_heap HX2.out)).trans HX2.out)
    have HB0 : Hid (Below w2.heap.size w2 w2.drew) := (Below.refl _ _).drew
    have HB00 : Hid (Below w2.heap.size w2 w2) := Below.refl _ _
    have HCC : Hid (∀ W, Hid (Below w2.heap.size w2 W) → Calls Tryz.prog (textF pk) #[.agg #[], .agg #[.int .i64 pk, .int .i64 pn, .float .f64 pf, .string ps, .slice pa pl pc]] W fun e w' => e = .returned (.string ⟨tx.toArray⟩) ∧ Below W.heap.size W w') := fun W hW => HC.out W (HB2.out.trans (hW.out.mono HB2.out.size))
    clear HC HX HBel HX2
    go_upto_region 3 with fail
    rcases hk5 with rfl | rfl | rfl | rfl | rfl
    · have HK := Lib.hid kv_0
      have hmeth := km_0
      rw [tf_0] at HCC
      go_region_held3 (fun w' => w'.cell? ⟨w.heap.size, 0, none⟩ = some (.int .i64 0) ∧ w'.cell? ⟨w.heap.size, 1, none⟩ = some (.int .i64 pn) ∧ w'.cell? ⟨w.heap.size, 2, none⟩ = some (.float .f64 pf) ∧ w'.cell? ⟨w.heap.size, 3, none⟩ = some (.string ps) ∧ w'.cell? ⟨w.heap.size, 4, none⟩ = some (.slice pa pl pc)) (exact HKS.out _ (by assumption))
        (first
        | (go_at_call 39; refine (of_any 0 _).mono ?_; rintro e w3 ⟨rfl, rfl⟩; rw [HK.out])
        | (go_at_call 212; refine (HCC.out _ (by assumption)).mono ?_; rintro e w4 ⟨rfl, hb4⟩
           have HB4 := bel_stepT (by assumption) hb4
           clear hb4)
        | fail)
      all_goals
        have HBE := Lib.hid (HB2.out.trans (HB4.out.mono HB2.out.size))
        go_wp2
        go_ret
        exact ⟨rfl, HBE.out⟩
    · have HK := Lib.hid kv_1
      have hmeth := km_1
      rw [tf_1] at HCC
      go_region_held3 (fun w' => w'.cell? ⟨w.heap.size, 0, none⟩ = some (.int .i64 1) ∧ w'.cell? ⟨w.heap.size, 1, none⟩ = some (.int .i64 pn) ∧ w'.cell? ⟨w.heap.size, 2, none⟩ = some (.float .f64 pf) ∧ w'.cell? ⟨w.heap.size, 3, none⟩ = some (.string ps) ∧ w'.cell? ⟨w.heap.size, 4, none⟩ = some (.slice pa pl pc)) (exact HKS.out _ (by assumption))
        (first
        | (go_at_call 39; refine (of_any 1 _).mono ?_; rintro e w3 ⟨rfl, rfl⟩; rw [HK.out])
        | (go_at_call 215; refine (HCC.out _ (by assumption)).mono ?_; rintro e w4 ⟨rfl, hb4⟩
           have HB4 := bel_stepT (by assumption) hb4
           clear hb4)
        | fail)
      all_goals
        have HBE := Lib.hid (HB2.out.trans (HB4.out.mono HB2.out.size))
        go_wp2
        go_ret
        exact ⟨rfl, HBE.out⟩
    · have HK := Lib.hid kv_2
      have hmeth := km_2
      rw [tf_2] at HCC
      go_region_held3 (fun w' => w'.cell? ⟨w.heap.size, 0, none⟩ = some (.int .i64 2) ∧ w'.cell? ⟨w.heap.size, 1, none⟩ = some (.int .i64 pn) ∧ w'.cell? ⟨w.heap.size, 2, none⟩ = some (.float .f64 pf) ∧ w'.cell? ⟨w.heap.size, 3, none⟩ = some (.string ps) ∧ w'.cell? ⟨w.heap.size, 4, none⟩ = some (.slice pa pl pc)) (exact HKS.out _ (by assumption))
        (first
        | (go_at_call 39; refine (of_any 2 _).mono ?_; rintro e w3 ⟨rfl, rfl⟩; rw [HK.out])
        | (go_at_call 219; refine (HCC.out _ (by assumption)).mono ?_; rintro e w4 ⟨rfl, hb4⟩
           have HB4 := bel_stepT (by assumption) hb4
           clear hb4)
        | fail)
      all_goals
        have HBE := Lib.hid (HB2.out.trans (HB4.out.mono HB2.out.size))
        go_wp2
        go_ret
        exact ⟨rfl, HBE.out⟩
    · have HK := Lib.hid kv_3
      have hmeth := km_3
      rw [tf_3] at HCC
      go_region_held3 (fun w' => w'.cell? ⟨w.heap.size, 0, none⟩ = some (.int .i64 3) ∧ w'.cell? ⟨w.heap.size, 1, none⟩ = some (.int .i64 pn) ∧ w'.cell? ⟨w.heap.size, 2, none⟩ = some (.float .f64 pf) ∧ w'.cell? ⟨w.heap.size, 3, none⟩ = some (.string ps) ∧ w'.cell? ⟨w.heap.size, 4, none⟩ = some (.slice pa pl pc)) (exact HKS.out _ (by assumption))
        (first
        | (go_at_call 39; refine (of_any 3 _).mono ?_; rintro e w3 ⟨rfl, rfl⟩; rw [HK.out])
        | (go_at_call 222; refine (HCC.out _ (by assumption)).mono ?_; rintro e w4 ⟨rfl, hb4⟩
           have HB4 := bel_stepT (by assumption) hb4
           clear hb4)
        | fail)
      all_goals
        have HBE := Lib.hid (HB2.out.trans (HB4.out.mono HB2.out.size))
        go_wp2
        go_ret
        exact ⟨rfl, HBE.out⟩
    · have HK := Lib.hid kv_4
      have hmeth := km_4
      rw [tf_4] at HCC
      go_region_held3 (fun w' => w'.cell? ⟨w.heap.size, 0, none⟩ = some (.int .i64 4) ∧ w'.cell? ⟨w.heap.size, 1, none⟩ = some (.int .i64 pn) ∧ w'.cell? ⟨w.heap.size, 2, none⟩ = some (.float .f64 pf) ∧ w'.cell? ⟨w.heap.size, 3, none⟩ = some (.string ps) ∧ w'.cell? ⟨w.heap.size, 4, none⟩ = some (.slice pa pl pc)) (exact HKS.out _ (by assumption))
        (first
        | (go_at_call 39; refine (of_any 4 _).mono ?_; rintro e w3 ⟨rfl, rfl⟩; rw [HK.out])
        | (go_at_call 226; refine (HCC.out _ (by assumption)).mono ?_; rintro e w4 ⟨rfl, hb4⟩
           have HB4 := bel_stepT (by assumption) hb4
           clear hb4)
        | fail)
      all_goals
        have HBE := Lib.hid (HB2.out.trans (HB4.out.mono HB2.out.size))
        go_wp2
        go_ret
        exact ⟨rfl, HBE.out⟩
theorem tail_snoc (t : VT) : ∀ r : List VT, tailT (r ++ [t]) = tailT r ++ 32 :: textT t
  | [] => by simp [tailT]
  | x :: r => by simp [tailT, tail_snoc t r]
theorem texts_snoc (a : List VT) (t : VT) : textsT (a ++ [t]) = if a = [] then textT t else textsT a ++ 32 :: textT t := by
  cases a with
  | nil => simp [textsT, tailT]
  | cons x r => simp [textsT, tail_snoc]
theorem tail_app (b : List VT) : ∀ a : List VT, tailT (a ++ b) = tailT a ++ tailT b
  | [] => by simp [tailT]
  | x :: r => by simp [tailT, tail_app b r]
theorem texts_pre (l : List VT) (m : Nat) : (textsT (l.take m)).length ≤ (textsT l).length := by
  cases l with
  | nil => simp
  | cons x r =>
    cases m with
    | zero => simp [textsT]
    | succ m =>
      have h := tail_app (r.drop m) (r.take m)
      rw [List.take_append_drop] at h
      rw [List.take_succ_cons]
      simp only [textsT, List.length_append, h]
      omega
def RTextC (t : VT) : Prop := ∀ (v : VV) (S : Nat → Prop) (w : World), TRead w S t v → Calls Tryz.prog 48 #[v.val] w fun e w' => e = .returned (.string ⟨(textT t).toArray⟩) ∧ Below w.heap.size w w'
set_option maxRecDepth 100000 in
set_option maxHeartbeats 4000000 in
theorem rtext_list (n : Int) (f : Nat) (s : ByteArray) (l : List VT) (htl : (textsT l).length ≤ 1000000) (IH : ∀ t ∈ l, RTextC t) (v : VV) (S : Nat → Prop) (w : World) (hv : TRead w S (.node 4 n f s l) v) :
    Calls Tryz.prog 48 #[v.val] w fun e w' => e = .returned (.string ⟨(91 :: (textsT l ++ [93])).toArray⟩) ∧ Below w.heap.size w w' := by
  have HV := Lib.hid hv
  have hval : v.val = .agg #[.int .i64 4, .int .i64 n, .float .f64 f, .string s, .slice v.a l.length v.c] := hv.val
  have hmax : l.length ≤ maxLen := hv.small
  unfold maxLen at hmax
  have hlen : l.length ≤ v.c := by obtain ⟨vs, hr, _⟩ := hv.elems; obtain ⟨_, _, _, he, hle, _⟩ := hr; cases he; exact hle
  rw [hval]
  have HI := Lib.hid IH
  clear hv hval IH
  obtain ⟨va, hva⟩ : ∃ va, va = v.a := ⟨_, rfl⟩
  have HVA := Lib.hid hva
  rw [← hva]
  clear hva
  have HX : Hid ((w.alloc (.cells #[.int .i64 4, .int .i64 n, .float .f64 f, .string s, .slice va l.length v.c] 26)).heap[w.heap.size]? = some (.cells #[.int .i64 4, .int .i64 n, .float .f64 f, .string s, .slice va l.length v.c] 26 (0, 0))) := heap_alloc_new w _
  have HB1 : Hid (Below w.heap.size w (w.alloc (.cells #[.int .i64 4, .int .i64 n, .float .f64 f, .string s, .slice va l.length v.c] 26))) := (Below.refl _ _).alloc (Nat.le_refl _) _
  go_enter Tryz.func48, Tryz.ntmps48
  go_upto_region 1 with fail
  generalize (w.alloc (.cells #[.int .i64 4, .int .i64 n, .float .f64 f, .string s, .slice va l.length v.c] 26)) = wd at *
  have hx0 := (cells5 HX.out).1
  go_wp2_with fail
  clear hx0
  go_loopw [3, 4] (fun o i w' => ∃ (m : Nat) (sm : ByteArray), i = .int .i64 m ∧ o = .string sm ∧ m ≤ l.length ∧ Hid (sm.data.toList = 91 :: textsT (l.take m)) ∧ Hid (Below w.heap.size w w') ∧ Hid (w'.heap[w.heap.size]? = some (.cells #[.int .i64 4, .int .i64 n, .float .f64 f, .string s, .slice va l.length v.c] 26 (0, 0)))) (fun _ i _ => l.length - (RowKit.intOf i).toNat)
  case atStart => exact ⟨0, _, rfl, rfl, Nat.zero_le _, rfl, HB1.out, HX.out⟩
  case round =>
    obtain ⟨m, sm, rfl, rfl, hm, HS, HBE, HXR⟩ := hrel
    have hsm : sm.size ≤ 1000001 := by
      rw [Lib.size_eq, HS.out, List.length_cons]
      have := texts_pre l m
      omega
    have hx4 := (cells5 HXR.out).2.2.2.2
    by_cases hlt : m < l.length
    · obtain ⟨b, o, hb0, hcap, hblt, -, p, hp, hc0, hc1, hc2, hc3, hc4⟩ := (HV.out.later HBE.out).child m hlt
      obtain rfl : va = some ⟨b, o, none⟩ := HVA.out.trans hb0
      clear hb0
      have hin := List.getElem_mem hlt
      have HC : Hid (Calls Tryz.prog 48 #[p.val] wr fun e w' => e = .returned (.string ⟨(textT l[m]).toArray⟩) ∧ Below wr.heap.size wr w') := HI.out l[m] hin p S wr hp
      obtain ⟨tx, htx⟩ : ∃ tx : ByteArray, tx = ⟨(textT l[m]).toArray⟩ := ⟨_, rfl⟩
      have htxl : tx.data.toList = textT l[m] := by rw [htx]
      have htxs : tx.size ≤ 1000000 := by rw [Lib.size_eq, htxl]; have := (texts_len l).2 l[m] hin; omega
      rw [← htx] at HC
      have HTK : Hid (textsT (l.take (m + 1)) = if m = 0 then tx.data.toList else textsT (l.take m) ++ 32 :: tx.data.toList) := by
        rw [Hid, List.take_succ_eq_append_getElem hlt, texts_snoc, htxl]
        have : l.take m = [] ↔ m = 0 := by
          rw [List.take_eq_nil_iff]
          constructor
          · rintro (h | h)
            · exact h
            · rw [h] at hlt; simp at hlt
          · intro h; exact .inl h
        simp only [this]
      clear htx htxl hp hin
      rcases Nat.eq_zero_or_pos m with h0 | h0
      · subst h0
        simp only [Nat.zero_mul, Nat.add_zero] at hc0 hc1 hc2 hc3 hc4
        go_wp2_with fail
        refine HC.out.mono ?_
        rintro e w2 ⟨rfl, hb2⟩
        have HB2 := Lib.hid (HBE.out.trans (hb2.mono HBE.out.size))
        have HX2 := Lib.hid ((hb2.block _ (lt_of_heap HXR.out)).trans HXR.out)
        clear hb2 HC hc0 hc1 hc2 hc3 hc4 hx4
        go_wp2_with fail
        refine ⟨⟨0 + 1, _, by go_num, rfl, by omega, ?_, HB2.out, HX2.out⟩, ?_⟩
        · rw [Hid, HTK.out]
          simp [ByteArray.data_append, HS.out, textsT]
        · simp [RowKit.intOf]; omega
      · go_wp2_with fail
        refine HC.out.mono ?_
        rintro e w2 ⟨rfl, hb2⟩
        have HB2 := Lib.hid (HBE.out.trans (hb2.mono HBE.out.size))
        have HX2 := Lib.hid ((hb2.block _ (lt_of_heap HXR.out)).trans HXR.out)
        clear hb2 HC hc0 hc1 hc2 hc3 hc4 hx4
        go_wp2_with fail
        refine ⟨⟨m + 1, _, by go_num, rfl, by omega, ?_, HB2.out, HX2.out⟩, ?_⟩
        · rw [Hid, HTK.out, if_neg (by omega)]
          simp [ByteArray.data_append, HS.out]
        · simp [RowKit.intOf]; omega
    · obtain rfl : m = l.length := by omega
      have HF : Hid ((⟨(91 :: (textsT l ++ [93])).toArray⟩ : ByteArray) = sm ++ ⟨#[93]⟩) := by
        have h := HS.out
        rw [List.take_length] at h
        rw [Hid, ← ba_data' (sm ++ ⟨#[93]⟩), ByteArray.data_append, Array.toList_append, h]
        rfl
      go_wp2_with fail
      go_ret
      exact ⟨by rw [HF.out]; rfl, HBE.out⟩
theorem hexL_size (s : ByteArray) : (hexL s.data.toList).length = 2 * s.size := by rw [hexL_length, bsize]
set_option maxRecDepth 100000 in
set_option maxHeartbeats 4000000 in
theorem rtext_atom (k n : Int) (f : Nat) (s : ByteArray) (l : List VT) (hk : k ≠ 4) (hn : -9223372036854775808 ≤ n ∧ n ≤ 9223372036854775807) (hf : f < 18446744073709551616) (hs0 : k = 3 → s.size ≤ 1000000) : RTextC (.node k n f s l) := by
  intro v S w hv
  have ht : textT (.node k n f s l) = atomT k n f s := by rw [textT, if_neg hk]
  have hval : v.val = .agg #[.int .i64 k, .int .i64 n, .float .f64 f, .string s, .slice v.a l.length v.c] := hv.val
  rw [ht, hval]
  generalize v.a = va at *
  generalize v.c = vc at *
  generalize l.length = ln at *
  clear hv hval ht
  have HX : Hid ((w.alloc (.cells #[.int .i64 k, .int .i64 n, .float .f64 f, .string s, .slice va ln vc] 26)).heap[w.heap.size]? = some (.cells #[.int .i64 k, .int .i64 n, .float .f64 f, .string s, .slice va ln vc] 26 (0, 0))) := heap_alloc_new w _
  have HB1 : Hid (Below w.heap.size w (w.alloc (.cells #[.int .i64 k, .int .i64 n, .float .f64 f, .string s, .slice va ln vc] 26))) := (Below.refl _ _).alloc (Nat.le_refl _) _
  by_cases h1 : k = 1
  · subst h1
    have HC := Lib.hid (rdecimal_any n hn.1 hn.2)
    have ha : atomT 1 n f s = Lib.itoa n := rfl
    rw [ha]
    go_enter Tryz.func48, Tryz.ntmps48
    go_upto_region 1 with fail
    generalize (w.alloc (.cells #[.int .i64 1, .int .i64 n, .float .f64 f, .string s, .slice va ln vc] 26)) = wd at *
    obtain ⟨hx0, hx1, hx2, hx3, hx4⟩ := cells5 HX.out
    go_wp2_with fail
    refine (HC.out _).mono ?_
    rintro e w2 ⟨rfl, rfl⟩
    go_wp2_with fail
    go_ret
    exact ⟨rfl, HB1.out⟩
  by_cases h2 : k = 2
  · subst h2
    have HC := Lib.hid (rtext_num f hf)
    obtain ⟨nt, hnt⟩ : ∃ nt : ByteArray, nt = ⟨(numTextL f).toArray⟩ := ⟨_, rfl⟩
    have hns : nt.size ≤ 100 := by rw [hnt]; show (numTextL f).toArray.size ≤ 100; rw [List.size_toArray]; exact numTextL_small f
    have hcc : (⟨(atomT 2 n f s).toArray⟩ : ByteArray) = ⟨#[35]⟩ ++ nt := by rw [hnt]; exact (ba_app [35] _).symm
    rw [hcc]
    rw [← hnt] at HC
    clear hcc hnt
    go_enter Tryz.func48, Tryz.ntmps48
    go_upto_region 1 with fail
    generalize (w.alloc (.cells #[.int .i64 2, .int .i64 n, .float .f64 f, .string s, .slice va ln vc] 26)) = wd at *
    obtain ⟨hx0, hx1, hx2, hx3, hx4⟩ := cells5 HX.out
    go_wp2_with fail
    refine (HC.out _).mono ?_
    rintro e w2 ⟨rfl, rfl⟩
    go_wp2_with fail
    go_ret
    exact ⟨rfl, HB1.out⟩
  by_cases h3 : k = 3
  · subst h3
    have hs := hs0 rfl
    have HC := Lib.hid (rhex_any s hs)
    obtain ⟨nt, hnt⟩ : ∃ nt : ByteArray, nt = ⟨(hexL s.data.toList).toArray⟩ := ⟨_, rfl⟩
    have hns : nt.size ≤ 2000000 := by rw [hnt]; show (hexL s.data.toList).toArray.size ≤ _; rw [List.size_toArray, hexL_size]; omega
    have hcc : (⟨(atomT 3 n f s).toArray⟩ : ByteArray) = ⟨#[34]⟩ ++ nt ++ ⟨#[34]⟩ := by
      rw [hnt]
      show _ = (⟨([34] : List UInt8).toArray⟩ : ByteArray) ++ ⟨(hexL s.data.toList).toArray⟩ ++ ⟨([34] : List UInt8).toArray⟩
      rw [ba_app, ba_app]; rfl
    rw [hcc]
    rw [← hnt] at HC
    clear hcc hnt
    go_enter Tryz.func48, Tryz.ntmps48
    go_upto_region 1 with fail
    generalize (w.alloc (.cells #[.int .i64 3, .int .i64 n, .float .f64 f, .string s, .slice va ln vc] 26)) = wd at *
    obtain ⟨hx0, hx1, hx2, hx3, hx4⟩ := cells5 HX.out
    go_wp2_with fail
    refine (HC.out _).mono ?_
    rintro e w2 ⟨rfl, hb2⟩
    have HB2 := Lib.hid (HB1.out.trans (hb2.mono HB1.out.size))
    clear hb2
    go_wp2_with fail
    go_ret
    exact ⟨rfl, HB2.out⟩
  have ha : atomT k n f s = nilS := by unfold atomT; rw [if_neg h1, if_neg h2, if_neg h3]
  rw [ha]
  have g1 : (k == 1) = false := by rw [beq_eq_false_iff_ne]; exact h1
  have g2 : (k == 2) = false := by rw [beq_eq_false_iff_ne]; exact h2
  have g3 : (k == 3) = false := by rw [beq_eq_false_iff_ne]; exact h3
  have g4 : (k == 4) = false := by rw [beq_eq_false_iff_ne]; exact hk
  clear h1 h2 h3 hk
  go_enter Tryz.func48, Tryz.ntmps48
  go_upto_region 1 with fail
  generalize (w.alloc (.cells #[.int .i64 k, .int .i64 n, .float .f64 f, .string s, .slice va ln vc] 26)) = wd at *
  obtain ⟨hx0, hx1, hx2, hx3, hx4⟩ := cells5 HX.out
  go_wp2_with fail
  go_ret
  exact ⟨rfl, HB1.out⟩
theorem rtext_all (t : VT) : wfT t → (textT t).length ≤ 1000000 → RTextC t := by
  induction t using VT.ind with
  | _ k n f s l ih =>
    intro hw hl
    rw [wfT] at hw
    obtain ⟨-, hn, hf, hs, hwl⟩ := hw
    by_cases hk : k = 4
    · subst hk
      have ht : textT (.node 4 n f s l) = 91 :: (textsT l ++ [93]) := by rw [textT, if_pos rfl]
      intro v S w hv
      rw [ht] at hl ⊢
      rw [List.length_cons, List.length_append] at hl
      exact rtext_list n f s l (by omega) (fun t ht => ih t ht ((wfL_iff l).1 hwl t ht) (by have := (texts_len l).2 t ht; omega)) v S w hv
    · refine rtext_atom k n f s l hk hn hf (fun h3 => ?_)
      subst h3
      have ht : textT (.node 3 n f s l) = 34 :: hexL s.data.toList ++ [34] := by rw [textT, if_neg (by decide)]; rfl
      rw [ht, List.length_append, List.length_cons, hexL_size] at hl
      omega
end Go.Proofs.YtpijpeocdlnhiaaGreatDoor
