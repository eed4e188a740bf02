/- value.text of a list, and so of every payload. -/
import Derived.Test.YtpijpeocdlnhiaaGreatDoorTTextA
import Derived.Test.YtpijpeocdlnhiaaGreatDoorArms
import Derived.Test.YtpijpeocdlnhiaaGreatDoorTWord
namespace Go.Proofs.YtpijpeocdlnhiaaGreatDoor
set_option linter.unusedVariables false
set_option linter.unusedSimpArgs false
open Go.RowKit

def textF (k : Int) : FuncId :=
  if k = 1 then 215 else if k = 2 then 219 else if k = 3 then 222 else if k = 4 then 226 else 212
theorem km_0 (W : World) : (method 342 103 (.agg #[]) "clockwork/value.text").run Tryz.prog W = .ok (212, .agg #[]) W := by kernel_rfl
theorem kv_0 : kindV 0 = .iface 103 (.agg #[]) := rfl
theorem tf_0 : textF 0 = 212 := rfl
theorem km_1 (W : World) : (method 342 104 (.agg #[]) "clockwork/value.text").run Tryz.prog W = .ok (215, .agg #[]) W := by kernel_rfl
theorem kv_1 : kindV 1 = .iface 104 (.agg #[]) := rfl
theorem tf_1 : textF 1 = 215 := rfl
theorem km_2 (W : World) : (method 342 105 (.agg #[]) "clockwork/value.text").run Tryz.prog W = .ok (219, .agg #[]) W := by kernel_rfl
theorem kv_2 : kindV 2 = .iface 105 (.agg #[]) := rfl
theorem tf_2 : textF 2 = 219 := rfl
theorem km_3 (W : World) : (method 342 106 (.agg #[]) "clockwork/value.text").run Tryz.prog W = .ok (222, .agg #[]) W := by kernel_rfl
theorem kv_3 : kindV 3 = .iface 106 (.agg #[]) := rfl
theorem tf_3 : textF 3 = 222 := rfl
theorem km_4 (W : World) : (method 342 107 (.agg #[]) "clockwork/value.text").run Tryz.prog W = .ok (226, .agg #[]) W := by kernel_rfl
theorem kv_4 : kindV 4 = .iface 107 (.agg #[]) := rfl
theorem tf_4 : textF 4 = 226 := rfl
theorem elemStr : ElemOf Tryz.prog 96 9 (.string ⟨#[]⟩) 1 16 := ⟨Tryz.underlying96, by kernel_rfl, rfl, by decide⟩
abbrev strs (l : List VT) : List Value := l.map fun t => .string ⟨(textT t).toArray⟩
theorem strs_one (t : VT) : ∀ u ∈ [Value.string ⟨(textT t).toArray⟩], u.oneCell' = true := by
  intro u hu
  rw [List.mem_singleton] at hu
  subst hu; rfl
theorem tail_texts : ∀ l : List VT, Lib.joinTail [32] (l.map textT) = tailT l
  | [] => rfl
  | t :: r => by
    rw [tailT, ← tail_texts r]
    simp [Lib.joinTail]
theorem join_texts : ∀ l : List VT, Lib.join (l.map textT) [32] = textsT l
  | [] => rfl
  | t :: r => by rw [List.map_cons, Lib.join_cons, tail_texts, textsT]
/-- What the method text of a payload's kind gives. -/
def TextC (t : VT) : Prop := ∀ (v : VV) (S : Nat → Prop) (w : World), TRead w S t v → Tabs w → Calls Tryz.prog (textF t.k) #[.agg #[], v.val] w fun e w' => e = .returned (.string ⟨(textT t).toArray⟩) ∧ Below w.heap.size w w'

set_option maxRecDepth 100000 in
set_option maxHeartbeats 4000000 in
theorem list_text (n : Int) (f : Nat) (s : ByteArray) (l : List VT) (hl : l.length ≤ 1000000) (htl : (textsT l).length ≤ 1000000) (hk : ∀ t ∈ l, 0 ≤ t.k ∧ t.k ≤ 4) (IH : ∀ t ∈ l, TextC t) (v : VV) (S : Nat → Prop) (w : World) (hv : TRead w S (.node 4 n f s l) v) (hT : Tabs w) :
    Calls Tryz.prog 226 #[.agg #[], v.val] w fun e w' => e = .returned (.string ⟨(91 :: (textsT l ++ [93])).toArray⟩) ∧ Below w.heap.size w w' := by
  have HV := Lib.hid hv
  have hval : v.val = .agg #[.int .i64 4, .int .i64 n, .float .f64 f, .string s, .slice v.a l.length v.c] := hv.val
  have hlen : l.length ≤ v.c := by obtain ⟨vs, hr, _⟩ := hv.elems; obtain ⟨_, _, _, he, hle, _⟩ := hr; cases he; exact hle
  rw [hval]
  have HI := Lib.hid IH
  have HKI := Lib.hid hk
  have HT := Lib.hid hT
  clear hv hval IH hk hT
  obtain ⟨va, hva⟩ : ∃ va, va = v.a := ⟨_, rfl⟩
  have HVA := Lib.hid hva
  rw [← hva]
  clear hva
  have HB1 : Hid (Below w.heap.size w ((w.alloc (.cells #[] 107)).alloc (.cells #[.int .i64 4, .int .i64 n, .float .f64 f, .string s, .slice va l.length v.c] 26))) := ((Below.refl _ _).alloc (Nat.le_refl _) _).alloc (by simp) _
  have HS1 : Hid (((w.alloc (.cells #[] 107)).alloc (.cells #[.int .i64 4, .int .i64 n, .float .f64 f, .string s, .slice va l.length v.c] 26)).heap.size = w.heap.size + 1 + 1) := by simp [Hid]
  go_enter Tryz.func226, Tryz.ntmps226
  go_upto_region 3 with fail
  generalize ((w.alloc (.cells #[] 107)).alloc (.cells #[.int .i64 4, .int .i64 n, .float .f64 f, .string s, .slice va l.length v.c] 26)) = wd at *
  go_loopw [5, 11] (fun o i w' => ∃ (m : Nat) (a : Option Addr) (c : Nat), m ≤ l.length ∧ i = .int .i64 m ∧ o = .slice a m c ∧ Hid (Row w' 9 1 (.slice a m c) m (strs (l.take m)) (fun b => w.heap.size + 1 + 1 ≤ b)) ∧ Hid (Below w.heap.size w w') ∧ Hid (w.heap.size + 1 + 1 ≤ w'.heap.size)) (fun _ i _ => l.length - (RowKit.intOf i).toNat)
  case atStart => exact ⟨0, none, 0, by omega, rfl, rfl, Row.nil _ _ _ _, HB1.out, Nat.le_of_eq HS1.out.symm⟩
  case round =>
    obtain ⟨m, a, c, hm, rfl, rfl, HR, HBE, HSZ⟩ := hrel
    by_cases hlt : m < l.length
    · obtain ⟨b, o, hb0, hcap, hblt, -, p, hp, hc0, hc1, hc2, hc3, hc4⟩ := (HV.out.later HBE.out).child m hlt
      obtain rfl : va = some ⟨b, o, none⟩ := HVA.out.trans hb0
      clear hb0
      have hin := List.getElem_mem hlt
      have hkm := HKI.out l[m] hin
      have hpk : p.k = l[m].k := hp.fields.1
      have HC : Hid (∀ W, Below wr.heap.size wr W → Calls Tryz.prog (textF p.k) #[.agg #[], p.val] W fun e w' => e = .returned (.string ⟨(textT l[m]).toArray⟩) ∧ Below W.heap.size W w') :=
        fun W hW => by rw [hpk]; exact HI.out l[m] hin p S W (hp.later hW) (HT.out.later (HBE.out.trans (hW.mono HBE.out.size)))
      have HTK : Hid (strs (l.take (m + 1)) = strs (l.take m) ++ [.string ⟨(textT l[m]).toArray⟩]) := by
        rw [Hid, List.take_succ_eq_append_getElem hlt]
        exact List.map_append
      rw [← hpk] at hkm
      have hone := strs_one l[m]
      generalize textT l[m] = tx at *
      clear hp hin hpk
      go_upto_region 5 with fail
      have HXx : Hid ((wr.alloc (.cells #[.int .i64 p.k, .int .i64 p.n, .float .f64 p.f, .string p.s, .slice p.a p.l p.c] 26)).heap[wr.heap.size]? = some (.cells #[.int .i64 p.k, .int .i64 p.n, .float .f64 p.f, .string p.s, .slice p.a p.l p.c] 26 (0, 0))) := heap_alloc_new wr _
      have HBx : Hid (Below wr.heap.size wr (wr.alloc (.cells #[.int .i64 p.k, .int .i64 p.n, .float .f64 p.f, .string p.s, .slice p.a p.l p.c] 26))) := (Below.refl _ _).alloc (Nat.le_refl _) _
      clear hc0 hc1 hc2 hc3 hc4
      have HRx := Lib.hid (HR.out.frame (fun k hk hl => HBx.out.block k hl))
      have HCx := Lib.hid (HC.out _ HBx.out.drew)
      generalize (wr.alloc (.cells #[.int .i64 p.k, .int .i64 p.n, .float .f64 p.f, .string p.s, .slice p.a p.l p.c] 26)) = wx at *
      obtain ⟨hx0, hx1, hx2, hx3, hx4⟩ := cells5 HXx.out
      have hml : m = (l.take m).length := by rw [List.length_take]; omega
      have HMM := Lib.hid hml
      clear hml
      obtain ⟨pk, pn, pf, ps, pa, pl, pc⟩ := p
      dsimp only [VV.val] at *
      have hk5 : pk = 0 ∨ pk = 1 ∨ pk = 2 ∨ pk = 3 ∨ pk = 4 := by omega
      clear hkm
      rcases hk5 with rfl | rfl | rfl | rfl | rfl
      · have HK := Lib.hid kv_0
        have hmeth := km_0
        rw [tf_0] at HCx
        go_region_law (first
          | (go_simp; go_at_call 39; refine (of_any 0 _).mono ?_; rintro e w3 ⟨rfl, rfl⟩; rw [HK.out])
          | (go_simp; go_at_call 212; refine HCx.out.mono ?_; rintro e w4 ⟨rfl, hb4⟩
             have HB4 := Lib.hid (HBx.out.drew.trans (hb4.mono HBx.out.drew.size))
             have HR4 := Lib.hid (HRx.out.frame (fun k hk hl => hb4.block k hl))
             clear hb4)
          | (refine step_row elemStr rfl rfl (S := fun b => w.heap.size + 1 + 1 ≤ b) (v := .slice a m c) (n := m) (xs := strs (l.take m)) rfl (HR4.out.frame (fun k _ hk => Below.heap_alloc _ _ _ hk)) (y := .slice (some ⟨w4.heap.size, 0, none⟩) 1 1) (m := 1) (news := [.string ⟨tx.toArray⟩]) rfl (Reads.block (heap_alloc_new w4 _) 1 1 rfl) hone (by unfold maxLen; omega) (by omega) ?_; intro v5 w5 hr5 hch5
             obtain ⟨a5, c5, rfl⟩ : ∃ a5 c5, v5 = .slice a5 (m + 1) c5 := (by obtain ⟨-, a5, c5, h, -⟩ := hr5.reads; exact ⟨a5, c5, h⟩)
             have HR5 := Lib.hid hr5
             have HCH5 := Lib.hid hch5
             clear hr5 hch5))
        all_goals
          go_wp2_with fail
          go_roundw
          case rel =>
            refine ⟨m + 1, a5, c5, by omega, by go_num, rfl, ?_, ?_, ?_⟩
            · rw [Hid, HTK.out]
              exact HR5.out.mono (fun k hk => by rcases hk with hk | hk; exact hk; have h1 := HSZ.out; have h2 := HBx.out.size; have h3 := HB4.out.size; simp only [World.size_alloc] at hk; omega)
            · have h2 := HBx.out.size
              have h3 := HB4.out.size
              have h4 := HBE.out.size
              exact ((HBE.out.trans (HB4.out.mono HBE.out.size)).alloc (by omega) _).trans (HCH5.out.toBelow (B := w.heap.size) (by simp only [World.size_alloc]; omega) (fun n hn h => by have := HSZ.out; omega))
            · have h1 := HSZ.out
              have h3 := HB4.out.size
              have h5 := HCH5.out.size
              show w.heap.size + 1 + 1 ≤ _
              simp only [World.size_alloc] at h5
              omega
          case measure => simp [RowKit.intOf]; omega
      · have HK := Lib.hid kv_1
        have hmeth := km_1
        rw [tf_1] at HCx
        go_region_law (first
          | (go_simp; go_at_call 39; refine (of_any 1 _).mono ?_; rintro e w3 ⟨rfl, rfl⟩; rw [HK.out])
          | (go_simp; go_at_call 215; refine HCx.out.mono ?_; rintro e w4 ⟨rfl, hb4⟩
             have HB4 := Lib.hid (HBx.out.drew.trans (hb4.mono HBx.out.drew.size))
             have HR4 := Lib.hid (HRx.out.frame (fun k hk hl => hb4.block k hl))
             clear hb4)
          | (refine step_row elemStr rfl rfl (S := fun b => w.heap.size + 1 + 1 ≤ b) (v := .slice a m c) (n := m) (xs := strs (l.take m)) rfl (HR4.out.frame (fun k _ hk => Below.heap_alloc _ _ _ hk)) (y := .slice (some ⟨w4.heap.size, 0, none⟩) 1 1) (m := 1) (news := [.string ⟨tx.toArray⟩]) rfl (Reads.block (heap_alloc_new w4 _) 1 1 rfl) hone (by unfold maxLen; omega) (by omega) ?_; intro v5 w5 hr5 hch5
             obtain ⟨a5, c5, rfl⟩ : ∃ a5 c5, v5 = .slice a5 (m + 1) c5 := (by obtain ⟨-, a5, c5, h, -⟩ := hr5.reads; exact ⟨a5, c5, h⟩)
             have HR5 := Lib.hid hr5
             have HCH5 := Lib.hid hch5
             clear hr5 hch5))
        all_goals
          go_wp2_with fail
          go_roundw
          case rel =>
            refine ⟨m + 1, a5, c5, by omega, by go_num, rfl, ?_, ?_, ?_⟩
            · rw [Hid, HTK.out]
              exact HR5.out.mono (fun k hk => by rcases hk with hk | hk; exact hk; have h1 := HSZ.out; have h2 := HBx.out.size; have h3 := HB4.out.size; simp only [World.size_alloc] at hk; omega)
            · have h2 := HBx.out.size
              have h3 := HB4.out.size
              have h4 := HBE.out.size
              exact ((HBE.out.trans (HB4.out.mono HBE.out.size)).alloc (by omega) _).trans (HCH5.out.toBelow (B := w.heap.size) (by simp only [World.size_alloc]; omega) (fun n hn h => by have := HSZ.out; omega))
            · have h1 := HSZ.out
              have h3 := HB4.out.size
              have h5 := HCH5.out.size
              show w.heap.size + 1 + 1 ≤ _
              simp only [World.size_alloc] at h5
              omega
          case measure => simp [RowKit.intOf]; omega
      · have HK := Lib.hid kv_2
        have hmeth := km_2
        rw [tf_2] at HCx
        go_region_law (first
          | (go_simp; go_at_call 39; refine (of_any 2 _).mono ?_; rintro e w3 ⟨rfl, rfl⟩; rw [HK.out])
          | (go_simp; go_at_call 219; refine HCx.out.mono ?_; rintro e w4 ⟨rfl, hb4⟩
             have HB4 := Lib.hid (HBx.out.drew.trans (hb4.mono HBx.out.drew.size))
             have HR4 := Lib.hid (HRx.out.frame (fun k hk hl => hb4.block k hl))
             clear hb4)
          | (refine step_row elemStr rfl rfl (S := fun b => w.heap.size + 1 + 1 ≤ b) (v := .slice a m c) (n := m) (xs := strs (l.take m)) rfl (HR4.out.frame (fun k _ hk => Below.heap_alloc _ _ _ hk)) (y := .slice (some ⟨w4.heap.size, 0, none⟩) 1 1) (m := 1) (news := [.string ⟨tx.toArray⟩]) rfl (Reads.block (heap_alloc_new w4 _) 1 1 rfl) hone (by unfold maxLen; omega) (by omega) ?_; intro v5 w5 hr5 hch5
             obtain ⟨a5, c5, rfl⟩ : ∃ a5 c5, v5 = .slice a5 (m + 1) c5 := (by obtain ⟨-, a5, c5, h, -⟩ := hr5.reads; exact ⟨a5, c5, h⟩)
             have HR5 := Lib.hid hr5
             have HCH5 := Lib.hid hch5
             clear hr5 hch5))
        all_goals
          go_wp2_with fail
          go_roundw
          case rel =>
            refine ⟨m + 1, a5, c5, by omega, by go_num, rfl, ?_, ?_, ?_⟩
            · rw [Hid, HTK.out]
              exact HR5.out.mono (fun k hk => by rcases hk with hk | hk; exact hk; have h1 := HSZ.out; have h2 := HBx.out.size; have h3 := HB4.out.size; simp only [World.size_alloc] at hk; omega)
            · have h2 := HBx.out.size
              have h3 := HB4.out.size
              have h4 := HBE.out.size
              exact ((HBE.out.trans (HB4.out.mono HBE.out.size)).alloc (by omega) _).trans (HCH5.out.toBelow (B := w.heap.size) (by simp only [World.size_alloc]; omega) (fun n hn h => by have := HSZ.out; omega))
            · have h1 := HSZ.out
              have h3 := HB4.out.size
              have h5 := HCH5.out.size
              show w.heap.size + 1 + 1 ≤ _
              simp only [World.size_alloc] at h5
              omega
          case measure => simp [RowKit.intOf]; omega
      · have HK := Lib.hid kv_3
        have hmeth := km_3
        rw [tf_3] at HCx
        go_region_law (first
          | (go_simp; go_at_call 39; refine (of_any 3 _).mono ?_; rintro e w3 ⟨rfl, rfl⟩; rw [HK.out])
          | (go_simp; go_at_call 222; refine HCx.out.mono ?_; rintro e w4 ⟨rfl, hb4⟩
             have HB4 := Lib.hid (HBx.out.drew.trans (hb4.mono HBx.out.drew.size))
             have HR4 := Lib.hid (HRx.out.frame (fun k hk hl => hb4.block k hl))
             clear hb4)
          | (refine step_row elemStr rfl rfl (S := fun b => w.heap.size + 1 + 1 ≤ b) (v := .slice a m c) (n := m) (xs := strs (l.take m)) rfl (HR4.out.frame (fun k _ hk => Below.heap_alloc _ _ _ hk)) (y := .slice (some ⟨w4.heap.size, 0, none⟩) 1 1) (m := 1) (news := [.string ⟨tx.toArray⟩]) rfl (Reads.block (heap_alloc_new w4 _) 1 1 rfl) hone (by unfold maxLen; omega) (by omega) ?_; intro v5 w5 hr5 hch5
             obtain ⟨a5, c5, rfl⟩ : ∃ a5 c5, v5 = .slice a5 (m + 1) c5 := (by obtain ⟨-, a5, c5, h, -⟩ := hr5.reads; exact ⟨a5, c5, h⟩)
             have HR5 := Lib.hid hr5
             have HCH5 := Lib.hid hch5
             clear hr5 hch5))
        all_goals
          go_wp2_with fail
          go_roundw
          case rel =>
            refine ⟨m + 1, a5, c5, by omega, by go_num, rfl, ?_, ?_, ?_⟩
            · rw [Hid, HTK.out]
              exact HR5.out.mono (fun k hk => by rcases hk with hk | hk; exact hk; have h1 := HSZ.out; have h2 := HBx.out.size; have h3 := HB4.out.size; simp only [World.size_alloc] at hk; omega)
            · have h2 := HBx.out.size
              have h3 := HB4.out.size
              have h4 := HBE.out.size
              exact ((HBE.out.trans (HB4.out.mono HBE.out.size)).alloc (by omega) _).trans (HCH5.out.toBelow (B := w.heap.size) (by simp only [World.size_alloc]; omega) (fun n hn h => by have := HSZ.out; omega))
            · have h1 := HSZ.out
              have h3 := HB4.out.size
              have h5 := HCH5.out.size
              show w.heap.size + 1 + 1 ≤ _
              simp only [World.size_alloc] at h5
              omega
          case measure => simp [RowKit.intOf]; omega
      · have HK := Lib.hid kv_4
        have hmeth := km_4
        rw [tf_4] at HCx
        go_region_law (first
          | (go_simp; go_at_call 39; refine (of_any 4 _).mono ?_; rintro e w3 ⟨rfl, rfl⟩; rw [HK.out])
          | (go_simp; go_at_call 226; refine HCx.out.mono ?_; rintro e w4 ⟨rfl, hb4⟩
             have HB4 := Lib.hid (HBx.out.drew.trans (hb4.mono HBx.out.drew.size))
             have HR4 := Lib.hid (HRx.out.frame (fun k hk hl => hb4.block k hl))
             clear hb4)
          | (refine step_row elemStr rfl rfl (S := fun b => w.heap.size + 1 + 1 ≤ b) (v := .slice a m c) (n := m) (xs := strs (l.take m)) rfl (HR4.out.frame (fun k _ hk => Below.heap_alloc _ _ _ hk)) (y := .slice (some ⟨w4.heap.size, 0, none⟩) 1 1) (m := 1) (news := [.string ⟨tx.toArray⟩]) rfl (Reads.block (heap_alloc_new w4 _) 1 1 rfl) hone (by unfold maxLen; omega) (by omega) ?_; intro v5 w5 hr5 hch5
             obtain ⟨a5, c5, rfl⟩ : ∃ a5 c5, v5 = .slice a5 (m + 1) c5 := (by obtain ⟨-, a5, c5, h, -⟩ := hr5.reads; exact ⟨a5, c5, h⟩)
             have HR5 := Lib.hid hr5
             have HCH5 := Lib.hid hch5
             clear hr5 hch5))
        all_goals
          go_wp2_with fail
          go_roundw
          case rel =>
            refine ⟨m + 1, a5, c5, by omega, by go_num, rfl, ?_, ?_, ?_⟩
            · rw [Hid, HTK.out]
              exact HR5.out.mono (fun k hk => by rcases hk with hk | hk; exact hk; have h1 := HSZ.out; have h2 := HBx.out.size; have h3 := HB4.out.size; simp only [World.size_alloc] at hk; omega)
            · have h2 := HBx.out.size
              have h3 := HB4.out.size
              have h4 := HBE.out.size
              exact ((HBE.out.trans (HB4.out.mono HBE.out.size)).alloc (by omega) _).trans (HCH5.out.toBelow (B := w.heap.size) (by simp only [World.size_alloc]; omega) (fun n hn h => by have := HSZ.out; omega))
            · have h1 := HSZ.out
              have h3 := HB4.out.size
              have h5 := HCH5.out.size
              show w.heap.size + 1 + 1 ≤ _
              simp only [World.size_alloc] at h5
              omega
          case measure => simp [RowKit.intOf]; omega
    · obtain rfl : m = l.length := by omega
      rw [List.take_length] at HR
      obtain ⟨sj, hsj⟩ : ∃ sj : ByteArray, sj = ⟨(textsT l).toArray⟩ := ⟨_, rfl⟩
      have hsjs : sj.size ≤ 1000000 := by rw [hsj]; show (textsT l).toArray.size ≤ _; rw [List.size_toArray]; exact htl
      have hres : (⟨(91 :: (textsT l ++ [93])).toArray⟩ : ByteArray) = ⟨#[91]⟩ ++ sj ++ ⟨#[93]⟩ := by
        rw [hsj]
        show _ = (⟨([91] : List UInt8).toArray⟩ : ByteArray) ++ ⟨(textsT l).toArray⟩ ++ ⟨([93] : List UInt8).toArray⟩
        rw [ba_app, ba_app]; rfl
      have HJ : Hid (Calls Tryz.prog 91 #[.slice a l.length c, .string ⟨#[32]⟩] wr fun e w' => e = .returned (.string sj) ∧ Below wr.heap.size wr w') := by
        rw [Hid, hsj]
        rcases Nat.eq_zero_or_pos l.length with h0 | h0
        · have hnil := List.eq_nil_of_length_eq_zero h0
          rw [h0, hnil]
          refine (Tryz.strings_Join_none a c ⟨#[32]⟩ wr).mono ?_
          rintro e w' ⟨rfl, rfl⟩
          exact ⟨rfl, Below.refl _ _⟩
        · obtain ⟨b5, o5, c5, hv5, hle5, hb5, hcell5⟩ := HR.out.reads.at h0
          cases hv5
          have hj : Lib.join ((l.map fun t => (⟨(textT t).toArray⟩ : ByteArray)).map (·.data.toList)) (⟨#[32]⟩ : ByteArray).data.toList = textsT l := by
            rw [List.map_map]
            exact join_texts l
          have h := Tryz.strings_Join b5 o5 c (l.map fun t => (⟨(textT t).toArray⟩ : ByteArray)) ⟨#[32]⟩ wr (fun j x hx => hcell5 j _ (by
            rw [List.getElem?_map] at hx ⊢
            cases hq : l[j]? with
            | none => rw [hq] at hx; cases hx
            | some t => rw [hq] at hx; cases hx; rfl)) hb5 (by rw [List.length_map]; omega) (by rw [List.length_map]; exact hle5) (by rw [hj]; omega)
          rw [hj, List.length_map] at h
          exact h
      have HRS := Lib.hid hres
      clear hres hsj HR
      go_wp2_with fail
      refine HJ.out.mono ?_
      rintro e w2 ⟨rfl, hb2⟩
      have HB2 := Lib.hid (HBE.out.trans (hb2.mono HBE.out.size))
      clear hb2
      go_wp2_with fail
      go_ret
      exact ⟨by rw [HRS.out]; rfl, HB2.out⟩
end Go.Proofs.YtpijpeocdlnhiaaGreatDoor
