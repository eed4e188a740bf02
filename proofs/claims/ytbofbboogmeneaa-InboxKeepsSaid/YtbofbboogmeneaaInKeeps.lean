/- The law InboxKeeps, walked. -/
import Derived.Test.YtbofbboogmeneaaInNil
import Derived.Test.YtbofbboogmeneaaSame
import Derived.Test.YtbofbboogmeneaaSliceU
namespace Go.Proofs.Ytbofbboogmeneaa
set_option linter.unusedVariables false
set_option linter.unusedSimpArgs false
open Go.RowKit

theorem TBox.ptr {w0 w : World} {x : Value} {V : ByteArray → List VV} {Tr : ByteArray → List VT} {Q : ByteArray → List Nat} {W : Nat → Option ByteArray} {S T : Nat → Prop} (h : TBox w0 w x V Tr Q W S T) : ∃ bx, x = .pointer (some ⟨bx, 0, none⟩) := by
  obtain ⟨bx, _, _, _, _, _, _, e, _⟩ := h.box.rep
  exact ⟨bx, e⟩

/-- The elements of an owned payload: in one block, which is its own, with their numbers. -/
theorem TOwn.row {w : World} {t : VT} {u : VV} {S : Nat → Prop} (h : TOwn w t u S) : u.l ≤ maxLen ∧ u.l ≤ u.c ∧ ∃ g off, u.l ≠ 0 → u.a = some ⟨g, off, none⟩ ∧ S g ∧ ∃ cur, w.heap[g]? = some (.cells cur 31 (0, 0)) ∧ ∀ j, j < u.l → ∃ z : Int, cur[off + j * 5 + 1]? = some (.int .i64 z) := by
  cases t with
  | node k n f s l =>
    have hr := h.read
    have hsm := hr.small
    obtain ⟨vs0, hrd, -, -⟩ := hr.elems
    have hl0 := hr.fields.2.2.2.2
    have hc : u.l ≤ u.c := by obtain ⟨_, _, c, he, h1, _⟩ := hrd; cases he; rw [hl0]; exact h1
    refine ⟨by rw [hl0]; exact hsm, hc, ?_⟩
    rw [TOwn] at h
    obtain ⟨-, -, -, -, h5, -, h6⟩ := h
    rcases h6 with ⟨rfl, -⟩ | ⟨vs, col, h7, h8⟩
    · exact ⟨0, 0, fun h => absurd h5 h⟩
    · by_cases hz : u.l = 0
      · exact ⟨0, 0, fun h => absurd hz h⟩
      · obtain ⟨g, off, cap, cur, hv, hg, hh, -⟩ := h7.open (by omega)
        have ha : u.a = some ⟨g, off, none⟩ := by simp only [Value.slice.injEq] at hv; exact hv.1
        refine ⟨g, off, fun _ => ⟨ha, hg.1, cur, hh, fun j hj => ?_⟩⟩
        obtain ⟨p, hp, -⟩ := h8.get j (by omega)
        obtain ⟨-, ao, c, he, -, -, hcell⟩ := h7.reads
        simp only [Value.slice.injEq] at he
        have := hcell ⟨g, off, none⟩ (by rw [← he.1]; exact ha) (j * 5 + 1) _ (flat_get hp 1 _ rfl)
        rw [Addr.add_lit, ← Nat.add_assoc] at this
        simp only [World.cell?, hh] at this
        exact ⟨p.n, this⟩

theorem TBox.hold {w0 w w' : World} {x : Value} {V : ByteArray → List VV} {Tr : ByteArray → List VT} {Q : ByteArray → List Nat} {W : Nat → Option ByteArray} {S T : Nat → Prop} (h : TBox w0 w x V Tr Q W S T) (hc : Chg S w w') {t : VT} {p : VV} (hp : TRead w T t p) : TRead w' T t p :=
  hp.frame (fun k hk hl => hc.block k hl (h.apart k hk))

/-- What is still known when the signal has been taken. -/
structure KPack (wa w' : World) (x : Value) (V : ByteArray → List VV) (Tr : ByteArray → List VT) (Q : ByteArray → List Nat) (W : Nat → Option ByteArray) (S T : Nat → Prop) (t : VT) (v p : VV) (bw bg : Nat) : Prop where
  box : TBox wa w' x V Tr Q W S T
  hb : w'.heap[bw]? = some (.cells #[.int .i64 v.k, .int .i64 v.n, .float .f64 v.f, .string v.s, .slice v.a v.l v.c] 31 (0, 0))
  hg : w'.heap[bg]? = some (.cells #[.int .i64 p.k, .int .i64 p.n, .float .f64 p.f, .string p.s, .slice p.a p.l p.c] 31 (0, 0))
  hp : TRead w' T t p
  hv : TRead w' (fun _ => True) t v

theorem KPack.later {wa w' w'' : World} {x : Value} {V : ByteArray → List VV} {Tr : ByteArray → List VT} {Q : ByteArray → List Nat} {W : Nat → Option ByteArray} {S T : Nat → Prop} {t : VT} {v p : VV} {bw bg : Nat}
    (h : KPack wa w' x V Tr Q W S T t v p bw bg) (hb : Below w'.heap.size w' w'') : KPack wa w'' x V Tr Q W S T t v p bw bg :=
  ⟨h.box.later hb, (hb.block _ (lt_of_heap h.hb)).trans h.hb, (hb.block _ (lt_of_heap h.hg)).trans h.hg, h.hp.later hb, h.hv.later hb⟩

theorem sameT_calls (t : VT) (v u : VV) (S T : Nat → Prop) (w : World) (hv : TRead w S t v) (hu : TRead w T t u) :
    Calls Try.prog 23 #[v.val, u.val] w fun e w' => e = .returned (.bool true) ∧ Below w.heap.size w w' := by
  have := same_any t t v u S T w hv hu
  rwa [sameT_refl] at this

set_option maxRecDepth 100000 in
set_option maxHeartbeats 4000000 in
theorem keeps_main (t : VT) (v : VV) (name : ByteArray) (w : World) (hv : TRead w (fun _ => True) t v) (hf : fewT t = true) (hs : name.size ≤ 300) :
    Calls Try.prog 8 #[v.val, .string name] w fun e w' => e = .returned (.bool true) ∧ Below w.heap.size w w' := by
  have HV := Lib.hid hv
  have HFEW : Hid (∀ w', Below w.heap.size w w' → Calls Try.prog 18 #[v.val] w' fun e w'' => e = .returned (.bool true) ∧ Below w'.heap.size w' w'') := fun w' hb => by
    have := few_any t v _ w' (hv.later hb)
    rw [hf] at this
    exact this
  have hsd : decide ((300 : Int) < (name.size : Int)) = false := by simp; omega
  have HCOST : Hid (costT t ≤ 900) := by unfold fewT at hf; simp only [Bool.and_eq_true, decide_eq_true_eq] at hf; exact hf.1
  have HCL : Hid (∀ w', Below w.heap.size w w' → Calls Try.prog 20 #[v.val] w' fun e w'' => ∃ u : VV, e = .returned u.val ∧ TOwn w'' t u (fun b => w'.heap.size ≤ b ∧ b < w''.heap.size) ∧ Below w'.heap.size w' w'') := fun w' hb =>
    rclone_any t v _ w' (hv.later hb) (by have := HCOST.out; omega)
  have HWA : Hid (Below w.heap.size w (w.alloc (.cells #[.int .i64 v.k, .int .i64 v.n, .float .f64 v.f, .string v.s, .slice v.a v.l v.c] 31))) := (Below.refl _ _).alloc (Nat.le_refl _) _
  have HBX0 : Hid ((w.alloc (.cells #[.int .i64 v.k, .int .i64 v.n, .float .f64 v.f, .string v.s, .slice v.a v.l v.c] 31)).heap[w.heap.size]? = some (.cells #[.int .i64 v.k, .int .i64 v.n, .float .f64 v.f, .string v.s, .slice v.a v.l v.c] 31 (0, 0))) := heap_alloc_new w _
  clear hv hf
  simp only [VV.val] at HFEW HCL ⊢
  go_enter Try.func8, Try.ntmps8
  go_wp2_with fail
  generalize w.alloc (.cells #[.int .i64 v.k, .int .i64 v.n, .float .f64 v.f, .string v.s, .slice v.a v.l v.c] 31) = wa at *
  have HLA := Lib.hid (lt_of_heap HBX0.out)
  refine (TBox.new _).mono ?_
  rintro e w1 ⟨x, S1, rfl, hb⟩
  obtain ⟨bx, rfl⟩ := hb.ptr
  have H1 := Lib.hid hb
  have HB1 := Lib.hid ((hb.box.bel.block _ HLA.out).trans HBX0.out)
  have HW1 := Lib.hid (HWA.out.trans (hb.box.bel.mono HWA.out.size))
  obtain ⟨hx0, hx1, hx2, hx3, hx4⟩ := cells5 HB1.out
  clear hb
  go_wp2_with fail
  refine (HFEW.out _ HW1.out).mono ?_
  rintro e w2 ⟨rfl, hb2⟩
  have H2 := Lib.hid (H1.out.later hb2)
  have HB2 := Lib.hid ((hb2.block _ (lt_of_heap HB1.out)).trans HB1.out)
  have HW2 := Lib.hid (HW1.out.trans (hb2.mono HW1.out.size))
  clear hb2 hx0 hx1 hx2 hx3 hx4 H1 HB1 HW1
  obtain ⟨hx0, hx1, hx2, hx3, hx4⟩ := cells5 HB2.out
  go_wp2_with fail
  refine (HCL.out _ HW2.out).mono ?_
  rintro e w3 ⟨⟨uk, un, uf, us, ua, ul, uc⟩, rfl, hu, hb3⟩
  simp only [VV.val] at *
  have HU3 := Lib.hid hu
  have HA2 := Lib.hid H2.out.box.bel.size
  have HS1 := Lib.hid (fun k (hs : S1 k) => (H2.out.box.low k hs).2)
  have H3 := Lib.hid (H2.out.later hb3)
  have HB3 := Lib.hid ((hb3.block _ (lt_of_heap HB2.out)).trans HB2.out)
  have HW3 := Lib.hid (HW2.out.trans (hb3.mono HW2.out.size))
  have HS3 := Lib.hid hb3.size
  clear hb3 hu hx0 hx1 hx2 hx3 hx4
  have H4 := Lib.hid (H3.out.later ((Below.refl _ _).alloc (Nat.le_refl _) (.cells #[.int .i64 uk, .int .i64 un, .float .f64 uf, .string us, .slice ua ul uc] 31)))
  have HU4 : Hid (TOwn (w3.alloc (.cells #[.int .i64 uk, .int .i64 un, .float .f64 uf, .string us, .slice ua ul uc] 31)) t ⟨uk, un, uf, us, ua, ul, uc⟩ (fun b => w2.heap.size ≤ b ∧ b < w3.heap.size)) := HU3.out.frame _ (fun k _ hk => Below.heap_alloc _ _ _ hk)
  have HB4 : Hid ((w3.alloc (.cells #[.int .i64 uk, .int .i64 un, .float .f64 uf, .string us, .slice ua ul uc] 31)).heap[w.heap.size]? = _) := (Below.heap_alloc _ _ _ (lt_of_heap HB3.out)).trans HB3.out
  have HO4 : Hid ((w3.alloc (.cells #[.int .i64 uk, .int .i64 un, .float .f64 uf, .string us, .slice ua ul uc] 31)).heap[w3.heap.size]? = some (.cells #[.int .i64 uk, .int .i64 un, .float .f64 uf, .string us, .slice ua ul uc] 31 (0, 0))) := heap_alloc_new _ _
  go_wp2_with fail
  generalize w3.alloc (.cells #[.int .i64 uk, .int .i64 un, .float .f64 uf, .string us, .slice ua ul uc] 31) = w4 at *
  have HL4 := Lib.hid (lt_of_heap HO4.out)
  have HPUT := Lib.hid (H4.out.keep (name := name) (t := t) (v := ⟨uk, un, uf, us, ua, ul, uc⟩) HU4.out.read (fun k hk hs => by have := (H2.out.box.low k hs).2; omega) (by have := HCOST.out; omega) rfl (by simp))
  clear H3 HB3 HW3 HU3 H2 HB2 HW2
  refine HPUT.out.mono ?_
  rintro e w5 ⟨q, rfl, S5, T5, hb5, hS5, hT5, -, hc5⟩
  have hn1 : ¬ S1 w3.heap.size := fun hs => by have := (H4.out.box.low _ hs).2; have := HS1.out _ hs; have := HS3.out; omega
  have hn2 : ¬ S1 w.heap.size := fun hs => by have := (H4.out.box.low _ hs).1; have := HLA.out; omega
  have HO5 := Lib.hid (hc5.heap HO4.out hn1)
  have HB5 := Lib.hid (hc5.heap HB4.out hn2)
  have HU5 := Lib.hid (HU4.out.frame _ (fun k hk hl => hc5.block k hl (fun hs => by have := HS1.out _ hs; omega)))
  have H5 := Lib.hid hb5
  have HS5 := Lib.hid hS5
  have HT5 := Lib.hid hT5
  obtain ⟨hm5, hcap5, g, off, hrow⟩ := HU5.out.row
  have HROW := Lib.hid hrow
  simp only at hm5 hcap5
  unfold maxLen at hm5
  clear hb5 hS5 hT5 hc5 hn1 hn2 hrow
  have hx4 := (cells5 HO5.out).2.2.2.2
  go_wp2_with fail
  clear hx4
  go_loopw [45] (fun i w' => ∃ m : Nat, m ≤ ul ∧ i = .int .i64 m ∧ Hid (Chg (fun k => k = g ∧ ul ≠ 0) w5 w') ∧ Hid (w'.heap[w3.heap.size]? = some (.cells #[.int .i64 uk, .int .i64 un, .float .f64 uf, .string us, .slice ua ul uc] 31 (0, 0))) ∧
      Hid (ul ≠ 0 → ∃ cur, w'.heap[g]? = some (.cells cur 31 (0, 0)) ∧ ∀ j, j < ul → ∃ z : Int, cur[off + j * 5 + 1]? = some (.int .i64 z))) (fun i _ => ul - (RowKit.intOf i).toNat)
  case atStart => exact ⟨0, Nat.zero_le _, rfl, Chg.refl _ _, HO5.out, fun h => (HROW.out h).2.2⟩
  case round =>
    obtain ⟨m, hm, rfl, HC, HO, HCUR⟩ := hrel
    by_cases hlt : m < ul
    · have hne : ul ≠ 0 := by omega
      obtain ⟨hua, hg, -⟩ := HROW.out hne
      obtain rfl : ua = some ⟨g, off, none⟩ := hua
      obtain ⟨cur, hcur, hz⟩ := HCUR.out hne
      obtain ⟨z, hzm⟩ := hz m hlt
      have HZ := Lib.hid hz
      have HG := Lib.hid hcur
      have hx4 := (cells5 HO.out).2.2.2.2
      have hc1 : wr.cell? ⟨g, off + m * 5 + 1, none⟩ = some (.int .i64 z) := cellAt hcur _ hzm
      have hf1 := freeAt hcur (off + m * 5 + 1)
      have HNE : Hid (w3.heap.size ≠ g) := by have := hg.2; intro e; omega
      clear hz hcur hzm hne HCUR
      go_wp2
      generalize hzz : IntKind.i64.wrap (z + 1) = z2 at *
      go_roundw
      case rel =>
        refine ⟨m + 1, by omega, by go_num, ?_, ?_, ?_⟩
        · exact HC.out.setCell (.inl ⟨rfl, by omega⟩) _
        · exact (Below.heap_setCell _ _ _ _ HNE.out).trans HO.out
        · intro _
          refine ⟨_, heap_store HG.out _ _, fun j hj => ?_⟩
          rw [Array.getElem?_setIfInBounds]
          obtain ⟨z', hz'⟩ := HZ.out j hj
          split
          · rename_i he
            rw [← he] at hz'
            have := (Array.getElem?_eq_some_iff.1 hz').1
            rw [if_pos this]; exact ⟨_, rfl⟩
          · exact ⟨z', hz'⟩
      case measure => simp [RowKit.intOf]; omega
    · have hgl : ul ≠ 0 → w2.heap.size ≤ g ∧ g < w3.heap.size := fun h => (HROW.out h).2.1
      have hR : ∀ k, (k = g ∧ ul ≠ 0) → wa.heap.size ≤ k ∧ ¬ S5 k ∧ ¬ T5 k := by
        rintro k ⟨rfl, hk⟩
        have h1 := hgl hk
        have h2 := HA2.out
        have h3 := HL4.out
        refine ⟨by omega, fun hs => ?_, fun hs => ?_⟩
        · rcases HS5.out _ hs with h4 | h4
          · have := HS1.out _ h4; omega
          · omega
        · rcases HT5.out _ hs with h4 | h4
          · exact h4
          · omega
      have H6 := Lib.hid (H5.out.other HC.out hR)
      have HB6 := Lib.hid (HC.out.heap HB5.out (fun h => by have h1 := hgl h.2; have h2 := HA2.out; have h3 := HLA.out; have h4 := h.1; omega))
      clear hgl hR HC HO HCUR HB5 H5 HO5 HU5 HROW HU4 HB4 HO4 H4
      go_wp2_with fail
      refine (H6.out.take name 1 (t := t) (ts := []) (by rw [upd_same]; rfl)).mono ?_
      rintro e w7 ⟨⟨pk, pn, pf, ps, pa, pl, pc⟩, l, rfl, -, hp7, -, S7, T7, hb7, hS7, hT7, hTT7, hc7⟩
      have HB7 := Lib.hid (hc7.heap HB6.out (fun hs => by have := (H6.out.box.low _ hs).1; have := HLA.out; omega))
      obtain ⟨V8, Tr8, H8, hV8⟩ : ∃ V Tr, Hid (TBox wa (w7.alloc (.cells #[.int .i64 pk, .int .i64 pn, .float .f64 pf, .string ps, .slice pa pl pc] 31)) (.pointer (some ⟨bx, 0, none⟩)) V Tr (fun _ => []) (fun _ => none) S7 T7) ∧ V name = [] :=
        ⟨_, _, hb7.later ((Below.refl _ _).alloc (Nat.le_refl _) _), List.eq_nil_of_length_eq_zero (by have := (hb7.trees name).length; rw [this, upd_same]; rfl)⟩
      have HV8 := Lib.hid hV8
      have HP8 := Lib.hid ((hp7.mono hTT7).later ((Below.refl w7.heap.size w7).alloc (Nat.le_refl _) (.cells #[.int .i64 pk, .int .i64 pn, .float .f64 pf, .string ps, .slice pa pl pc] 31)))
      have HG8 : Hid ((w7.alloc (.cells #[.int .i64 pk, .int .i64 pn, .float .f64 pf, .string ps, .slice pa pl pc] 31)).heap[w7.heap.size]? = some (.cells #[.int .i64 pk, .int .i64 pn, .float .f64 pf, .string ps, .slice pa pl pc] 31 (0, 0))) := heap_alloc_new _ _
      have HB8 : Hid ((w7.alloc (.cells #[.int .i64 pk, .int .i64 pn, .float .f64 pf, .string ps, .slice pa pl pc] 31)).heap[w.heap.size]? = _) := (Below.heap_alloc _ _ _ (lt_of_heap HB7.out)).trans HB7.out
      have HS7 : Hid (∀ k, S7 k → k < w7.heap.size) := fun k hk => (hb7.box.low k hk).2
      simp only [VV.val]
      clear hp7 hb7 hS7 hT7 hTT7 hc7 hV8 HB7 H6 HB6
      go_wp2_with fail
      generalize w7.alloc (.cells #[.int .i64 pk, .int .i64 pn, .float .f64 pf, .string ps, .slice pa pl pc] 31) = w8 at *
      refine (H8.out.wait name 1 HV8.out (by decide) rfl (by simp)).mono ?_
      rintro e w9 ⟨rfl, S9, T9, hb9, hS9, hT9, hTT9, hc9⟩
      have HB9 := Lib.hid (hc9.heap HB8.out (fun hs => by have := (H8.out.box.low _ hs).1; have := HLA.out; omega))
      have HG9 := Lib.hid (hc9.heap HG8.out (fun hs => by have := HS7.out _ hs; omega))
      have HP9 := Lib.hid ((H8.out.hold hc9 HP8.out).mono hTT9)
      have hnS9 : ¬ S9 w7.heap.size := fun hs => by
        rcases hS9 _ hs with h | h
        · have := HS7.out _ h; omega
        · have := lt_of_heap HG8.out; omega
      have HNS9 := Lib.hid hnS9
      have H9 := Lib.hid hb9
      clear hb9 hS9 hT9 hTT9 hc9 hnS9 HB8 HG8 HP8 H8
      go_wp2_with fail
      refine (H9.out.wait name 2 HV8.out (by decide) (by simp) (by simp [upd_same])).mono ?_
      rintro e w10 ⟨rfl, S10, T10, hb10, hS10, hT10, hTT10, hc10⟩
      have HB10 := Lib.hid (hc10.heap HB9.out (fun hs => by have := (H9.out.box.low _ hs).1; have := HLA.out; omega))
      have HG10 := Lib.hid (hc10.heap HG9.out HNS9.out)
      have HP10 := Lib.hid ((H9.out.hold hc10 HP9.out).mono hTT10)
      obtain ⟨Q10, W10, H10, hQ10⟩ : ∃ Q W, Hid (TBox wa w10 (.pointer (some ⟨bx, 0, none⟩)) V8 Tr8 Q W S10 T10) ∧ Q name = [1, 2] := ⟨_, _, hb10, by rw [upd_same, upd_same]; rfl⟩
      have HQ10 := Lib.hid hQ10
      clear hb10 hS10 hT10 hTT10 hc10 hQ10 HB9 HG9 HP9 H9 HNS9
      go_wp2_with fail
      refine (iwaiting_any _ name _ _ _ _ _ H10.out.box.rep).mono ?_
      rintro e w11 ⟨wv, rfl, hw, hb11⟩
      rw [HQ10.out] at hw
      have HB11 := Lib.hid ((hb11.block _ (lt_of_heap HB10.out)).trans HB10.out)
      have HG11 := Lib.hid ((hb11.block _ (lt_of_heap HG10.out)).trans HG10.out)
      have HP11 := Lib.hid (HP10.out.later hb11)
      have H11 := Lib.hid (H10.out.later hb11)
      obtain ⟨g2, off2, cap2, cur2, rfl, hg2, hcur2, hn2, -, hsz2, -, hlt2⟩ := (Row.ofOwns hw).open (by decide)
      simp only [List.length_cons, List.length_nil, Nat.zero_add, Nat.reduceAdd, Nat.mul_one] at hn2 hsz2
      have HG2 := Lib.hid hg2
      have HCUR2 : Hid (∃ cur, (w11.alloc (.cells #[.slice (some ⟨g2, off2, none⟩) 2 cap2] 26)).heap[g2]? = some (.cells cur 27 (0, 0)) ∧ off2 + 2 ≤ cur.size) := ⟨cur2, (Below.heap_alloc _ _ _ hlt2).trans hcur2, by omega⟩
      have HBB : Hid ((w11.alloc (.cells #[.slice (some ⟨g2, off2, none⟩) 2 cap2] 26)).heap[w11.heap.size]? = some (.cells #[.slice (some ⟨g2, off2, none⟩) 2 cap2] 26 (0, 0))) := heap_alloc_new _ _
      have HW12 : Hid (Below w11.heap.size w11 (w11.alloc (.cells #[.slice (some ⟨g2, off2, none⟩) 2 cap2] 26))) := (Below.refl _ _).alloc (Nat.le_refl _) _
      have HLT2 := Lib.hid hlt2
      have HS11 := Lib.hid hb11.size
      clear hw hb11 hg2 hcur2 hsz2 hlt2
      go_wp2_with fail
      generalize w11.alloc (.cells #[.slice (some ⟨g2, off2, none⟩) 2 cap2] 26) = w12 at *
      go_loopw [75] (fun i w' => ∃ m : Nat, m ≤ 1 ∧ i = .int .i64 m ∧ Hid (Chg (fun k => k = g2) w12 w') ∧ Hid (w'.heap[w11.heap.size]? = some (.cells #[.slice (some ⟨g2, off2, none⟩) 2 cap2] 26 (0, 0))) ∧
          Hid (∃ cur, w'.heap[g2]? = some (.cells cur 27 (0, 0)) ∧ off2 + 2 ≤ cur.size)) (fun i _ => 1 - (RowKit.intOf i).toNat)
      case atStart => exact ⟨0, by omega, rfl, Chg.refl _ _, HBB.out, HCUR2.out⟩
      case round =>
        obtain ⟨m, hm, rfl, HC, HBo, HCu⟩ := hrel
        by_cases hlt : m < 1
        · obtain rfl : m = 0 := by omega
          have hbo := cellAt HBo.out 0 (v := .slice (some ⟨g2, off2, none⟩) 2 cap2) rfl
          go_wp2_with fail
          clear hbo
          go_loopw [81] (fun i w' => ∃ m : Nat, m ≤ 2 ∧ i = .int .i64 m ∧ Hid (Chg (fun k => k = g2) w12 w') ∧ Hid (w'.heap[w11.heap.size]? = some (.cells #[.slice (some ⟨g2, off2, none⟩) 2 cap2] 26 (0, 0))) ∧
              Hid (∃ cur, w'.heap[g2]? = some (.cells cur 27 (0, 0)) ∧ off2 + 2 ≤ cur.size)) (fun i _ => 2 - (RowKit.intOf i).toNat)
          case atStart => exact ⟨0, by omega, rfl, HC.out, HBo.out, HCu.out⟩
          case round =>
            obtain ⟨j, hj, rfl, HC', HBo', HCu'⟩ := hrel
            obtain ⟨cur, hcur, hcs⟩ := HCu'.out
            by_cases hlj : j < 2
            · have hc1 := cellAt hcur (off2 + j) (Array.getElem?_eq_getElem (by omega))
              have hf1 := freeAt hcur (off2 + j)
              have HCR := Lib.hid hcur
              have hne : w11.heap.size ≠ g2 := by have := HLT2.out; omega
              generalize cur[off2 + j]'(by omega) = old at hc1
              clear hcur
              go_wp2
              go_roundw
              case rel =>
                exact ⟨j + 1, by omega, by go_num, HC'.out.setCell (.inl rfl) _, (Below.heap_setCell _ _ _ _ hne).trans HBo'.out, _, heap_store HCR.out _ _, by simpa using hcs⟩
              case measure => simp [RowKit.intOf]; omega
            · clear hcur
              go_wp2
              go_roundw
              case rel => exact ⟨1, by omega, rfl, HC'.out, HBo'.out, HCu'.out⟩
              case measure => simp [RowKit.intOf]
        · have hR : ∀ k, k = g2 → wa.heap.size ≤ k ∧ ¬ S10 k ∧ ¬ T10 k := by
            rintro k rfl
            have h1 := HG2.out
            have h2 := H10.out.box.bel.size
            exact ⟨by omega, fun hs => by have := (H10.out.box.low _ hs).2; omega, fun hs => by have := (H10.out.low _ hs).2; omega⟩
          have H13 := (H11.out.later HW12.out).other HC.out hR
          have hg10 : w7.heap.size < w10.heap.size := lt_of_heap HG10.out
          have hw10 : w.heap.size < w10.heap.size := lt_of_heap HB10.out
          have h10 := HG2.out
          have HK := Lib.hid (KPack.mk (v := v) (p := ⟨pk, pn, pf, ps, pa, pl, pc⟩) H13 (HC.out.heap ((HW12.out.block _ (lt_of_heap HB11.out)).trans HB11.out) (by omega)) (HC.out.heap ((HW12.out.block _ (lt_of_heap HG11.out)).trans HG11.out) (by omega))
            ((HP11.out.later HW12.out).frame (fun k hk hl => HC.out.block k hl (fun e => (hR k e).2.2 hk))) (HV.out.later (HWA.out.trans (H13.box.bel.mono HWA.out.size))))
          clear hR H13 hg10 hw10 h10 HC HBo HCu HB11 HG11 HP11 H11 HB10 HG10 HP10 H10
          obtain ⟨hx0, hx1, hx2, hx3, hx4⟩ := cells5 HK.out.hb
          go_wp2_with fail
          refine (iput_nil name v _).mono ?_
          rintro e w14 ⟨rfl, hb14⟩
          have HK14 := Lib.hid (HK.out.later hb14)
          clear hb14 hx0 hx1 hx2 hx3 hx4 HK
          go_wp2_with fail
          refine (itake_nil name 1 _).mono ?_
          rintro e w15 ⟨rfl, hb15⟩
          have HK15 := Lib.hid ((HK14.out.later hb15).later ((Below.refl _ _).alloc (Nat.le_refl _) (.cells #[.int .i64 0, .int .i64 0, .float .f64 0, .string ⟨#[]⟩, .slice none 0 0] 31)))
          clear hb15 HK14
          go_wp2_with fail
          generalize w15.alloc (.cells #[.int .i64 0, .int .i64 0, .float .f64 0, .string ⟨#[]⟩, .slice none 0 0] 31) = w16 at *
          refine (alive_any _).mono ?_
          rintro e w17 ⟨rfl, hb17⟩
          have HK17 := Lib.hid (HK15.out.later hb17)
          clear hb17 HK15
          obtain ⟨hx0, hx1, hx2, hx3, hx4⟩ := cells5 HK17.out.hb
          obtain ⟨hy0, hy1, hy2, hy3, hy4⟩ := cells5 HK17.out.hg
          go_wp2_with fail
          refine (sameT_calls t ⟨pk, pn, pf, ps, pa, pl, pc⟩ v _ _ _ HK17.out.hp HK17.out.hv).mono ?_
          rintro e w18 ⟨rfl, hb18⟩
          have HK18 := Lib.hid (HK17.out.later hb18)
          clear hb18 HK17 hx0 hx1 hx2 hx3 hx4 hy0 hy1 hy2 hy3 hy4
          go_wp2_with fail
          refine (iwaiting_any _ name _ _ _ _ _ HK18.out.box.box.rep).mono ?_
          rintro e w19 ⟨wv, rfl, hw, hb19⟩
          rw [HQ10.out] at hw
          have HK19 := Lib.hid (HK18.out.later hb19)
          have HRW := Lib.hid ((reads_of_owns hw).later ((Below.refl w19.heap.size w19).alloc (Nat.le_refl _) (.cells #[.int .u64 1, .int .u64 2] 27)))
          have HK20 := Lib.hid (HK19.out.later ((Below.refl w19.heap.size w19).alloc (Nat.le_refl _) (.cells #[.int .u64 1, .int .u64 2] 27)))
          have HRS : Hid (Reads (w19.alloc (.cells #[.int .u64 1, .int .u64 2] 27)) (.slice (some ⟨w19.heap.size, 0, none⟩) 2 2) 2 1 [.int .u64 1, .int .u64 2]) := Reads.block (heap_alloc_new w19 _) 2 1 rfl
          clear hw hb19 HK18 HK19
          go_wp2_with fail
          generalize w19.alloc (.cells #[.int .u64 1, .int .u64 2] 27) = w20 at *
          refine (sequal_same _ _ [1, 2] _ HRW.out HRS.out (by decide)).mono ?_
          rintro e w21 ⟨rfl, n21, rfl⟩
          have HK21 := Lib.hid (HK20.out.later (show Below w20.heap.size w20 (w20.drewN n21) from ⟨rfl, rfl, rfl, Nat.le_refl _, fun _ _ => rfl⟩))
          clear HK20 HRW HRS
          generalize w20.drewN n21 = w21 at *
          go_wp2_with fail
          refine (iforget_nil 1 _).mono ?_
          rintro e w22 ⟨rfl, rfl⟩
          go_wp2_with fail
          refine (icount_nil name _).mono ?_
          rintro e w22 ⟨rfl, rfl⟩
          go_wp2_with fail
          refine (iwaiting_nil name _).mono ?_
          rintro e w22 ⟨rfl, rfl⟩
          go_wp2_with fail
          refine (inames_nil _).mono ?_
          rintro e w22 ⟨rfl, rfl⟩
          go_wp2
          go_ret
          exact ⟨rfl, HWA.out.trans (HK21.out.box.box.bel.mono HWA.out.size)⟩

set_option maxRecDepth 100000 in
set_option maxHeartbeats 4000000 in
theorem keeps_few (t : VT) (v : VV) (name : ByteArray) (w : World) (hv : TRead w (fun _ => True) t v) (hf : fewT t = false) :
    Calls Try.prog 8 #[v.val, .string name] w fun e w' => e = .returned (.bool true) ∧ Below w.heap.size w w' := by
  have HFEW : Hid (∀ w', Below w.heap.size w w' → Calls Try.prog 18 #[v.val] w' fun e w'' => e = .returned (.bool false) ∧ Below w'.heap.size w' w'') := fun w' hb => by
    have := few_any t v _ w' (hv.later hb)
    rw [hf] at this
    exact this
  have HWA : Hid (Below w.heap.size w (w.alloc (.cells #[.int .i64 v.k, .int .i64 v.n, .float .f64 v.f, .string v.s, .slice v.a v.l v.c] 31))) := (Below.refl _ _).alloc (Nat.le_refl _) _
  have HBX0 : Hid ((w.alloc (.cells #[.int .i64 v.k, .int .i64 v.n, .float .f64 v.f, .string v.s, .slice v.a v.l v.c] 31)).heap[w.heap.size]? = some (.cells #[.int .i64 v.k, .int .i64 v.n, .float .f64 v.f, .string v.s, .slice v.a v.l v.c] 31 (0, 0))) := heap_alloc_new w _
  clear hv hf
  simp only [VV.val] at HFEW ⊢
  go_enter Try.func8, Try.ntmps8
  go_wp2_with fail
  generalize w.alloc (.cells #[.int .i64 v.k, .int .i64 v.n, .float .f64 v.f, .string v.s, .slice v.a v.l v.c] 31) = wa at *
  have HLA := Lib.hid (lt_of_heap HBX0.out)
  refine (TBox.new _).mono ?_
  rintro e w1 ⟨x, S1, rfl, hb⟩
  obtain ⟨bx, rfl⟩ := hb.ptr
  have HB1 := Lib.hid ((hb.box.bel.block _ HLA.out).trans HBX0.out)
  have HW1 := Lib.hid (HWA.out.trans (hb.box.bel.mono HWA.out.size))
  obtain ⟨hx0, hx1, hx2, hx3, hx4⟩ := cells5 HB1.out
  clear hb
  go_wp2_with fail
  refine (HFEW.out _ HW1.out).mono ?_
  rintro e w2 ⟨rfl, hb2⟩
  have HW2 := Lib.hid (HW1.out.trans (hb2.mono HW1.out.size))
  clear hb2 hx0 hx1 hx2 hx3 hx4 HB1 HW1
  go_wp2_with fail
  refine (alive_any _).mono ?_
  rintro e w3 ⟨rfl, hb3⟩
  go_wp2
  go_ret
  exact ⟨rfl, HW2.out.trans (hb3.mono HW2.out.size)⟩

set_option maxRecDepth 100000 in
set_option maxHeartbeats 4000000 in
theorem keeps_long (t : VT) (v : VV) (name : ByteArray) (w : World) (hv : TRead w (fun _ => True) t v) (hf : fewT t = true) (hs : 300 < name.size) :
    Calls Try.prog 8 #[v.val, .string name] w fun e w' => e = .returned (.bool true) ∧ Below w.heap.size w w' := by
  have HFEW : Hid (∀ w', Below w.heap.size w w' → Calls Try.prog 18 #[v.val] w' fun e w'' => e = .returned (.bool true) ∧ Below w'.heap.size w' w'') := fun w' hb => by
    have := few_any t v _ w' (hv.later hb)
    rw [hf] at this
    exact this
  have hsd : decide ((300 : Int) < (name.size : Int)) = true := by simp; omega
  have HWA : Hid (Below w.heap.size w (w.alloc (.cells #[.int .i64 v.k, .int .i64 v.n, .float .f64 v.f, .string v.s, .slice v.a v.l v.c] 31))) := (Below.refl _ _).alloc (Nat.le_refl _) _
  have HBX0 : Hid ((w.alloc (.cells #[.int .i64 v.k, .int .i64 v.n, .float .f64 v.f, .string v.s, .slice v.a v.l v.c] 31)).heap[w.heap.size]? = some (.cells #[.int .i64 v.k, .int .i64 v.n, .float .f64 v.f, .string v.s, .slice v.a v.l v.c] 31 (0, 0))) := heap_alloc_new w _
  clear hv hf
  simp only [VV.val] at HFEW ⊢
  go_enter Try.func8, Try.ntmps8
  go_wp2_with fail
  generalize w.alloc (.cells #[.int .i64 v.k, .int .i64 v.n, .float .f64 v.f, .string v.s, .slice v.a v.l v.c] 31) = wa at *
  have HLA := Lib.hid (lt_of_heap HBX0.out)
  refine (TBox.new _).mono ?_
  rintro e w1 ⟨x, S1, rfl, hb⟩
  obtain ⟨bx, rfl⟩ := hb.ptr
  have HB1 := Lib.hid ((hb.box.bel.block _ HLA.out).trans HBX0.out)
  have HW1 := Lib.hid (HWA.out.trans (hb.box.bel.mono HWA.out.size))
  obtain ⟨hx0, hx1, hx2, hx3, hx4⟩ := cells5 HB1.out
  clear hb
  go_wp2_with fail
  refine (HFEW.out _ HW1.out).mono ?_
  rintro e w2 ⟨rfl, hb2⟩
  have HW2 := Lib.hid (HW1.out.trans (hb2.mono HW1.out.size))
  clear hb2 hx0 hx1 hx2 hx3 hx4 HB1 HW1
  go_wp2_with fail
  refine (alive_any _).mono ?_
  rintro e w3 ⟨rfl, hb3⟩
  go_wp2
  go_ret
  exact ⟨rfl, HW2.out.trans (hb3.mono HW2.out.size)⟩

theorem keeps_any (t : VT) (v : VV) (name : ByteArray) (w : World) (hv : TRead w (fun _ => True) t v) :
    Calls Try.prog 8 #[v.val, .string name] w fun e w' => e = .returned (.bool true) ∧ Below w.heap.size w w' := by
  cases hf : fewT t with
  | false => exact keeps_few t v name w hv hf
  | true =>
    rcases Nat.lt_or_ge 300 name.size with h | h
    · exact keeps_long t v name w hv hf h
    · exact keeps_main t v name w hv hf h
end Go.Proofs.Ytbofbboogmeneaa
