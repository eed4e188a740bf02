/- OpenLists, OpenOps8, Play8, RefSeg, ScBegI, TrimI -/
import Derived.Test.YtgdmdbdljmlkkaaGreatDoorTz38
import Derived.Test.YtgdmdbdljmlkkaaGreatDoorTz34
import Derived.Test.YtgdmdbdljmlkkaaGreatDoorTz32
import Derived.Test.YtgdmdbdljmlkkaaGreatDoorTz35
import Derived.ChangeArms
import Derived.Deep.Slices
set_option maxRecDepth 100000
set_option linter.unusedVariables false
set_option linter.unusedSimpArgs false
namespace Go.Proofs.YtgdmdbdljmlkkaaGreatDoor
open Go.RowKit Go.ChangeShapes Go.WideShapes Go.Deep
theorem list_of {α : Type} {p : Nat → α → Prop} : ∀ n : Nat, (∀ i, i < n → ∃ t, p i t) → ∃ ts : List α, ts.length = n ∧ ∀ i (h1 : i < ts.length), p i ts[i]
 | 0, _ => ⟨[], rfl, fun i h1 => absurd h1 (Nat.not_lt_zero i)⟩
 | n + 1, h => by
   obtain ⟨ts, h1, h3⟩ := list_of n (fun i hi => h i (by omega))
   obtain ⟨t, hp⟩ := h n (by omega)
   refine ⟨ts ++ [t], by simp [h1], fun i hi1 => ?_⟩
   rcases Nat.lt_or_ge i n with hlt | hge
   · rw [List.getElem_append_left (by omega)]
     exact h3 i _
   · have : i = n := by simp at hi1; omega
     subst this
     simp only [List.getElem_append_right (Nat.le_of_eq h1), h1, Nat.sub_self, List.getElem_cons_zero]
     exact hp
theorem open_bytes {H : Type} {enc : TypeId × Value → H} {W : World} {sp : Nat → Bool} {held : Bool} {base fuel : Nat} {c : Value} {x : DataW H × List MemPlace} (hf : DataW.trod enc Tryz.prog W base sp held fuel 72 [c] = some x) :
   ∃ (b : List UInt8) (a : Option Addr) (k : Nat), c = .slice a b.length k ∧ Reads W (.slice a b.length k) b.length 1 (byts b) ∧ (∀ ad, a = some ad → 0 < b.length → ad.block < W.heap.size) ∧ b.length ≤ maxLen := by
 rcases open_ints Tryz.underlying72 Tryz.underlying5 cellsU8 hf with ⟨hcs, hx⟩ | ⟨a, len, cap, zs, hcs, _, hl, hm, hz, hx, hcell, hwz⟩
 · simp only [List.cons.injEq, and_true] at hcs
   subst hcs
   exact ⟨[], none, 0, rfl, Reads.nil _ _, (fun ad h _ => by cases h), Nat.zero_le _⟩
 · simp only [List.cons.injEq, and_true] at hcs
   subst hcs
   have hzl : len ≤ zs.length := by rw [hz]; split <;> omega
   have hlen : ((zs.take len).map fun n => UInt8.ofNat n.toNat).length = len := by simp; omega
   have hrd : Reads W (.slice (some a) len cap) len 1 (byts ((zs.take len).map fun n => UInt8.ofNat n.toNat)) := by
     refine ⟨by rw [byts_length, hlen, Nat.mul_one], _, cap, rfl, hl, (fun h => by cases h), fun ad had j u hu => ?_⟩
     cases had
     have hj : j < len := by have := (List.getElem?_eq_some_iff.1 hu).1; rw [byts_length, hlen] at this; exact this
     rw [hcell j (by omega), ← hu, byts, List.getElem?_map, List.getElem?_map, List.getElem?_take_of_lt hj, List.getElem?_eq_getElem (show j < zs.length by omega)]
     have hb := range_u8 hwz j
     rw [List.getElem?_eq_getElem (show j < zs.length by omega)] at hb
     simp only [Option.getD_some] at hb
     simp only [Option.map_some, u8v, List.getD_eq_getElem?_getD, List.getElem?_eq_getElem (show j < zs.length by omega), Option.getD_some]
     congr 2
     simp only [UInt8.toNat_ofNat']
     omega
   refine ⟨(zs.take len).map fun n => UInt8.ofNat n.toNat, some a, cap, by rw [hlen], by rw [hlen]; exact hrd, fun ad had h0 => ?_, by rw [hlen]; omega⟩
   cases had
   rw [hlen] at h0
   exact World.block_lt_of_cell? W a (by have := hcell 0 (by omega); simpa [Addr.add] using this)
theorem open_lists0 {H : Type} {enc : TypeId × Value → H} {W : World} {base : Nat} {sp : Nat → Bool} {held : Bool} {v : Value} {fuel : Nat} {d : DataW H} {p : List MemPlace} (hf : DataW.trod enc Tryz.prog W base sp held fuel 42 [v] = some (d, p))
   (hwt : ∀ n ∈ d.weights Tryz.prog 42, n ≤ 140737488351232) : ∃ (P : List SL) (a : Option Addr) (c : Nat), v = .slice a P.length c ∧ SLs W (.slice a P.length c) P ∧ P.length ≤ 5864062014805 ∧ ∀ x ∈ P, x.l.length ≤ 9223372036854775807 := by
 have hC : Tryz.prog.cellsOf 72 = 1 := by kernel_rfl
 rcases DataW.trod_slice Tryz.underlying42 hf with ⟨h4, -⟩ | ⟨a, len, cap, elems, rest, n', rfl, h4, hx, hb, hlc, hcm, hel, hget, -⟩
 · simp only [List.cons.injEq, and_true] at h4
   subst h4
   exact ⟨[], none, 0, rfl, ⟨Reads.nil _ _, by simp⟩, Nat.zero_le _, by simp⟩
 · simp only [List.cons.injEq, and_true] at h4
   subst h4
   obtain ⟨hd, -⟩ := Prod.mk.inj hx
   subst hd
   have hB : Tryz.prog.bytesOf 72 = 24 := by kernel_rfl
   have hwu : (DataW.slice (elems.map (·.1)) (rest.map (·.1))).weights Tryz.prog 42 = ((elems.map (·.1)).length + (rest.map (·.1)).length) * Tryz.prog.bytesOf 72 :: (DataW.weightsAll Tryz.prog 72 (elems.map (·.1)) ++ DataW.weightsAll Tryz.prog 72 (rest.map (·.1))) := by
     rw [DataW.weights, Tryz.underlying42]
   have hw0 : len * 24 ≤ 140737488351232 := by
     have := hwt _ (by rw [hwu]; exact List.mem_cons_self ..)
     rw [hB, List.length_map, hel] at this
     omega
   obtain ⟨l, l1, hall⟩ := list_of (p := fun i (o : SL) => (Reads W o.v o.l.length 1 (byts o.l) ∧ o.l.length ≤ maxLen) ∧ W.cell? (a.add i) = some o.v) len (fun i hi => by
     have := hget i hi
     rw [List.getElem?_eq_getElem (by rw [hel]; exact hi), hC] at this
     obtain ⟨cs', h1, h2⟩ := Option.bind_eq_some_iff.1 this
     obtain ⟨_, hlen, hcell⟩ := World.cells?_some h1
     match cs', hlen, h1, h2, hcell with
     | [c], _, h1, h2, hcell =>
       obtain ⟨b, ba, k, rfl, hr, -, hl⟩ := open_bytes h2
       refine ⟨⟨.slice ba b.length k, b⟩, ⟨hr, hl⟩, ?_⟩
       have := hcell 0 (by decide)
       rw [add_add, Nat.add_zero] at this
       simpa using this)
   subst l1
   refine ⟨l, some a, cap, rfl, ⟨⟨by simp, some a, cap, rfl, hlc, (fun h => by cases h), fun ad had j u hu => ?_⟩, fun x hx => ?_⟩, by omega, fun x hx => ?_⟩
   · cases had
     rw [List.getElem?_map] at hu
     obtain ⟨x, hx1, rfl⟩ := Option.map_eq_some_iff.1 hu
     obtain ⟨hj, rfl⟩ := List.getElem?_eq_some_iff.1 hx1
     exact (hall j hj).2
   · obtain ⟨i, hi, rfl⟩ := List.mem_iff_getElem.1 hx
     exact (hall i hi).1.1
   · obtain ⟨i, hi, rfl⟩ := List.mem_iff_getElem.1 hx
     have := (hall i hi).1.2
     unfold maxLen at this
     omega
theorem open_pair {H : Type} {enc : TypeId × Value → H} {W : World} {base b0 : Nat} {sp : Nat → Bool} {held : Bool} {v : Value} {d : DataW H} {p : List MemPlace} (hval : Value.okWide Tryz.prog W .any b0 80 v)
   (h : DataW.Trod enc Tryz.prog W base sp held 80 v d p) (hwt : ∀ n ∈ d.weights Tryz.prog 80, n ≤ 140737488351232) :
   ∃ (P : List SL) (a : Option Addr) (c : Nat) (P2 : List SL) (a2 : Option Addr) (c2 : Nat), v = .agg #[.slice a P.length c, .slice a2 P2.length c2] ∧ (SLs W (.slice a P.length c) P ∧ P.length ≤ 5864062014805 ∧ ∀ x ∈ P, x.l.length ≤ 9223372036854775807) ∧ (SLs W (.slice a2 P2.length c2) P2 ∧ P2.length ≤ 5864062014805 ∧ ∀ x ∈ P2, x.l.length ≤ 9223372036854775807) := by
 obtain ⟨cs, rfl, hcs⟩ : ∃ cs, v = .agg cs ∧ cs.size = Tryz.prog.cellsOf 80 := by
   simp only [Value.okWide, Tryz.underlying80] at hval
   obtain ⟨cs, h1, h2, _⟩ := hval
   exact ⟨cs, h1, h2⟩
 have hC : Tryz.prog.cellsOf 80 = 2 := by kernel_rfl
 have hC1 : Tryz.prog.cellsOf 42 = 1 := by kernel_rfl
 rw [hC] at hcs
 obtain ⟨c0, c1, rfl⟩ : ∃ c0 c1, cs = #[c0, c1] := by
   obtain ⟨l⟩ := cs
   match l, hcs with
   | [c0, c1], _ => exact ⟨c0, c1, rfl⟩
 obtain ⟨fuel, hf⟩ := h
 obtain ⟨xs, m, rfl, hx, -, hlen, hget⟩ := DataW.trod_array Tryz.underlying80 hf
 have g0 := hget 0 (by omega)
 have g1 := hget 1 (by omega)
 rw [hC1] at g0 g1
 match xs, hlen, hx, g0, g1 with
 | [(d0, p0), (d1, p1)], _, hx, g0, g1 =>
   simp only [Prod.mk.injEq] at hx
   obtain ⟨rfl, -⟩ := hx
   have hw : (DataW.agg [d0, d1]).weights Tryz.prog 80 = d0.weights Tryz.prog 42 ++ (d1.weights Tryz.prog 42 ++ []) := by
     rw [DataW.weights, Tryz.underlying80]
     rfl
   have hwt2 : ∀ n ∈ (DataW.agg [d0, d1]).weights Tryz.prog 80, n ≤ 140737488351232 := hwt
   rw [hw, List.append_nil] at hwt2
   obtain ⟨P, a, c, rfl, h1⟩ := open_lists0 (v := c0) g0 (fun n hn => hwt2 n (List.mem_append_left _ hn))
   obtain ⟨P2, a2, c2, rfl, h2⟩ := open_lists0 (v := c1) g1 (fun n hn => hwt2 n (List.mem_append_right _ hn))
   exact ⟨P, a, c, P2, a2, c2, rfl, h1, h2⟩
end Go.Proofs.YtgdmdbdljmlkkaaGreatDoor
namespace Go.Proofs.YtgdmdbdljmlkkaaGreatDoor
open Go.RowKit
theorem rputL_any {L M : LS} (hR : RelL L M) {s n k : Nat} (hb : BndL L s n k) (hs : s ≤ 1000000) (hn : n ≤ 1000) (hk : k ≤ 1000000) (v : Value) (R : List RF) (T : Nat → Prop) (ra : Option Addr) (rc : Nat) (r : List UInt8) (w : World) (h : RLi w v R T) (hf : R.map RF.f = M.D.files)
   (hr : Reads w (.slice ra r.length rc) r.length 1 (byts r)) (hl : r.length ≤ 2000) :
   Calls Tryz.prog 39 #[rlog v M, .slice ra r.length rc] w (MPst w T (putG opsF M r)) := by
 have hRn : R.length ≤ n := by
   have h1 := congrArg List.length hf
   rw [List.length_map] at h1
   rw [h1, ← hR.rel.len]; exact hb.d.len
 have hRs : sumR R ≤ s := by rw [sumR_f, hf, ← hR.rel.sum]; exact hb.d.sum
 have hp : 0 ≤ M.D.plan ∧ M.D.plan ≤ 9223372036854775807 := by rw [← hR.rel.plan]; exact hb.d.plan
 have hz := hb.size
 have hw := hb.waiting
 have hn0 := hb.n0
 rw [hR.size] at hz
 rw [hR.waiting] at hw
 rw [hR.n] at hn0
 by_cases h1 : r = []
 · exact rput_stay M v R T ra rc r w h hf (by omega) hp (by omega) hr (by omega) (by omega) (by omega) (.inl h1)
 by_cases h2 : M.most < (r.length : Int) + 8
 · exact rput_stay M v R T ra rc r w h hf (by omega) hp (by omega) hr (by omega) (by omega) (by omega) (.inr (.inl h2))
 by_cases h3 : 0 < M.size ∧ M.most < M.size + (r.length + 8)
 · have hsy := (rel_syn hR.rel (nameI M.n)).2
   have hbs : Bnd (opsD.syn L.D (nameI M.n)).1 s n := bnd_sync hb.d (nameI M.n)
   have hro := (rel_rot hR).2
   have hbr := bnd_rot hb
   refine rput_next M v R T ra rc r w h hf (by omega) hp (by omega) hr (by omega) (by omega) (by omega) ?_ ?_ h1 (by omega) h2 h3.1 h3.2
   · have e1 := hsy.len
     have e2 := hsy.sum
     have e3 := hsy.plan
     have e4 := hbs.len
     have e5 := hbs.sum
     have e6 := hbs.plan
     show (opsF.syn M.D (nameI M.n)).1.files.length ≤ 5000 ∧ sumD (opsF.syn M.D (nameI M.n)).1.files ≤ 1000000000 ∧ 0 ≤ (opsF.syn M.D (nameI M.n)).1.plan ∧ (opsF.syn M.D (nameI M.n)).1.plan ≤ 9223372036854775807
     rw [← e1, ← e2, ← e3]
     omega
   · have e1 := hro.rel.len
     have e2 := hro.rel.sum
     have e3 := hro.rel.plan
     have e4 := hbr.d.len
     have e5 := hbr.d.sum
     have e6 := hbr.d.plan
     have e7 := hbr.size
     have e8 := hbr.waiting
     rw [hro.size] at e7
     rw [hro.waiting] at e8
     rw [← e1, ← e2, ← e3]
     refine ⟨⟨by omega, e6, by omega⟩, ⟨by omega, by omega⟩, by omega, by omega⟩
 · exact rput_stay M v R T ra rc r w h hf (by omega) hp (by omega) hr (by omega) (by omega) (by omega) (.inr (.inr h3))
abbrev rcell (M : LS) (a : Option Addr) (n c : Nat) : Array Value := #[.int .i64 M.D.room, .slice a n c, .int .i64 M.D.plan, .bool M.D.down, .int .i64 M.most, .int .i64 M.n, .int .i64 M.size, .int .i64 M.waiting]
structure DuelR (w0 w : World) (bl bx : Nat) (L M : LS) (a : Option Addr) (c : Nat) (R : List RF) (S T : Nat → Prop) (s q : Nat) : Prop where
 log : LAt w bl (.pointer (some ⟨bx, 0, none⟩)) L S
 lst : RLi w (.slice a R.length c) R T
 files : R.map RF.f = M.D.files
 rel : RelL L M
 bnd : BndL L s (q + 1) (2 * q + 1)
 bel : Below w0.heap.size w0 w
 sS : ∀ k, S k → w0.heap.size ≤ k ∧ k < w.heap.size
 sT : ∀ k, T k → w0.heap.size ≤ k ∧ k < w.heap.size ∧ ¬ S k
 most : -1000000 ≤ L.most ∧ L.most ≤ 1000000
structure DuelL (w0 w : World) (bl bx B : Nat) (L M : LS) (a : Option Addr) (c : Nat) (R : List RF) (S T : Nat → Prop) (s q : Nat) : Prop where
 d : DuelR w0 w bl bx L M a c R S T s q
 blk : w.heap[B]? = some (.cells (rcell M a R.length c) 34 (0, 0))
 bS : ¬ S B
 bT : ¬ T B
 bB : w0.heap.size ≤ B
section
variable {w0 w w' : World} {bl bx B : Nat} {L M : LS} {a : Option Addr} {c : Nat} {R : List RF} {S T : Nat → Prop} {s q : Nat}
theorem DuelR.later (h : DuelR w0 w bl bx L M a c R S T s q) (hb : Below w.heap.size w w') : DuelR w0 w' bl bx L M a c R S T s q where
 log := h.log.later hb
 lst := h.lst.below hb
 files := h.files
 rel := h.rel
 bnd := h.bnd
 bel := h.bel.trans (hb.mono h.bel.size)
 sS := fun k hk => ⟨(h.sS k hk).1, Nat.lt_of_lt_of_le (h.sS k hk).2 hb.size⟩
 sT := fun k hk => ⟨(h.sT k hk).1, Nat.lt_of_lt_of_le (h.sT k hk).2.1 hb.size, (h.sT k hk).2.2⟩
 most := h.most
theorem DuelL.later (h : DuelL w0 w bl bx B L M a c R S T s q) (hb : Below w.heap.size w w') : DuelL w0 w' bl bx B L M a c R S T s q :=
 ⟨h.d.later hb, (hb.block _ (lt_of_heap h.blk)).trans h.blk, h.bS, h.bT, h.bB⟩
theorem DuelL.acted {w1 w2 w3 : World} {L' M' : LS} {a' : Option Addr} {c' : Nat} {R' : List RF} {s' : Nat} (h : DuelL w0 w bl bx B L M a c R S T s q)
   (hd : LAt w1 bl (.pointer (some ⟨bx, 0, none⟩)) L' (fun k => S k ∨ w.heap.size ≤ k)) (hc : Chg S w w1) (hr : RLi w2 (.slice a' R'.length c') R' (fun k => T k ∨ w1.heap.size ≤ k)) (hb : Below w1.heap.size w1 w2) (hf : R'.map RF.f = M'.D.files) (hrel : RelL L' M') (hbn : BndL L' s' (q + 2) (2 * q + 3))
   (hm : L'.most = L.most) (hst : Chg (fun k => k = B) w2 w3) (hB3 : w3.heap[B]? = some (.cells (rcell M' a' R'.length c') 34 (0, 0))) :
   DuelL w0 w3 bl bx B L' M' a' c' R' (fun k => (S k ∨ w.heap.size ≤ k) ∧ k < w1.heap.size) (fun k => (T k ∨ w1.heap.size ≤ k) ∧ k < w2.heap.size) s' (q + 1) := by
 have hB := lt_of_heap h.blk
 have h0 := h.d.bel.size
 have h1 := hc.size
 have h2 := hb.size
 have h3 := hst.size
 have hBS := h.bS
 have hBT := h.bT
 refine ⟨⟨?_, ?_, hf, hrel, hbn.more (Nat.le_refl _) (by omega) (by omega), ?_, ?_, ?_, by rw [hm]; exact h.d.most⟩, hB3, ?_, ?_, h.bB⟩
 · refine (hd.tight.frame (fun k hk hl => hb.block k hl)).frame (fun k hk hl => hst.block k hl (fun e => ?_))
   have e2 : k = B := e
   subst e2
   rcases hk.1 with h9 | h9
   · exact hBS h9
   · omega
 · refine hr.tight.frame (fun k hk hl => hst.block k hl (fun e => ?_))
   have e2 : k = B := e
   subst e2
   rcases hk.1 with h9 | h9
   · exact hBT h9
   · omega
 · exact h.d.bel.trans ((hc.toBelow (B := w0.heap.size) h0 (fun k hk e => by have := (h.d.sS k e).1; omega)).trans ((hb.mono (by omega)).trans (hst.toBelow (by omega) (fun k hk e => by have e2 : k = B := e; have := h.bB; omega))))
 · rintro k ⟨hk | hk, hl⟩
   · exact ⟨(h.d.sS k hk).1, by omega⟩
   · exact ⟨by omega, by omega⟩
 · rintro k ⟨hk | hk, hl⟩
   · have h9 := h.d.sT k hk
     exact ⟨h9.1, by omega, fun e => by rcases e.1 with e | e; exact h9.2.2 e; omega⟩
   · exact ⟨by omega, by omega, fun e => by have := e.2; omega⟩
 · rintro ⟨hk | hk, hl⟩
   · exact hBS hk
   · omega
 · rintro ⟨hk | hk, hl⟩
   · exact hBT hk
   · omega
end
theorem putG_most (L : LS) (r : List UInt8) : (putG opsD L r).1.most = L.most := by
 have h1 : (rotG opsD L).1.most = L.most := by unfold rotG; repeat (first | rfl | split)
 have h2 : ∀ K : LS, (appG opsD K r).1.most = K.most := fun K => by unfold appG; repeat (first | rfl | split)
 unfold putG
 split
 · rfl
 · split
   · rfl
   · split
     · split
       · exact h1
       · rw [h2]; exact h1
     · exact h2 _
theorem log_store {w : World} {B : Nat} {x0 x1 x2 x3 x4 x5 x6 x7 : Value} (h : w.heap[B]? = some (.cells #[x0, x1, x2, x3, x4, x5, x6, x7] 34 (0, 0))) (y0 y1 y2 y3 y4 y5 y6 y7 : Value) :
   ((((((((w.setCell ⟨B, 0, none⟩ y0).setCell ⟨B, 1, none⟩ y1).setCell ⟨B, 2, none⟩ y2).setCell ⟨B, 3, none⟩ y3).setCell ⟨B, 4, none⟩ y4).setCell ⟨B, 5, none⟩ y5).setCell ⟨B, 6, none⟩ y6).setCell ⟨B, 7, none⟩ y7).heap[B]? = some (.cells #[y0, y1, y2, y3, y4, y5, y6, y7] 34 (0, 0)) ∧ Chg (fun k => k = B) w ((((((((w.setCell ⟨B, 0, none⟩ y0).setCell ⟨B, 1, none⟩ y1).setCell ⟨B, 2, none⟩ y2).setCell ⟨B, 3, none⟩ y3).setCell ⟨B, 4, none⟩ y4).setCell ⟨B, 5, none⟩ y5).setCell ⟨B, 6, none⟩ y6).setCell ⟨B, 7, none⟩ y7) := by
 have H0 : (w.setCell ⟨B, 0, none⟩ y0).heap[B]? = some (.cells #[y0, x1, x2, x3, x4, x5, x6, x7] 34 (0, 0)) := heap_store h 0 y0
 have H1 : ((w.setCell ⟨B, 0, none⟩ y0).setCell ⟨B, 1, none⟩ y1).heap[B]? = some (.cells #[y0, y1, x2, x3, x4, x5, x6, x7] 34 (0, 0)) := heap_store H0 1 y1
 have H2 : (((w.setCell ⟨B, 0, none⟩ y0).setCell ⟨B, 1, none⟩ y1).setCell ⟨B, 2, none⟩ y2).heap[B]? = some (.cells #[y0, y1, y2, x3, x4, x5, x6, x7] 34 (0, 0)) := heap_store H1 2 y2
 have H3 : ((((w.setCell ⟨B, 0, none⟩ y0).setCell ⟨B, 1, none⟩ y1).setCell ⟨B, 2, none⟩ y2).setCell ⟨B, 3, none⟩ y3).heap[B]? = some (.cells #[y0, y1, y2, y3, x4, x5, x6, x7] 34 (0, 0)) := heap_store H2 3 y3
 have H4 : (((((w.setCell ⟨B, 0, none⟩ y0).setCell ⟨B, 1, none⟩ y1).setCell ⟨B, 2, none⟩ y2).setCell ⟨B, 3, none⟩ y3).setCell ⟨B, 4, none⟩ y4).heap[B]? = some (.cells #[y0, y1, y2, y3, y4, x5, x6, x7] 34 (0, 0)) := heap_store H3 4 y4
 have H5 : ((((((w.setCell ⟨B, 0, none⟩ y0).setCell ⟨B, 1, none⟩ y1).setCell ⟨B, 2, none⟩ y2).setCell ⟨B, 3, none⟩ y3).setCell ⟨B, 4, none⟩ y4).setCell ⟨B, 5, none⟩ y5).heap[B]? = some (.cells #[y0, y1, y2, y3, y4, y5, x6, x7] 34 (0, 0)) := heap_store H4 5 y5
 have H6 : (((((((w.setCell ⟨B, 0, none⟩ y0).setCell ⟨B, 1, none⟩ y1).setCell ⟨B, 2, none⟩ y2).setCell ⟨B, 3, none⟩ y3).setCell ⟨B, 4, none⟩ y4).setCell ⟨B, 5, none⟩ y5).setCell ⟨B, 6, none⟩ y6).heap[B]? = some (.cells #[y0, y1, y2, y3, y4, y5, y6, x7] 34 (0, 0)) := heap_store H5 6 y6
 have H7 : ((((((((w.setCell ⟨B, 0, none⟩ y0).setCell ⟨B, 1, none⟩ y1).setCell ⟨B, 2, none⟩ y2).setCell ⟨B, 3, none⟩ y3).setCell ⟨B, 4, none⟩ y4).setCell ⟨B, 5, none⟩ y5).setCell ⟨B, 6, none⟩ y6).setCell ⟨B, 7, none⟩ y7).heap[B]? = some (.cells #[y0, y1, y2, y3, y4, y5, y6, y7] 34 (0, 0)) := heap_store H6 7 y7
 have C0 : Chg (fun k => k = B) w (w.setCell ⟨B, 0, none⟩ y0) := (Chg.refl (fun k => k = B) w).setCell (p := ⟨B, 0, none⟩) (.inl rfl) y0
 have C1 : Chg (fun k => k = B) w ((w.setCell ⟨B, 0, none⟩ y0).setCell ⟨B, 1, none⟩ y1) := C0.setCell (p := ⟨B, 1, none⟩) (.inl rfl) y1
 have C2 : Chg (fun k => k = B) w (((w.setCell ⟨B, 0, none⟩ y0).setCell ⟨B, 1, none⟩ y1).setCell ⟨B, 2, none⟩ y2) := C1.setCell (p := ⟨B, 2, none⟩) (.inl rfl) y2
 have C3 : Chg (fun k => k = B) w ((((w.setCell ⟨B, 0, none⟩ y0).setCell ⟨B, 1, none⟩ y1).setCell ⟨B, 2, none⟩ y2).setCell ⟨B, 3, none⟩ y3) := C2.setCell (p := ⟨B, 3, none⟩) (.inl rfl) y3
 have C4 : Chg (fun k => k = B) w (((((w.setCell ⟨B, 0, none⟩ y0).setCell ⟨B, 1, none⟩ y1).setCell ⟨B, 2, none⟩ y2).setCell ⟨B, 3, none⟩ y3).setCell ⟨B, 4, none⟩ y4) := C3.setCell (p := ⟨B, 4, none⟩) (.inl rfl) y4
 have C5 : Chg (fun k => k = B) w ((((((w.setCell ⟨B, 0, none⟩ y0).setCell ⟨B, 1, none⟩ y1).setCell ⟨B, 2, none⟩ y2).setCell ⟨B, 3, none⟩ y3).setCell ⟨B, 4, none⟩ y4).setCell ⟨B, 5, none⟩ y5) := C4.setCell (p := ⟨B, 5, none⟩) (.inl rfl) y5
 have C6 : Chg (fun k => k = B) w (((((((w.setCell ⟨B, 0, none⟩ y0).setCell ⟨B, 1, none⟩ y1).setCell ⟨B, 2, none⟩ y2).setCell ⟨B, 3, none⟩ y3).setCell ⟨B, 4, none⟩ y4).setCell ⟨B, 5, none⟩ y5).setCell ⟨B, 6, none⟩ y6) := C5.setCell (p := ⟨B, 6, none⟩) (.inl rfl) y6
 have C7 : Chg (fun k => k = B) w ((((((((w.setCell ⟨B, 0, none⟩ y0).setCell ⟨B, 1, none⟩ y1).setCell ⟨B, 2, none⟩ y2).setCell ⟨B, 3, none⟩ y3).setCell ⟨B, 4, none⟩ y4).setCell ⟨B, 5, none⟩ y5).setCell ⟨B, 6, none⟩ y6).setCell ⟨B, 7, none⟩ y7) := C6.setCell (p := ⟨B, 7, none⟩) (.inl rfl) y7
 exact ⟨H7, C7⟩
theorem openSR_new (room : Int) : openS doR ⟨room, [], 0, false⟩ = (⟨room, [⟨nameI 1, [], 0⟩], 0, false⟩, 0) := by
 unfold openS
 have hf : findS ⟨room, [], 0, false⟩ = FR.bad 0 := by
   unfold findS
   rw [if_neg (by simp)]
   unfold findG
   rw [if_pos (by unfold segsD; rfl)]
 rw [hf]
 have hw : wipeG doR ⟨room, [], 0, false⟩ [cutNm, newNm] = (⟨room, [], 0, false⟩, 0) := rfl
 unfold openG
 rw [if_neg (by simp [FR.bad]), hw]
 unfold seqG endG
 rw [if_neg (by simp), if_pos (show (FR.bad 0).last = 0 from rfl)]
 exact doF_new room
structure RecsAt (w : World) (S : Nat → Prop) (va : Option Addr) (vc : Nat) (X : List RX) : Prop where
 row : Row w 72 1 (.slice va X.length vc) X.length (X.map RX.v) (fun k => ¬ S k)
 each : ∀ y ∈ X, Row w 5 1 y.v y.l.length (byts y.l) (fun k => ¬ S k)
theorem RecsAt.sls {w : World} {S : Nat → Prop} {va : Option Addr} {vc : Nat} {X : List RX} (h : RecsAt w S va vc X) : SLs w (.slice va (X.map slOf).length vc) (X.map slOf) := by
 rw [List.length_map]
 exact sls_rx (B := 0) h.row (fun x hx => (h.each x hx).mono (fun k _ => Nat.zero_le k))
theorem openP_ok {w w' : World} {x : Value} {S : Nat → Prop} {most : Int} {f : FR} {r : DS × Int} {e : Ending} (h : OpenP w x S most f r e w') (h0 : r.2 = 0) :
   ∃ SS bl ra rc, ∃ X : List RX, e = .returned (.tuple #[.pointer (some ⟨bl, 0, none⟩), .slice ra X.length rc, .int .i64 0]) ∧ DRep w' x r.1 SS ∧ (∀ k, SS k → (S k ∨ w.heap.size ≤ k) ∧ k < w'.heap.size) ∧ Chg S w w' ∧
     w'.heap[bl]? = some (.cells #[.int .i64 (max f.last 1), .int .i64 f.front.length, .int .i64 0, x, .int .i64 most] 148 (0, 0)) ∧ ¬ SS bl ∧ w.heap.size ≤ bl ∧ RecsAt w' (fun k => SS k ∨ k = bl) ra rc X ∧ X.map RX.l = f.recs := by
 obtain ⟨SS, ⟨hd, hss, hc⟩, ⟨h1, rfl⟩ | ⟨-, bl, ra, rc, X, rfl, hblk, hbl, hns, hrow, hrx, hre⟩⟩ := h
 · exact absurd h0 h1
 · exact ⟨SS, bl, ra, rc, X, rfl, hd, hss, hc, hblk, hns, hbl, ⟨hrow.mono (fun k hk h => by rcases h with h | h; exact hk.2.1 h; exact hk.2.2 h), fun y hy => (hrx y hy).mono (fun k hk h => by rcases h with h | h; exact hk.2.1 h; exact hk.2.2 h)⟩, hre⟩
theorem results_tmp2_row {P : Program} {fn : Func} {p u v : Tmp} {ty : TypeId} (h : fn.results = #[.tmp u, .tmp v, .cell p ty]) (tmps : Array Value) (w : World) (g : Nat) (t : TypeId) (cs : Array Value) (fr : Nat × Nat) (d : TypeDesc)
   (hp : tmps.getD p undef = .pointer (some ⟨g, 0, none⟩)) (hg : w.heap[g]? = some (.cells cs t fr))
   (hu : P.underlying ty = some d) (hd : (match d with | .struct _ | .array _ _ => true | _ => false) = true) (hi : (P.info? ty).map (·.size) = some cs.size) :
   (results fn tmps).run P w = .ok (.tuple #[tmps.getD u undef, tmps.getD v undef, .agg cs]) w := by
 have hl := run_loadVar_row w g t ty cs fr d hg hu hd hi
 simp only [results, h]
 simp [Sem.run_bind, Result.andThen, show tmps[p]?.getD undef = _ from by simpa [Array.getD_eq_getD_getElem?] using hp, asAddr, hl]
def StartP (w : World) (room most : Int) (P : List SL) : Ending → World → Prop := fun e w' => ∃ (bx bl : Nat) (L M : LS) (a : Option Addr) (c : Nat) (R : List RF) (S T : Nat → Prop),
 e = .returned (.tuple #[.pointer (some ⟨bx, 0, none⟩), .pointer (some ⟨bl, 0, none⟩), .agg (rcell M a R.length c)]) ∧ DuelR w w' bl bx L M a c R S T (sumL P + 8 * P.length) P.length ∧ M = putsG opsF (segL room most seg0) (P.map SL.l) ∧ L.most = most
theorem start_end {room most : Int} {P : List SL} {w wz : World} {bx bl B8 : Nat} {L M : LS} {a : Option Addr} {c : Nat} {R : List RF} {S T : Nat → Prop} {x0 x1 x2 x3 x4 x5 x6 x7 : Value}
   (hd : DuelR w wz bl bx L M a c R S T (sumL P + 8 * P.length) P.length) (hM : M = putsG opsF (segL room most seg0) (P.map SL.l)) (hm : L.most = most) (hz : wz.heap[B8]? = some (.cells #[x0, x1, x2, x3, x4, x5, x6, x7] 34 (0, 0))) (h8 : w.heap.size ≤ B8) (hS : ¬ S B8) (hT : ¬ T B8)
   {W : World} (hW : ((((((((wz.setCell ⟨B8, 0, none⟩ (.int .i64 M.D.room)).setCell ⟨B8, 1, none⟩ (.slice a R.length c)).setCell ⟨B8, 2, none⟩ (.int .i64 M.D.plan)).setCell ⟨B8, 3, none⟩ (.bool M.D.down)).setCell ⟨B8, 4, none⟩ (.int .i64 M.most)).setCell ⟨B8, 5, none⟩ (.int .i64 M.n)).setCell ⟨B8, 6, none⟩ (.int .i64 M.size)).setCell ⟨B8, 7, none⟩ (.int .i64 M.waiting)) = W)
   {tmps : Array Value} (t6 : tmps.getD 6 undef = .pointer (some ⟨bx, 0, none⟩)) (t7 : tmps.getD 7 undef = .pointer (some ⟨bl, 0, none⟩)) (t8 : tmps.getD 8 undef = .pointer (some ⟨B8, 0, none⟩)) :
   bodyPost Tryz.prog Tryz.f45 (StartP w room most P) Exit.ret { tmps := tmps, defers := [] } W.drew := by
 obtain ⟨H, hc⟩ := log_store hz (.int .i64 M.D.room) (.slice a R.length c) (.int .i64 M.D.plan) (.bool M.D.down) (.int .i64 M.most) (.int .i64 M.n) (.int .i64 M.size) (.int .i64 M.waiting)
 rw [hW] at H hc
 have hc2 : Chg (fun k => k = B8) wz W.drew := hc.trans (Chg.ofBelow ((Below.refl _ _).drew)) (fun n hn => .inl hn)
 refine bodyPost_ret (results_tmp2_row (P := Tryz.prog) Tryz.results45 _ _ B8 34 _ (0, 0) _ t8 (show (World.drew W).heap[B8]? = _ from H) Tryz.underlying34 rfl rfl) rfl ?_
 rw [t6, t7]
 refine ⟨bx, bl, L, M, a, c, R, S, T, rfl, ?_, hM, hm⟩
 have hsz := hc2.size
 exact ⟨hd.log.frame (fun k hk hl => hc2.block k hl (fun e => hS (e ▸ hk))), hd.lst.frame (fun k hk hl => hc2.block k hl (fun e => hT (e ▸ hk))), hd.files, hd.rel, hd.bnd, hd.bel.trans (hc2.toBelow hd.bel.size (fun k _ e => by have e2 : k = B8 := e; omega)), fun k hk => ⟨(hd.sS k hk).1, Nat.lt_of_lt_of_le (hd.sS k hk).2 hsz⟩, fun k hk => ⟨(hd.sT k hk).1, Nat.lt_of_lt_of_le (hd.sT k hk).2.1 hsz, (hd.sT k hk).2.2⟩, hd.most⟩
set_option maxHeartbeats 8000000 in
theorem tstart_any (room most : Int) (hrm : 0 ≤ room ∧ room ≤ 1000000) (hmo : 0 ≤ most ∧ most ≤ 1000000) (pa : Option Addr) (pc : Nat) (P : List SL) (w : World) (ht : Tab w) (hP : SLs w (.slice pa P.length pc) P) (hl : P.length ≤ 60) (hs : sumL P ≤ 1500) :
   Calls Tryz.prog 45 #[.int .i64 room, .int .i64 most, .slice pa P.length pc] w (StartP w room most P) := by
 have HT := Lib.hid ht
 have HP := Lib.hid hP
 obtain ⟨hr0, hr1⟩ := hrm
 obtain ⟨hm0, hm1⟩ := hmo
 have hmx : max room 0 = room := by omega
 have HMX := Lib.hid hmx
 have HB0 : Hid (Below w.heap.size w (w.alloc (.cells #[.int .i64 0, .slice none 0 0, .int .i64 0, .bool false, .int .i64 0, .int .i64 0, .int .i64 0, .int .i64 0] 34))) := (Below.refl _ _).alloc (Nat.le_refl _) _
 have HZ0 : Hid ((w.alloc (.cells #[.int .i64 0, .slice none 0 0, .int .i64 0, .bool false, .int .i64 0, .int .i64 0, .int .i64 0, .int .i64 0] 34)).heap[w.heap.size]? = some (.cells #[.int .i64 0, .slice none 0 0, .int .i64 0, .bool false, .int .i64 0, .int .i64 0, .int .i64 0, .int .i64 0] 34 (0, 0))) := heap_alloc_new _ _
 clear ht hP hmx
 go_enter Tryz.func45, Tryz.ntmps45
 go_upto_region 1 with fail
 generalize w.alloc (.cells #[.int .i64 0, .slice none 0 0, .int .i64 0, .bool false, .int .i64 0, .int .i64 0, .int .i64 0, .int .i64 0] 34) = wq at *
 have hnw := new_any room wq
 rw [HMX.out] at hnw
 go_wp2_with fail
 refine hnw.mono ?_
 rintro e w1 ⟨x, rfl, hd1, hb1⟩
 have hd1' := DRep.tight hd1
 have hbn : Bnd ⟨room, [], 0, false⟩ 0 0 := ⟨Nat.le_refl _, Nat.le_refl _, (fun f hf => by cases hf), List.nodup_nil, (by show (0 : Int) ≤ 0 ∧ (0 : Int) ≤ 9223372036854775807; omega)⟩
 have HTQ := Lib.hid (tab_below HT.out HB0.out)
 have hop := scopen_any x _ _ most w1 hd1' (fun k hk => hk.2) (fun w' hc => tab_below HTQ.out (hb1.trans ((hc.toBelow (B := wq.heap.size) hb1.size (fun k hk h => by have := h.1; omega))))) hbn (by omega) (by omega)
 rw [findS_new, openS_new] at hop
 have HOP := Lib.hid hop
 have HB1 := Lib.hid hb1
 have HZ1 := Lib.hid ((hb1.block _ (lt_of_heap HZ0.out)).trans HZ0.out)
 obtain ⟨bx, bm, col, pv, rfl, -⟩ := hd1
 clear hop hd1' hbn hb1 hnw
 go_wp2_with fail
 refine HOP.out.mono ?_
 intro e w2 hop
 obtain ⟨SS, bl, ra, rc, X, rfl, hd2, hss, hc2, hblk, hns, hbl, -, -⟩ := openP_ok hop rfl
 have hq0 := lt_of_heap HZ0.out
 have hw1 := HB1.out.size
 have hb2 : Below wq.heap.size wq w2 := HB1.out.trans (hc2.toBelow (B := wq.heap.size) hw1 (fun k hk h => by have := h.1; omega))
 have hbl2 := lt_of_heap hblk
 have HZ2 := Lib.hid ((hb2.block _ (lt_of_heap HZ0.out)).trans HZ0.out)
 have HB2 : Hid (Below w.heap.size w w2) := HB0.out.trans (hb2.mono HB0.out.size)
 have HL0 : Hid (LAt w2 bl (.pointer (some ⟨bx, 0, none⟩)) (segL room most seg0) (fun k => SS k ∨ k = bl)) := by
   refine ⟨by rw [segL0]; exact hblk, ?_, .inr rfl⟩
   rw [segL0]; exact hd2.mono (fun k hk => ⟨.inl hk, fun e => hns (e ▸ hk)⟩)
 have HS2 : Hid (∀ k, (SS k ∨ k = bl) → wq.heap.size ≤ k ∧ k < w2.heap.size) := fun k hk => by
   rcases hk with hk | rfl
   · refine ⟨?_, (hss k hk).2⟩
     rcases (hss k hk).1 with h | h
     · exact h.1
     · omega
   · exact ⟨by omega, hbl2⟩
 have HBN : Hid (BndL (segL room most seg0) 0 1 1) := by
   rw [Hid, segL0]
   refine ⟨⟨by simp [sumD], by simp, ?_, by simp, by show (0 : Int) ≤ 0 ∧ (0 : Int) ≤ 9223372036854775807; omega⟩, by simp, by simp, by simp⟩
   intro f hf
   rw [List.mem_singleton.1 hf]
   have := nameI_size 1
   show (nameI 1).size ≤ 300
   omega
 have hro := ropen0_any room 0 most false (.slice none 0 0) [] (fun _ => False) w2 (RLi.nil _ _) (fun k hk => hk.elim) (by simp) rfl (by rw [List.map_nil, findS_new]; rfl) (s := 0) ⟨by simp [sumD], by simp, by show (0 : Int) ≤ 0 ∧ (0 : Int) ≤ 9223372036854775807; omega⟩ (by omega)
 rw [List.map_nil, findS_new, openSR_new, ← HMX.out] at hro
 have HRO := Lib.hid hro
 have hq1 : w.heap.size < wq.heap.size := lt_of_heap HZ0.out
 have hq2 := hb2.size
 clear hop hd2 hss hc2 hblk hns hbl hb2 hbl2 hw1 hro HOP HB0 HB1 HZ0 HZ1 HTQ
 unfold rdisk at HRO
 go_wp2_with fail
 refine HRO.out.mono ?_
 rintro e w3 ⟨a3, c3, R3, v3, vc3, X3, rfl, hf3, hr3, -, -, -, -, hb3⟩
 have hM : rlogOf (⟨max room 0, [⟨nameI 1, [], 0⟩], 0, false⟩ : DS) (FR.bad 0) most 0 = segL room most seg0 := by
   unfold rlogOf; rw [if_neg (by simp [FR.bad]), if_pos (show (FR.bad 0).last = 0 from rfl), segL0, HMX.out]
 simp only at hf3
 rw [hM]
 have hba : Below w2.heap.size w2 (w3.alloc (.cells (rcell (segL room most seg0) a3 R3.length c3) 34)) := hb3.alloc hb3.size _
 have hba3 : Below w3.heap.size w3 (w3.alloc (.cells (rcell (segL room most seg0) a3 R3.length c3) 34)) := (Below.refl _ _).alloc (Nat.le_refl _) _
 have hz3 : (w3.alloc (.cells (rcell (segL room most seg0) a3 R3.length c3) 34)).heap.size = w3.heap.size + 1 := by simp
 have h23 := hb3.size
 have h02 := HB2.out.size
 have HDL : Hid (DuelL w (w3.alloc (.cells (rcell (segL room most seg0) a3 R3.length c3) 34)) bl bx w3.heap.size (segL room most seg0) (segL room most seg0) a3 c3 R3 (fun k => SS k ∨ k = bl) (fun k => w2.heap.size ≤ k ∧ k < w3.heap.size) 0 0) := by
   refine ⟨⟨HL0.out.later hba, (hr3.tight.below hba3).mono (fun k hk => ⟨by rcases hk.1 with h | h; exact h.elim; exact h, hk.2⟩), hf3.trans (by rw [segL0]), relL_refl0 room most, HBN.out, HB2.out.trans (hba.mono h02), fun k hk => ?_, fun k hk => ?_, by rw [segL0]; show (-1000000 : Int) ≤ most ∧ most ≤ 1000000; omega⟩, heap_alloc_new _ _, fun e => ?_, fun e => ?_, by omega⟩
   · have := HS2.out k hk; rw [hz3]; omega
   · have := hk.1; have := hk.2; refine ⟨by omega, by rw [hz3]; omega, fun e => ?_⟩
     have := HS2.out k e; omega
   · have := HS2.out _ e; omega
   · have := e.2; omega
 obtain ⟨S0, hS0⟩ : ∃ S0 : Nat → Prop, S0 = fun k => SS k ∨ k = bl := ⟨_, rfl⟩
 obtain ⟨T0, hT0⟩ : ∃ T0 : Nat → Prop, T0 = fun k => w2.heap.size ≤ k ∧ k < w3.heap.size := ⟨_, rfl⟩
 rw [← hS0, ← hT0] at HDL
 have HSB : Hid (¬ S0 w.heap.size ∧ ¬ T0 w.heap.size) := by
   rw [hS0, hT0]
   exact ⟨fun e => by have := HS2.out _ e; omega, fun e => by have := e.1; omega⟩
 clear hS0 hT0
 have HX3 := Lib.hid ((hba.block _ (lt_of_heap HZ2.out)).trans HZ2.out)
 have HW32 : Hid (w.heap.size ≠ w3.heap.size) := by rw [Hid]; omega
 clear hf3 hr3 hb3 hM hba hba3 hz3 h23 HL0 HS2 HB2 HRO HZ2 HBN hq0 hq1 hq2 h02
 unfold rlog
 unfold rcell at HDL HX3
 go_upto_region 4 with fail
 generalize w3.alloc (.cells #[.int .i64 (segL room most seg0).D.room, .slice a3 R3.length c3, .int .i64 (segL room most seg0).D.plan, .bool (segL room most seg0).D.down, .int .i64 (segL room most seg0).most, .int .i64 (segL room most seg0).n, .int .i64 (segL room most seg0).size, .int .i64 (segL room most seg0).waiting] 34) = w4 at *
 have HM0 : Hid (segL room most seg0 = putsG opsF (segL room most seg0) ((P.take 0).map SL.l)) := rfl
 have HMO0 : Hid ((segL room most seg0).most = most) := rfl
 generalize hs0 : segL room most seg0 = s0 at *
 have HS0 := Lib.hid hs0
 clear hs0
 obtain ⟨B, hB⟩ : ∃ B, B = w3.heap.size := ⟨_, rfl⟩
 rw [← hB] at HDL HW32 ⊢
 obtain ⟨B2, hB2⟩ : ∃ B2, B2 = w.heap.size := ⟨_, rfl⟩
 have HB20 : Hid (w.heap.size ≤ B2) := by rw [Hid]; omega
 rw [← hB2] at HSB HX3 HW32 ⊢
 clear hB hB2
 go_wp2_with fail
 go_loopw [38] (fun i w' => ∃ (k : Nat) (L M : LS) (a : Option Addr) (c : Nat) (R : List RF) (S T : Nat → Prop), k ≤ P.length ∧ i = .int .i64 k ∧ Hid (DuelL w w' bl bx B L M a c R S T (sumL (P.take k) + 8 * k) k) ∧ Hid (M = putsG opsF s0 ((P.take k).map SL.l)) ∧ Hid (L.most = most) ∧ Hid (¬ S B2 ∧ ¬ T B2) ∧ Hid (w'.heap[B2]? = some (.cells #[.int .i64 0, .slice none 0 0, .int .i64 0, .bool false, .int .i64 0, .int .i64 0, .int .i64 0, .int .i64 0] 34 (0, 0)))) (fun i _ => P.length - (RowKit.intOf i).toNat)
 case atStart => exact ⟨0, s0, s0, a3, c3, R3, S0, T0, by omega, rfl, HDL, HM0, HMO0, HSB, HX3⟩
 case round =>
   obtain ⟨k, L, M, a, c, R, S, T, hk, rfl, HD, HM, HMO, HSB, HX⟩ := hrel
   by_cases hlt : k < P.length
   · obtain ⟨b, o, ea, ec, rfl, hle, hbk, hev, hc, hr⟩ := (HP.out.later HD.out.d.bel).head hlt
     have hso := sumL_take hlt
     have hso2 := sumL_le P k
     have hso3 := sumL_at hlt
     have HSO := Lib.hid hso
     have hmo := HD.out.d.most
     have HEV : Hid (Reads w (.slice ea P[k].l.length ec) P[k].l.length 1 (byts P[k].l)) := by
       have := HP.out.each P[k] (List.getElem_mem hlt)
       rwa [hev] at this
     have HM1 : Hid (putsG opsF s0 ((P.take (k + 1)).map SL.l) = (putG opsF M P[k].l).1) := by rw [Hid, putsG_take hlt, HM.out]
     have hpl : P[k].l.length ≤ 1500 := by omega
     generalize P[k] = px at *
     have hpu := put_any L bl (.pointer (some ⟨bx, 0, none⟩)) S ea ec px.l wr HD.out.d.log (fun k hk => (HD.out.d.sS k hk).2) (fun w' hc => tab_below HT.out (HD.out.d.bel.trans (hc.toBelow HD.out.d.bel.size (fun k hk e => by have := (HD.out.d.sS k e).1; omega)))) HD.out.d.bnd (by omega) (by omega) hr (by omega) (by omega)
     have HPU := Lib.hid hpu
     have HRP := Lib.hid (rel_put HD.out.d.rel px.l)
     have HBP := Lib.hid (bnd_put HD.out.d.bnd px.l)
     have hmp := putG_most L px.l
     generalize putG opsD L px.l = pll at *
     obtain ⟨L1, cd⟩ := pll
     simp only at HRP hmp HBP
     have HMO1 : Hid (L1.most = most) := hmp.trans HMO.out
     have HMP := Lib.hid hmp
     have HLEN : Hid (k < P.length ∧ sumL (P.take k) ≤ sumL P ∧ px.l.length ≤ 1500) := ⟨hlt, hso2, hpl⟩
     clear hpu hev hr hmp hso hso2 hso3 hpl HM
     go_wp2_with fail
     refine HPU.out.mono ?_
     rintro e w1 ⟨rfl, hl1, hc1⟩
     simp only at hl1
     have HL1 := Lib.hid hl1
     have HC1 := Lib.hid hc1
     have HXB1 := Lib.hid (hc1.heap HD.out.blk HD.out.bS)
     have HXZ1 := Lib.hid (hc1.heap HX.out HSB.out.1)
     have HR1 := Lib.hid (HD.out.d.lst.frame (fun k hk hl => hc1.block k hl (HD.out.d.sT k hk).2.2))
     have hbw1 : Below w.heap.size w w1 := HD.out.d.bel.trans (hc1.toBelow HD.out.d.bel.size (fun k hk e => by have := (HD.out.d.sS k e).1; omega))
     have hln := HLEN.out
     have hrl : Hid (Calls Tryz.prog 39 #[.agg #[.int .i64 M.D.room, .slice a R.length c, .int .i64 M.D.plan, .bool M.D.down, .int .i64 M.most, .int .i64 M.n, .int .i64 M.size, .int .i64 M.waiting], .slice ea px.l.length ec] w1 (MPst w1 T (putG opsF M px.l))) := rputL_any HD.out.d.rel HD.out.d.bnd (by omega) (by omega) (by omega) (.slice a R.length c) R T ea ec px.l w1 HR1.out HD.out.d.files (HEV.out.later hbw1) (by omega)
     have HRL := Lib.hid hrl.out
     clear hl1 hc1 hbw1 hrl HPU hln
     obtain ⟨hcd, hrel1⟩ := HRP.out
     generalize putG opsF M px.l = pm at *
     obtain ⟨M1, cm⟩ := pm
     simp only at hcd hrel1 HM1
     subst hcd
     have HREL1 := Lib.hid hrel1
     clear hrel1 HRP
     obtain ⟨x0, x1, x2, x3, x4, x5, x6, x7⟩ := cells8w HXB1.out
     go_wp2_with fail
     refine HRL.out.mono ?_
     rintro e w2 ⟨v', R2, rfl, hf2, hr2, hb2⟩
     obtain ⟨a2, c2, rfl⟩ := slice_form hr2.row
     rw [show rlog (.slice a2 R2.length c2) (M1, cd).1 = .agg #[.int .i64 M1.D.room, .slice a2 R2.length c2, .int .i64 M1.D.plan, .bool M1.D.down, .int .i64 M1.most, .int .i64 M1.n, .int .i64 M1.size, .int .i64 M1.waiting] from rfl]
     have HXB2 := Lib.hid ((hb2.block _ (lt_of_heap HXB1.out)).trans HXB1.out)
     have HXZ2 := Lib.hid ((hb2.block _ (lt_of_heap HXZ1.out)).trans HXZ1.out)
     have HLS := Lib.hid (log_store HXB2.out (.int .i64 M1.D.room) (.slice a2 R2.length c2) (.int .i64 M1.D.plan) (.bool M1.D.down) (.int .i64 M1.most) (.int .i64 M1.n) (.int .i64 M1.size) (.int .i64 M1.waiting))
     have hln := HLEN.out
     have HD3 := Lib.hid (HD.out.acted (s' := sumL (P.take (k + 1)) + 8 * (k + 1)) HL1.out HC1.out hr2 hb2 hf2 HREL1.out (HBP.out.more (by rw [HSO.out]; omega) (by omega) (by omega)) HMP.out HLS.out.2 HLS.out.1)
     have HXZ3 := Lib.hid (HLS.out.2.heap HXZ2.out (fun e => HW32.out e))
     have hzz := HC1.out.size
     have hbz := lt_of_heap HX.out
     have HSB3 : Hid (¬ ((S B2 ∨ wr.heap.size ≤ B2) ∧ B2 < w1.heap.size) ∧ ¬ ((T B2 ∨ w1.heap.size ≤ B2) ∧ B2 < w2.heap.size)) := ⟨fun e => by rcases e.1 with e | e; exact HSB.out.1 e; omega, fun e => by rcases e.1 with e | e; exact HSB.out.2 e; omega⟩
     have HM1s := Lib.hid HM1.out.symm
     obtain ⟨x0', x1', x2', x3', x4', x5', x6', x7'⟩ := cells8w HXB2.out
     have q0 := freeAt HXB2.out 0
     have q1 := freeAt HXB2.out 1
     have q2 := freeAt HXB2.out 2
     have q3 := freeAt HXB2.out 3
     have q4 := freeAt HXB2.out 4
     have q5 := freeAt HXB2.out 5
     have q6 := freeAt HXB2.out 6
     have q7 := freeAt HXB2.out 7
     clear hf2 hr2 hb2 HRL HL1 HC1 HR1 HREL1 x0 x1 x2 x3 x4 x5 x6 x7 HXZ1 HXZ2 HXB1 hzz hbz hln HM1 HMP
     go_wp2_with fail
     go_roundw
     case rel => exact ⟨k + 1, L1, M1, a2, c2, R2, _, _, by have := HLEN.out.1; omega, by go_num, HD3, HM1s, HMO1, HSB3, HXZ3⟩
     case measure => have := HLEN.out.1; simp [RowKit.intOf]; omega
   · obtain rfl : k = P.length := by omega
     rw [List.take_length] at HD HM
     obtain ⟨x0', x1', x2', x3', x4', x5', x6', x7'⟩ := cells8w HD.out.blk
     obtain ⟨z0, z1, z2, z3, z4, z5, z6, z7⟩ := cells8w HX.out
     have q0 := freeAt HX.out 0
     have q1 := freeAt HX.out 1
     have q2 := freeAt HX.out 2
     have q3 := freeAt HX.out 3
     have q4 := freeAt HX.out 4
     have q5 := freeAt HX.out 5
     have q6 := freeAt HX.out 6
     have q7 := freeAt HX.out 7
     go_upto_region 10 with fail
     go_region
     all_goals clear x0' x1' x2' x3' x4' x5' x6' x7' q0 q1 q2 q3 q4 q5 q6 q7 z0 z1 z2 z3 z4 z5 z6 z7
     go_wp2
     have hM := HM.out
     rw [← HS0.out] at hM
     exact start_end HD.out.d hM HMO.out HX.out HB20.out HSB.out.1 HSB.out.2 rfl rfl rfl rfl
end Go.Proofs.YtgdmdbdljmlkkaaGreatDoor
