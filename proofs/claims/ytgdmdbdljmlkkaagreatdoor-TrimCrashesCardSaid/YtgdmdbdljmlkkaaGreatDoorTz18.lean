/- Split -/
import Derived.Test.YtgdmdbdljmlkkaaGreatDoorTz16
import Derived.Test.YtgdmdbdljmlkkaaGreatDoorTz17
import Derived.Maps.AppendAt
set_option maxRecDepth 100000
set_option linter.unusedVariables false
set_option linter.unusedSimpArgs false
namespace Go.Proofs.YtgdmdbdljmlkkaaGreatDoor
open Go.RowKit Go.Shelf
attribute [local go_sem] Oper.semAt_some
structure RX where
 v : Value
 l : List UInt8
 e : Nat
def RX.enc (x : RX) : Array Value := #[.int .i64 x.e, x.v]
def RdX (B : Nat) (x : RX) (W : World) : Prop := Row W 5 1 x.v x.l.length (byts x.l) (fun k => B ≤ k)
def RdP (B L : Nat) (pre : List RX) (x : RX) (W : World) : Prop := RdX B x W ∧ ((pre.getLast?.map RX.e).getD 0) + 8 ≤ x.e ∧ x.e ≤ L
def lastE (xs : List RX) : Nat := (xs.getLast?.map RX.e).getD 0
theorem lastE_snoc (xs : List RX) (x : RX) : lastE (xs ++ [x]) = x.e := by simp [lastE]
def SX (l : List UInt8) (xs : List RX) : Prop := xs.map RX.l = (splitB l).1 ∧ lastE xs = (splitB l).2
structure KpB (B bb : Nat) (W W' : World) : Prop where
 bel : Below B W W'
 box : W'.heap[bb]? = W.heap[bb]?
theorem KpB.trans {B bb : Nat} {X Y Z : World} (h : KpB B bb X Y) (k : KpB B bb Y Z) : KpB B bb X Z := ⟨h.bel.trans k.bel, k.box.trans h.box⟩
def Typed (W : World) (e : TypeId) (k : Nat) : Prop := ∃ cs, W.heap[k]? = some (.cells cs e (0, 0))
theorem Row.typed {w : World} {e : TypeId} {size : Nat} {v : Value} {n : Nat} {xs : List Value} {S : Nat → Prop} (h : Row w e size v n xs S) : Row w e size v n xs (fun k => S k ∧ Typed w e k) := by
 obtain ⟨hl, h⟩ := h
 rcases h with h | ⟨g, off, cap, cur, hv, hS, hg, r⟩
 · exact ⟨hl, .inl h⟩
 · exact ⟨hl, .inr ⟨g, off, cap, cur, hv, ⟨hS, cur, hg⟩, hg, r⟩⟩
theorem Row.keepT {w w' : World} {e : TypeId} {size : Nat} {v : Value} {n : Nat} {xs : List Value} {S : Nat → Prop} (h : Row w e size v n xs S) (hb : ∀ k, S k → Typed w e k → k < w.heap.size → w'.heap[k]? = w.heap[k]?) : Row w' e size v n xs S :=
 (h.typed.frame (fun k hk hlt => hb k hk.1 hk.2 hlt)).mono (fun k hk => hk.1)
theorem own_cells {W W' : World} {row : Option Nat} (hg : W.grownBy W' row) (hr : ∀ r, row = some r → ∃ o : Obj, W.heap[r]? = some o ∧ o.isCells = false) {k : Nat} {cs : Array Value} {e : TypeId} {fr : Nat × Nat} (hk : W.heap[k]? = some (.cells cs e fr)) : W'.heap[k]? = W.heap[k]? :=
 hg.block k (lt_of_heap hk) (fun h => by
   obtain ⟨o, ho, hc⟩ := hr k h.symm
   rw [hk] at ho; cases ho; cases hc)
theorem below_grown {B : Nat} {W W' : World} (h : Below W.heap.size W W') : W.grownBy W' none := ⟨h.os, h.tape, h.output, h.size, fun k hk _ => h.block k hk⟩
def NX (B : Nat) (r : Option (List UInt8 × Nat)) (xv nv : Value) (W : World) : Prop := match r with
 | none => xv = .slice none 0 0 ∧ nv = .int .i64 0
 | some (x, n) => ∃ a c, xv = .slice a x.length c ∧ nv = .int .i64 n ∧ Row W 5 1 xv x.length (byts x) (fun k => B ≤ k)
theorem next_nx (ba : Option Addr) (bc : Nat) (l : List UInt8) (B : Nat) (w : World) (hB : B ≤ w.heap.size) (h : Reads w (.slice ba l.length bc) l.length 1 (byts l)) (hl : l.length ≤ 100000) :
   Calls Tryz.prog 163 #[.slice ba l.length bc] w fun e w' => ∃ xv nv, e = .returned (.tuple #[xv, nv]) ∧ NX B (nextB l) xv nv w' ∧ Below w.heap.size w w' := by
 refine (next_any ba bc l w h hl).mono ?_
 rintro e w' ⟨h1, hb⟩
 cases hn : nextB l with
 | none =>
   rw [hn] at h1
   exact ⟨_, _, h1, ⟨rfl, rfl⟩, hb⟩
 | some p =>
   obtain ⟨x, n⟩ := p
   rw [hn] at h1
   obtain ⟨a, c, rfl, hr⟩ := h1
   exact ⟨_, _, rfl, ⟨a, c, rfl, rfl, hr.mono (fun k hk => Nat.le_trans hB hk)⟩, hb⟩
set_option maxHeartbeats 1000000 in
theorem all1_seq (n : Nat) (hn : 1 ≤ n) (wS : World) (ba : Option Addr) (bc : Nat) (l : List UInt8) (hr : Reads wS (.slice ba l.length bc) l.length 1 (byts l)) (hl : l.length ≤ 100000) (bb : Nat) (w : World) (hbw : Below wS.heap.size wS w)
   (hbb : w.heap[bb]? = some (.cells #[.slice ba l.length bc] 72 (0, 0))) :
   SeqAll Fence.wide n Tryz.prog 162 #[.pointer (some ⟨bb, 0, none⟩)] RX.enc (RdP wS.heap.size l.length) (KpB wS.heap.size bb) (SX l) w := by
 intro ly J W hW hJ hY h0
 have hro : Fence.wide.round = none := rfl
 have hBW : Below wS.heap.size wS W := hbw.trans (hW.mono hbw.size)
 have hbx : W.heap[bb]? = some (.cells #[.slice ba l.length bc] 72 (0, 0)) := (hW.block bb (lt_of_heap hbb)).trans hbb
 have hcb := cellAt hbx 0 rfl
 have HNX := Lib.hid (fun (W' : World) (hb : Below wS.heap.size wS W') => next_nx ba bc l wS.heap.size W' hb.size (hr.later hb) hl)
 refine callsIn_of_wp Tryz.func162 rfl trivial ?_ hro
 simp only [Tryz.ntmps162, List.size_toArray, List.length_cons, List.length_nil, Nat.reduceAdd, Nat.reduceSub, Array.replicate_succ, Array.replicate_zero, List.push_toArray, List.append_toArray, List.nil_append, List.cons_append]
 gi_wp2_with (refine ⟨trivial, ?_⟩; gi_at_call 163; refine (callsIn_wide.2 (HNX.out W hBW)).mono ?_; rintro e w1 ⟨xv, nv, rfl, hnx, hb1⟩)
 have hB1 : Below wS.heap.size wS w1 := hBW.trans (hb1.mono hBW.size)
 have hx1 : w1.heap[bb]? = some (.cells #[.slice ba l.length bc] 72 (0, 0)) := (hb1.block bb (lt_of_heap hbx)).trans hbx
 have hJ1 : J [] w1 := hJ _ _ _ none h0 (below_grown (B := 0) hb1) (fun r e => by cases e)
 have HNX0 : Hid (NX wS.heap.size (nextB (l.drop 0)) xv nv w1) := hnx
 have HB1 := Lib.hid hB1
 have HX1 := Lib.hid hx1
 have HJ1 := Lib.hid hJ1
 have hcap : l.length ≤ bc := by obtain ⟨_, ao, c, hv, hle, _⟩ := hr; cases hv; exact hle
 have HR := Lib.hid hr
 have HJ := Lib.hid hJ
 have HY := Lib.hid hY
 clear hnx hb1 hB1 hx1 hJ1 hcb hbx hBW hr hJ hY h0 hbb hW hbw
 gi_wp2
 gi_loopw [3, 4, 5] (fun ev xv nv wr => ∃ (pre : List RX) (at_ : Nat), ev = .int .i64 at_ ∧ at_ ≤ l.length ∧ Hid (NX wS.heap.size (nextB (l.drop at_)) xv nv wr) ∧ Hid (J pre wr) ∧ Hid (Below wS.heap.size wS wr) ∧ Hid (wr.heap[bb]? = some (.cells #[.slice ba l.length bc] 72 (0, 0))) ∧ Hid (splitB l = (pre.map RX.l ++ (splitB (l.drop at_)).1, at_ + (splitB (l.drop at_)).2)) ∧ Hid (lastE pre = at_)) (fun ev _ _ wr => l.length - (RowKit.intOf ev).toNat)
 case atStart => exact ⟨[], 0, rfl, Nat.zero_le _, HNX0, HJ1, HB1, HX1, by simp [Hid], rfl⟩
 case round =>
   obtain ⟨pre, at_, rfl, hat, HN, HJp, HB, HX, HS, HL⟩ := hrel
   cases hn : nextB (l.drop at_) with
   | none =>
     rw [hn] at HN
     obtain ⟨rfl, rfl⟩ := HN.out
     have HSN := Lib.hid (splitB_none hn)
     clear hn
     gi_wp2
     go_end0
     refine ⟨⟨_, rfl⟩, pre, ⟨?_, ?_⟩, HJp.out⟩
     · rw [HS.out, HSN.out, List.append_nil]
     · rw [HS.out, HSN.out]; exact HL.out
   | some p =>
     obtain ⟨r, m⟩ := p
     rw [hn] at HN
     have hpos := nextB_pos hn
     rw [List.length_drop] at hpos
     have HSS := Lib.hid (splitB_some hn)
     clear hn
     obtain ⟨a, c, rfl, rfl, hrow⟩ := HN.out
     obtain ⟨g, o, c', hv, -, -, -⟩ := HR.out.at (by omega)
     obtain ⟨rfl, rfl⟩ : ba = some ⟨g, o, none⟩ ∧ bc = c' := by cases hv; exact ⟨rfl, rfl⟩
     clear hv
     have HNB : Hid (∀ ao (W' : World), (¬ bc = at_ + m → ao = some (⟨g, o + (at_ + m), none⟩ : Addr)) → ao ≠ none → Below wS.heap.size wS W' → Calls Tryz.prog 163 #[.slice ao (l.length - (at_ + m)) (bc - (at_ + m))] W' fun e w' => ∃ xv nv, e = .returned (.tuple #[xv, nv]) ∧ NX wS.heap.size (nextB (l.drop (at_ + m))) xv nv w' ∧ Below W'.heap.size W' w') := by
       intro ao W' h1 h2 hb
       have hd := (HR.out.later hb).drop (at_ + m) (by omega) ao h1 h2
       have e : (l.drop (at_ + m)).length = l.length - (at_ + m) := List.length_drop
       have := next_nx ao (bc - (at_ + m)) (l.drop (at_ + m)) wS.heap.size W' hb.size (by rw [e]; unfold byts at hd ⊢; rw [List.map_drop]; exact hd) (by omega)
       rwa [e] at this
     have hRd : RdP wS.heap.size l.length pre ⟨.slice a r.length c, r, at_ + m⟩ wr := ⟨hrow, by have h := HL.out; unfold lastE at h; rw [h]; show at_ + 8 ≤ at_ + m; omega, by show at_ + m ≤ l.length; omega⟩
     obtain ⟨fn, tmps, assign, body, hy, hR⟩ := HY.out pre ⟨.slice a r.length c, r, at_ + m⟩ wr HJp.out hRd
     dsimp only [RX.enc] at hy
     rw [Int.natCast_add] at hy
     clear HN hrow hRd
     gi_wp2
     refine hR.mono ?_
     rintro e W3 ⟨rfl, hJ3, hk3⟩
     have HB3 : Hid (Below wS.heap.size wS W3) := HB.out.trans hk3.bel
     have HX3 : Hid (W3.heap[bb]? = some (.cells #[.slice (some ⟨g, o, none⟩) l.length bc] 72 (0, 0))) := hk3.box.trans HX.out
     have hcb3 := cellAt HX3.out 0 rfl
     have HJ3 := Lib.hid hJ3
     clear hR hy hJ3 hk3 HB HX HJp
     gi_wp2
     case inl =>
       rename_i h
       have hz : bc - (at_ + m) = 0 := by omega
       have HN1 := Lib.hid (HNB.out (some ⟨g, o, none⟩) W3 (fun h2 => absurd h h2) (by simp) HB3.out)
       rw [hz] at HN1
       refine ⟨trivial, (callsIn_wide.2 HN1.out).mono ?_⟩
       rintro e w4 ⟨xv2, nv2, rfl, hnx2, hb4⟩
       subst h
       have HN4 := Lib.hid hnx2
       have HB4 : Hid (Below wS.heap.size wS w4) := HB3.out.trans (hb4.mono HB3.out.size)
       have HX4 : Hid (w4.heap[bb]? = some (.cells #[.slice (some ⟨g, o, none⟩) l.length (at_ + m)] 72 (0, 0))) := (hb4.block bb (lt_of_heap HX3.out)).trans HX3.out
       have HJ4 : Hid (J (pre ++ [(⟨.slice a r.length c, r, at_ + m⟩ : RX)]) w4) := HJ.out _ _ _ none HJ3.out (below_grown (B := 0) hb4) (fun r e => by cases e)
       have HS4 : Hid (splitB l = ((pre ++ [(⟨.slice a r.length c, r, at_ + m⟩ : RX)]).map RX.l ++ (splitB (l.drop (at_ + m))).1, at_ + m + (splitB (l.drop (at_ + m))).2)) := by
         rw [Hid, HS.out, HSS.out, List.drop_drop, List.map_append]
         simp [Nat.add_assoc]
       clear hnx2 hb4 hcb3 HNB
       gi_wp2
       go_roundw
       case rel => exact ⟨pre ++ [(⟨.slice a r.length c, r, at_ + m⟩ : RX)], at_ + m, by rw [Int.natCast_add], by omega, HN4, HJ4, HB4, HX4, HS4, lastE_snoc _ _⟩
       case measure => simp [RowKit.intOf]; omega
     case inr =>
       rename_i h
       have HN1 := Lib.hid (HNB.out (some ⟨g, o + (at_ + m), none⟩) W3 (fun _ => rfl) (by simp) HB3.out)
       refine ⟨trivial, (callsIn_wide.2 HN1.out).mono ?_⟩
       rintro e w4 ⟨xv2, nv2, rfl, hnx2, hb4⟩
       have HN4 := Lib.hid hnx2
       have HB4 : Hid (Below wS.heap.size wS w4) := HB3.out.trans (hb4.mono HB3.out.size)
       have HX4 : Hid (w4.heap[bb]? = some (.cells #[.slice (some ⟨g, o, none⟩) l.length bc] 72 (0, 0))) := (hb4.block bb (lt_of_heap HX3.out)).trans HX3.out
       have HJ4 : Hid (J (pre ++ [(⟨.slice a r.length c, r, at_ + m⟩ : RX)]) w4) := HJ.out _ _ _ none HJ3.out (below_grown (B := 0) hb4) (fun r e => by cases e)
       have HS4 : Hid (splitB l = ((pre ++ [(⟨.slice a r.length c, r, at_ + m⟩ : RX)]).map RX.l ++ (splitB (l.drop (at_ + m))).1, at_ + m + (splitB (l.drop (at_ + m))).2)) := by
         rw [Hid, HS.out, HSS.out, List.drop_drop, List.map_append]
         simp [Nat.add_assoc]
       clear hnx2 hb4 hcb3 HNB
       gi_wp2
       go_roundw
       case rel => exact ⟨pre ++ [(⟨.slice a r.length c, r, at_ + m⟩ : RX)], at_ + m, by rw [Int.natCast_add], by omega, HN4, HJ4, HB4, HX4, HS4, lastE_snoc _ _⟩
       case measure => simp [RowKit.intOf]; omega
set_option maxHeartbeats 1000000 in
theorem all_in (n : Nat) (ba : Option Addr) (bn bc : Nat) (w : World) :
   CallsIn Fence.wide n Tryz.prog 123 #[.slice ba bn bc] w fun e w' => e = .returned (.func (.func 162) #[] #[.pointer (some ⟨w.heap.size, 0, none⟩)]) ∧ w' = w.alloc (.cells #[.slice ba bn bc] 72) := by
 refine callsIn_of_wp Tryz.func123 rfl trivial ?_ rfl
 simp only [Tryz.ntmps123, List.size_toArray, List.length_cons, List.length_nil, Nat.reduceAdd, Nat.reduceSub, Array.replicate_succ, Array.replicate_zero, List.push_toArray, List.append_toArray, List.nil_append, List.cons_append]
 gi_wp2
 go_ret
 exact ⟨rfl, rfl⟩
theorem elemRec : ElemOf Tryz.prog 42 72 (.slice none 0 0) 1 24 := ⟨Tryz.underlying42, by kernel_rfl, rfl, by decide⟩
theorem wpListIn_row {F : Fence} {d : Nat} {P : Program} {t e : TypeId} {z : Value} {size bytes : Nat} (hE : ElemOf P t e z size bytes) {w : World} {ops : Array Oper} {rest : List Oper} {o : Oper} {a : Act} {Q : Exit → Act → World → Prop} (hgd : o.guard = none) {s x : Operand}
   (ho : o.op = .call { callee := .builtin .append, args := #[s, x], argTypes := #[t, t] })
   {S : Nat → Prop} {v : Value} {n : Nat} {xs : List Value} (hs : a.eval s = v) (hown : Row w e size v n xs S)
   {y : Value} {m : Nat} {news : List Value} (hx : a.eval x = y) (hy : Reads w y m size news) (h1 : ∀ u ∈ news, u.oneCell' = true)
   (h63 : n + m ≤ maxLen) (hbytes : (n + m) * bytes ≤ 140737488355328)
   (h : ∀ v' w', Row w' e size v' (n + m) (xs ++ news) (fun k => S k ∨ w.heap.size ≤ k) → Chg S w w' → wpListIn F d P ops Q rest (a.put o.dst v') w') : wpListIn F d P ops Q (o :: rest) a w := by
 refine wpListIn_plain hgd fun K hK => ?_
 subst hs; subst hx
 obtain ⟨v', w', hrun, r1, r2⟩ := run_append_row hE o.type w S _ n xs hown _ m news hy h1 h63 hbytes
 unfold Oper.wpIn
 refine ⟨?_, ?_⟩
 · simp [Oper.about, ho, resolve, Target.leads, Sem.run_pure]
 · rw [Oper.semAt_plain F _ _ (by rw [ho]; intro c hc'; cases hc')]
   simp [execOp, ho, resolve, invoke, builtin, hrun, Result.andThen]
   exact hK _ _ (h v' w' r1 r2)
structure SplI (w : World) (L : Nat) (pre : List RX) (W : World) : Prop where
 len : 8 * pre.length ≤ lastE pre ∧ lastE pre ≤ L
 box : ∃ ov, W.heap[w.heap.size]? = some (.cells #[ov] 42 (0, 0)) ∧ Row W 72 1 ov pre.length (pre.map RX.v) (fun k => w.heap.size ≤ k ∧ k ≠ w.heap.size + 1 + 1)
 num : W.heap[w.heap.size + 1]? = some (.cells #[.int .i64 (lastE pre)] 3 (0, 0))
 each : ∀ x ∈ pre, RdX w.heap.size x W
 bel : Below w.heap.size w W
 siz : w.heap.size + 1 + 1 + 1 ≤ W.heap.size
theorem splI_own (w : World) (L B : Nat) (hB : w.heap.size ≤ B) : OwnFrom B (SplI w L) := by
 intro s W W' row h hg hr
 have hc : ∀ r, row = some r → ∃ o : Obj, W.heap[r]? = some o ∧ o.isCells = false := fun r e => (hr r e).2
 obtain ⟨hL, ⟨ov, h1, h2⟩, h3, h4, h5, h6⟩ := h
 refine ⟨hL, ⟨ov, (own_cells hg hc h1).trans h1, h2.keepT (fun k _ ⟨cs, hk⟩ _ => own_cells hg hc hk)⟩, (own_cells hg hc h3).trans h3, fun x hx => (h4 x hx).keepT (fun k _ ⟨cs, hk⟩ _ => own_cells hg hc hk), ?_, Nat.le_trans h6 hg.size⟩
 exact h5.grown hg h5.size (fun k e => by have := (hr k e).1; omega)
theorem spl_step {w W w5 : World} {L B : Nat} {pre : List RX} {ov v5 : Value} {x : RX} (o : Obj) (hI : SplI w L pre W) (hx4 : W.heap[w.heap.size]? = some (.cells #[ov] 42 (0, 0)))
   (hrd : RdP w.heap.size L pre x W) (hB : B = w.heap.size + 1 + 1 + 1)
   (hr5 : Row w5 72 1 v5 (pre.length + 1) (pre.map RX.v ++ [x.v]) (fun k => ((w.heap.size ≤ k ∧ k ≠ w.heap.size + 1 + 1) ∧ Typed W 72 k) ∨ (W.alloc o).heap.size ≤ k))
   (hch : Chg (fun k => (w.heap.size ≤ k ∧ k ≠ w.heap.size + 1 + 1) ∧ Typed W 72 k) (W.alloc o) w5) :
   KeepsFrom B W ((w5.setCell ⟨w.heap.size, 0, none⟩ v5).setCell ⟨w.heap.size + 1, 0, none⟩ (.int .i64 x.e)) ∧ KpB w.heap.size (w.heap.size + 1 + 1) W ((w5.setCell ⟨w.heap.size, 0, none⟩ v5).setCell ⟨w.heap.size + 1, 0, none⟩ (.int .i64 x.e)) ∧
     SplI w L (pre ++ [x]) ((w5.setCell ⟨w.heap.size, 0, none⟩ v5).setCell ⟨w.heap.size + 1, 0, none⟩ (.int .i64 x.e)) := by
 obtain ⟨hrx, hx1, hx2⟩ := hrd
 have hBW := hI.siz
 have hk5 : ∀ k, k < W.heap.size → ¬ ((w.heap.size ≤ k ∧ k ≠ w.heap.size + 1 + 1) ∧ Typed W 72 k) → w5.heap[k]? = W.heap[k]? := fun k hk hn => (hch.block k (by simp; omega) hn).trans (Below.heap_alloc _ _ _ hk)
 have h4 : w5.heap[w.heap.size]? = some (.cells #[ov] 42 (0, 0)) := (hk5 _ (lt_of_heap hx4) (fun ⟨_, cs, h⟩ => by rw [hx4] at h; simp at h)).trans hx4
 have h5 : w5.heap[w.heap.size + 1]? = some (.cells #[.int .i64 (lastE pre)] 3 (0, 0)) := (hk5 _ (lt_of_heap hI.num) (fun ⟨_, cs, h⟩ => by have := hI.num; rw [this] at h; simp at h)).trans hI.num
 obtain ⟨w6, hw6⟩ : ∃ w6, w6 = w5.setCell ⟨w.heap.size, 0, none⟩ v5 := ⟨_, rfl⟩
 have h46 : w6.heap[w.heap.size]? = some (.cells #[v5] 42 (0, 0)) := by rw [hw6]; exact heap_store h4 0 v5
 have ho6 : ∀ k, k ≠ w.heap.size → w6.heap[k]? = w5.heap[k]? := fun k hk => by rw [hw6]; exact Below.heap_setCell _ _ _ _ (by simpa using hk)
 have hs6 : w6.heap.size = w5.heap.size := by rw [hw6]; simp [World.setCell]
 have ho6' : w6.os = w5.os ∧ w6.tape = w5.tape ∧ w6.output = w5.output := by rw [hw6]; exact ⟨rfl, rfl, rfl⟩
 rw [← hw6]
 clear hw6
 obtain ⟨w7, hw7⟩ : ∃ w7, w7 = w6.setCell ⟨w.heap.size + 1, 0, none⟩ (.int .i64 x.e) := ⟨_, rfl⟩
 have h56 : w6.heap[w.heap.size + 1]? = some (.cells #[.int .i64 (lastE pre)] 3 (0, 0)) := (ho6 _ (by omega)).trans h5
 have h57 : w7.heap[w.heap.size + 1]? = some (.cells #[.int .i64 x.e] 3 (0, 0)) := by rw [hw7]; exact heap_store h56 0 _
 have ho7 : ∀ k, k ≠ w.heap.size + 1 → w7.heap[k]? = w6.heap[k]? := fun k hk => by rw [hw7]; exact Below.heap_setCell _ _ _ _ (by simpa using hk)
 have hs7 : w7.heap.size = w6.heap.size := by rw [hw7]; simp [World.setCell]
 have ho7' : w7.os = w6.os ∧ w7.tape = w6.tape ∧ w7.output = w6.output := by rw [hw7]; exact ⟨rfl, rfl, rfl⟩
 rw [← hw7]
 clear hw7
 have hall : ∀ k, k ≠ w.heap.size → k ≠ w.heap.size + 1 → w7.heap[k]? = w5.heap[k]? := fun k h1 h2 => (ho7 k h2).trans (ho6 k h1)
 have hsW : W.heap.size ≤ w7.heap.size := by have := hch.size; simp only [World.size_alloc] at this; omega
 have hbel : Below w.heap.size W w7 := ⟨by rw [ho7'.1, ho6'.1, hch.os]; rfl, by rw [ho7'.2.1, ho6'.2.1, hch.tape]; rfl, by rw [ho7'.2.2, ho6'.2.2, hch.output]; rfl, hsW, fun k hk => (hall k (by omega) (by omega)).trans (hk5 k (by omega) (fun hn => by have := hn.1.1; omega))⟩
 have hu8 : ∀ k, w.heap.size ≤ k → Typed W 5 k → k < W.heap.size → w7.heap[k]? = W.heap[k]? := fun k h1 ⟨cs, hc⟩ hk =>
   (hall k (fun e => by subst e; rw [hx4] at hc; simp at hc) (fun e => by subst e; rw [hI.num] at hc; simp at hc)).trans (hk5 k hk (fun ⟨_, cs', h⟩ => by rw [hc] at h; simp at h))
 refine ⟨⟨hsW, fun k ob hk hob hc => ?_⟩, ⟨hbel, ?_⟩, ?_, ⟨v5, ?_, ?_⟩, ?_, fun y hy => ?_, hI.bel.trans hbel, Nat.le_trans hI.siz hsW⟩
 · refine ((hall k (by omega) (by omega)).trans (hk5 k (lt_of_heap hob) (fun ⟨_, cs, h⟩ => ?_))).trans hob
   rw [hob] at h; cases h; cases hc
 · exact (hall _ (by omega) (by omega)).trans (hk5 _ (by omega) (fun hn => hn.1.2 rfl))
 · rw [lastE_snoc, List.length_append, List.length_singleton]
   have := hI.len
   unfold lastE at this
   omega
 · exact (ho7 _ (by omega)).trans h46
 · rw [List.length_append, List.length_singleton, List.map_append]
   refine (hr5.keepT (w' := w7) (fun k _ ⟨cs, hc⟩ _ => hall k (fun e => by subst e; rw [h4] at hc; simp at hc) (fun e => by subst e; rw [h5] at hc; simp at hc))).mono (fun k hk => ?_)
   rcases hk with hk | hk
   · exact hk.1
   · simp only [World.size_alloc] at hk; omega
 · rw [lastE_snoc]; exact h57
 · rcases List.mem_append.1 hy with hy | hy
   · exact (hI.each y hy).keepT (fun k h1 h2 h3 => hu8 k h1 h2 h3)
   · rw [List.mem_singleton.1 hy]
     exact Row.keepT hrx (fun k h1 h2 h3 => hu8 k h1 h2 h3)
def SplitP (w : World) (l : List UInt8) : Ending → World → Prop := fun e w' => ∃ (a : Option Addr) (c : Nat) (X : List RX), e = .returned (.tuple #[.slice a X.length c, .int .i64 (splitB l).2]) ∧ Row w' 72 1 (.slice a X.length c) X.length (X.map RX.v) (fun k => w.heap.size ≤ k) ∧ (∀ x ∈ X, RdX w.heap.size x w') ∧ X.map RX.l = (splitB l).1 ∧ 8 * X.length ≤ l.length ∧ Below w.heap.size w w'
set_option maxHeartbeats 1000000 in
theorem split_any (ba : Option Addr) (bc : Nat) (l : List UInt8) (w : World) (h : Reads w (.slice ba l.length bc) l.length 1 (byts l)) (hl : l.length ≤ 100000) :
   Calls Tryz.prog 66 #[.slice ba l.length bc] w (SplitP w l) := by
 have hro : Fence.wide.round = none := rfl
 refine (callsIn_wide (n := 4)).1 ?_
 refine callsIn_of_wp_marks Tryz.func66 rfl trivial ?_ hro
 simp only [Tryz.ntmps66, List.size_toArray, List.length_cons, List.length_nil, Nat.reduceAdd, Nat.reduceSub, Array.replicate_succ, Array.replicate_zero, List.push_toArray, List.append_toArray, List.nil_append, List.cons_append]
 gi_wp2_with (refine ⟨trivial, ?_⟩; gi_at_call 123; refine (all_in _ _ _ _ _).mono ?_; rintro e w' ⟨rfl, rfl⟩)
 obtain ⟨W0, hW0⟩ : ∃ W0, W0 = (((w.alloc (.cells #[.slice none 0 0] 42)).alloc (.cells #[.int .i64 0] 3)).alloc (.cells #[.slice ba l.length bc] 72)) := ⟨_, rfl⟩
 have hb4 : W0.heap[w.heap.size]? = some (.cells #[.slice none 0 0] 42 (0, 0)) := by
   rw [hW0]; exact (Below.heap_alloc _ _ _ (by simp; omega)).trans ((Below.heap_alloc _ _ _ (by simp)).trans (heap_alloc_new w _))
 have hb5 : W0.heap[w.heap.size + 1]? = some (.cells #[.int .i64 0] 3 (0, 0)) := by
   have h := heap_alloc_new (w.alloc (.cells #[.slice none 0 0] 42)) (.cells #[.int .i64 0] 3)
   rw [World.size_alloc] at h
   rw [hW0]; exact (Below.heap_alloc _ _ _ (by simp)).trans h
 have hbb : W0.heap[w.heap.size + 1 + 1]? = some (.cells #[.slice ba l.length bc] 72 (0, 0)) := by
   have h := heap_alloc_new ((w.alloc (.cells #[.slice none 0 0] 42)).alloc (.cells #[.int .i64 0] 3)) (.cells #[.slice ba l.length bc] 72)
   rw [World.size_alloc, World.size_alloc] at h
   rw [hW0]; exact h
 have hB0 : Below w.heap.size w W0 := by
   rw [hW0]; exact (((Below.refl _ w).alloc (Nat.le_refl _) _).alloc (by simp) _).alloc (by simp; omega) _
 have hsz : W0.heap.size = w.heap.size + 1 + 1 + 1 := by rw [hW0]; simp
 rw [← hW0]
 clear hW0
 refine wpIn_rangeAll hro (by omega) (gf := 162) (lb := #[.pointer (some ⟨w.heap.size + 1 + 1, 0, none⟩)]) rfl trivial (enters_of Tryz.func162 (by kernel_rfl) rfl)
   (all1_seq (4 - 1) (by omega) w ba bc l h hl (w.heap.size + 1 + 1) W0 hB0 hbb) ?hRd (fun h1 h2 => h1.trans h2) ?hKb (Below.refl _ _) (fun _ => rfl) (SplI w l.length) (splI_own w _ _ hB0.size)
   ⟨by simp [lastE], ⟨_, hb4, Row.nil _ _ _ _⟩, hb5, by simp, hB0, by omega⟩
   (fun x => { tmps := #[.slice ba l.length bc, undef, .slice none 0 0, .int .i64 0, .pointer (some ⟨w.heap.size, 0, none⟩), .pointer (some ⟨w.heap.size + 1, 0, none⟩), .int .i64 x.e, x.v, .slice ba l.length bc, .func (.func 162) #[] #[.pointer (some ⟨w.heap.size + 1 + 1, 0, none⟩)], .int .i64 x.e, x.v, undef, undef, undef, undef, undef, undef, undef], defers := [] }) ?assign ?body ?done
 case hRd =>
   rintro pre x W l' o o' ⟨hR, hR2⟩ hl' ho
   refine ⟨?_, hR2⟩
   exact hR.keepT (fun k _ ⟨cs, hk⟩ _ => World.putObj_heap_other (fun e => by subst e; rw [hk] at hl'; cases hl'; cases ho))
 case hKb =>
   intro W l' o o' hl' ho hc hw
   refine ⟨belowK_b (w := W0) hB0.size W l' o o' hl' ho hc hw, World.putObj_heap_other (by omega)⟩
 case assign =>
   intro l' x W K hK
   dsimp only [RX.enc]
   gi_wp2
   exact hK
 case body =>
   rintro l' pre x W hI hRd
   have HST := Lib.hid (fun (v5 : Value) (w5 : World) (o : Obj) (ov : Value) h4 => spl_step (w5 := w5) (v5 := v5) (ov := ov) (B := w.heap.size + 1 + 1 + 1) o hI h4 hRd rfl)
   obtain ⟨hlen, ⟨ov, hx4, hrow⟩, hx5, hea, hB, hHS⟩ := hI
   obtain ⟨hrd, hx1, hx2⟩ := hRd
   obtain ⟨xv, xl, xe⟩ := x
   obtain ⟨-, xa, xc, hxv, -⟩ := hrd.reads
   simp only at hxv
   subst hxv
   obtain ⟨-, oa, oc, hov, -⟩ := hrow.reads
   subst hov
   have hxe : 8 * (pre.length + 1) ≤ xe := by unfold lastE at hlen; simp only at hx1; omega
   simp only at hx2
   have hc4 := cellAt hx4 0 rfl
   have ht := hrow.typed
   gi_wp2_with (
     gi_at_builtin
     refine wpListIn_row elemRec rfl rfl (S := fun k => (w.heap.size ≤ k ∧ k ≠ w.heap.size + 1 + 1) ∧ Typed W 72 k) (n := pre.length) (xs := pre.map RX.v) rfl (ht.frame (fun k _ hk => Below.heap_alloc _ _ _ hk)) (y := .slice (some ⟨W.heap.size, 0, none⟩) 1 1) (m := 1) (news := [.slice xa xl.length xc]) rfl (reads_one W _ _) (one_of rfl) (by unfold maxLen; omega) (by omega) ?_
     intro v5 w5 hr5 hch5
     have hk4 := ((hch5.block w.heap.size (by have := lt_of_heap hx4; simp; omega) (fun ⟨_, cs, h⟩ => by rw [hx4] at h; simp at h)).trans (Below.heap_alloc _ _ _ (lt_of_heap hx4))).trans hx4
     have hk5 := ((hch5.block (w.heap.size + 1) (by have := lt_of_heap hx5; simp; omega) (fun ⟨_, cs, h⟩ => by rw [hx5] at h; simp at h)).trans (Below.heap_alloc _ _ _ (lt_of_heap hx5))).trans hx5
     have hc45 := cellAt hk4 0 rfl
     have hf45 := freeAt hk4 0
     have hc55 := cellAt hk5 0 rfl
     have hf55 := freeAt hk5 0
     obtain ⟨-, va, vc, hv5, -⟩ := hr5.reads
     subst hv5
     have HS5 := Lib.hid (HST.out _ _ _ _ hx4 hr5 hch5))
   exact HS5.out
 case done =>
   rintro D xs W hD ⟨hS1, hS2⟩ ⟨hlen, ⟨ov, hx4, hrow⟩, hx5, hea, hB, hHS⟩ hK
   obtain ⟨-, oa, oc, hov, -⟩ := hrow.reads
   subst hov
   have hc4 := cellAt hx4 0 rfl
   have hc5 := cellAt hx5 0 rfl
   have hmx : Tryz.prog.follows .mixedOrders = true := by kernel_rfl
   gi_wp2
   gi_region_o
   gi_wp2
   refine ⟨by simp, .inl ⟨_, _, rfl, run_takeDeferred (w := W.drew) hK, ?_⟩⟩
   refine ⟨_, results_tmp2 rfl _ _ _, oa, oc, xs, rfl, ?_, fun x hx => ?_, hS1, by omega, ?_⟩
   · refine (hrow.keepT (fun k _ ⟨cs, hk⟩ _ => ?_)).mono (fun k hk => hk.1)
     exact World.putObj_heap_other (fun e => by subst e; rw [hk] at hK; cases hK)
   · exact (hea x hx).keepT (fun k _ ⟨cs, hk⟩ _ => World.putObj_heap_other (fun e => by subst e; rw [hk] at hK; cases hK))
   · exact hB.trans ((Below.refl _ W).drew.trans (belowK_b (w := W0) hB0.size W.drew D _ _ hD hK rfl rfl))
end Go.Proofs.YtgdmdbdljmlkkaaGreatDoor
