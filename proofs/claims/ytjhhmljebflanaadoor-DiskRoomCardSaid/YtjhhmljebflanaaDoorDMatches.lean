/- DiskMatches: for all operations, the codes and the state of a disk are those of the reference. -/
import Derived.Test.YtjhhmljebflanaaDoorDBound
namespace Go.Proofs.YtjhhmljebflanaaDoor
set_option linter.unusedVariables false
set_option linter.unusedSimpArgs false
open Go.RowKit

/-- A disk and the disk of the reference, both made by the law; B: where the law keeps the reference's. -/
structure Duel (w0 w : World) (x : Value) (B : Nat) (D : DS) (room plan : Int) (down : Bool) (v : Value) (R : List RF) (S T : Nat → Prop) (s n : Nat) : Prop where
  d : DRep w x D S
  r : RLi w v R T
  bx : w.heap[B]? = some (.cells #[.int .i64 room, v, .int .i64 plan, .bool down] 46 (0, 0))
  rel : Rel D ⟨room, R.map RF.f, plan, down⟩
  bel : Below w0.heap.size w0 w
  sS : ∀ k, S k → w0.heap.size ≤ k ∧ k < w.heap.size ∧ k ≠ B
  sT : ∀ k, T k → w0.heap.size ≤ k ∧ k < w.heap.size ∧ k ≠ B ∧ ¬ S k
  bB : w0.heap.size ≤ B
  bnd : Bnd D s n

section
variable {w0 w w' : World} {x : Value} {B : Nat} {D : DS} {room plan : Int} {down : Bool} {v : Value} {R : List RF} {S T : Nat → Prop} {s n : Nat}
theorem Duel.later (h : Duel w0 w x B D room plan down v R S T s n) (hb : Below w.heap.size w w') : Duel w0 w' x B D room plan down v R S T s n where
  d := h.d.frame (fun k _ hk => hb.block k hk)
  r := h.r.below hb
  bx := (hb.block _ (lt_of_heap h.bx)).trans h.bx
  rel := h.rel
  bel := h.bel.trans (hb.mono h.bel.size)
  sS := fun k hk => ⟨(h.sS k hk).1, Nat.lt_of_lt_of_le (h.sS k hk).2.1 hb.size, (h.sS k hk).2.2⟩
  sT := fun k hk => ⟨(h.sT k hk).1, Nat.lt_of_lt_of_le (h.sT k hk).2.1 hb.size, (h.sT k hk).2.2⟩
  bB := h.bB
  bnd := h.bnd
end

/-- What the law says of one operation, behind both calls. -/
theorem Duel.acted {w0 w w1 w2 w3 : World} {x : Value} {B : Nat} {D : DS} {room plan : Int} {down : Bool} {v : Value} {R : List RF} {S T : Nat → Prop} {s n : Nat} (h : Duel w0 w x B D room plan down v R S T s n)
    {D' : DS} {F' : DS} {v' : Value} {R' : List RF} (hd : DRep w1 x D' (fun k => S k ∨ w.heap.size ≤ k)) (hc : Chg S w w1) (hr : RLi w2 v' R' (fun k => T k ∨ w1.heap.size ≤ k)) (hb : Below w1.heap.size w1 w2) (hf : R'.map RF.f = F'.files) (hrel : Rel D' F') {s' n' : Nat} (hbn : Bnd D' s' n')
    (hst : Chg (fun k => k = B) w2 w3) (hB3 : w3.heap[B]? = some (.cells #[.int .i64 F'.room, v', .int .i64 F'.plan, .bool F'.down] 46 (0, 0))) :
    Duel w0 w3 x B D' F'.room F'.plan F'.down v' R' (fun k => (S k ∨ w.heap.size ≤ k) ∧ k < w1.heap.size) (fun k => (T k ∨ w1.heap.size ≤ k) ∧ k < w2.heap.size) s' n' := by
  have hB := lt_of_heap h.bx
  have h0 := h.bel.size
  have h1 := hc.size
  have h2 := hb.size
  have h3 := hst.size
  have hBS : ¬ S B := fun e => (h.sS B e).2.2 rfl
  refine ⟨?_, ?_, hB3, ?_, ?_, ?_, ?_, h.bB, hbn⟩
  · refine (hd.tight.frame (fun k hk hl => hb.block k hl)).frame (fun k hk hl => hst.block k hl (fun e => ?_))
    have e2 : k = B := e
    rcases hk.1 with h9 | h9
    · exact (h.sS k h9).2.2 e2
    · omega
  · refine hr.tight.frame (fun k hk hl => hst.block k hl (fun e => ?_))
    have e2 : k = B := e
    rcases hk.1 with h9 | h9
    · exact (h.sT k h9).2.2.1 e2
    · omega
  · exact ⟨hrel.room, hrel.plan, hrel.down, hrel.nd, by show (R'.map RF.f).Pairwise below; rw [hf]; exact hrel.so, fun n => by show _ = findD (R'.map RF.f) n; rw [hf]; exact hrel.same n⟩
  · exact h.bel.trans ((hc.toBelow (B := w0.heap.size) h0 (fun k hk e => by have := (h.sS k e).1; omega)).trans ((hb.mono (by omega)).trans (hst.toBelow (by omega) (fun k hk e => by have e2 : k = B := e; have := h.bB; omega))))
  · rintro k ⟨hk | hk, hl⟩
    · exact ⟨(h.sS k hk).1, by omega, (h.sS k hk).2.2⟩
    · exact ⟨by omega, by omega, by omega⟩
  · rintro k ⟨hk | hk, hl⟩
    · have h9 := h.sT k hk
      exact ⟨h9.1, by omega, h9.2.2.1, fun e => by rcases e.1 with e | e; exact h9.2.2.2 e; omega⟩
    · exact ⟨by omega, by omega, by omega, fun e => by have := e.2; omega⟩

theorem AC.inw.ok {a : AC} {w0 w : World} {S : Nat → Prop} (h : a.inw w0) (hb : Below w0.heap.size w0 w) (hS : ∀ k, S k → w0.heap.size ≤ k) (h1 : a.b.length ≤ 100000) (h2 : smallA a) : a.ok w S where
  rb := h.rb.later hb
  nb := fun ad had h0 hk => by have := hS _ hk; have := h.nb ad had h0; omega
  rk := h.rk.later hb
  nk := fun ad had h0 hk => by have := hS _ hk; have := h.nk ad had h0; omega
  lb := h1
  lk := by have := h2.2.2; omega
  ln := by have := h2.1; omega
  lt := by have := h2.2.1; omega

/-- Both calls of one operation. -/
theorem Duel.act {w0 w : World} {x : Value} {B : Nat} {D : DS} {room plan : Int} {down : Bool} {v : Value} {R : List RF} {S T : Nat → Prop} {s n : Nat} (h : Duel w0 w x B D room plan down v R S T s n) (hs : s ≤ 1500) (hn : n ≤ 100) {a : AC} (ha : a.inw w0) (h1 : a.b.length ≤ 100000) (h2 : smallA a) :
    Calls Tryd.prog 19 #[x, a.val] w fun e w' => ∃ D' code bs c l k, ActD D a D' code bs ∧ e = .returned (.tuple #[.int .i64 code, .slice c l k]) ∧ l = bs.length ∧ Row w' 5 1 (.slice c bs.length k) bs.length (byts bs) (fun k => w.heap.size ≤ k) ∧ DRep w' x D' (fun k => S k ∨ w.heap.size ≤ k) ∧ Chg S w w' := by
  have hb := h.bnd
  refine (dact_any x a D S w h.d hb.plan (by have := hb.sum; omega) (by have := hb.len; omega) (fun f hf => by have := hb.nm f hf; unfold maxLen; omega) (ha.ok h.bel (fun k hk => (h.sS k hk).1) h1 h2)).mono ?_
  rintro e w' ⟨D', code, bs, v1, hact, rfl, hrow, hd, hc⟩
  obtain ⟨c, k, rfl⟩ := slice_form hrow
  exact ⟨D', code, bs, c, bs.length, k, hact, rfl, rfl, hrow, hd, hc⟩
theorem Duel.len {w0 w : World} {x : Value} {B : Nat} {D : DS} {room plan : Int} {down : Bool} {v : Value} {R : List RF} {S T : Nat → Prop} {s n : Nat} (h : Duel w0 w x B D room plan down v R S T s n) : R.length ≤ n ∧ sumR R ≤ s := by
  have h1 := h.rel.len
  have h2 := h.rel.sum
  simp only [List.length_map] at h1
  rw [← sumR_f] at h2
  have := h.bnd.len
  have := h.bnd.sum
  omega

theorem Acts.later {w w' : World} {v : Value} {l : List AC} (h : Acts w v l) (hb : Below w.heap.size w w') : Acts w' v l :=
  ⟨h.rd.later hb, fun a ha => by
    have h1 := h.ea a ha
    have h2 := hb.size
    exact ⟨h1.rb.later hb, fun ad e h0 => Nat.lt_of_lt_of_le (h1.nb ad e h0) h2, h1.rk.later hb, fun ad e h0 => Nat.lt_of_lt_of_le (h1.nk ad e h0) h2, h1.lb, h1.lk, h1.ln, h1.lt, h1.an⟩, h.ll⟩
theorem cells6 {w : World} {b : Nat} {x0 x1 x2 x3 x4 x5 : Value} {t : TypeId} {fr : Nat × Nat} (h : w.heap[b]? = some (.cells #[x0, x1, x2, x3, x4, x5] t fr)) :
    w.cell? ⟨b, 0, none⟩ = some x0 ∧ w.cell? ⟨b, 1, none⟩ = some x1 ∧ w.cell? ⟨b, 2, none⟩ = some x2 ∧ w.cell? ⟨b, 3, none⟩ = some x3 ∧ w.cell? ⟨b, 4, none⟩ = some x4 ∧ w.cell? ⟨b, 5, none⟩ = some x5 :=
  ⟨cellAt h 0 rfl, cellAt h 1 rfl, cellAt h 2 rfl, cellAt h 3 rfl, cellAt h 4 rfl, cellAt h 5 rfl⟩
theorem sumA_take (l : List AC) (m : Nat) : sumA (l.take m) ≤ sumA l := by
  conv => rhs; rw [← List.take_append_drop m l]
  unfold sumA
  rw [List.map_append, List.sum_append]; omega
theorem mem_sumA {l : List AC} {a : AC} (h : a ∈ l) : a.b.length ≤ sumA l := by
  unfold sumA
  induction l with
  | nil => cases h
  | cons b l ih =>
    rw [List.map_cons, List.sum_cons]
    rcases List.mem_cons.1 h with rfl | h
    · omega
    · have := ih h; omega

set_option maxRecDepth 100000 in
set_option maxHeartbeats 4000000 in
theorem matches_any (room : Int) (la : Option Addr) (lc : Nat) (l : List AC) (w : World) (h : Acts w (.slice la l.length lc) l) :
    Calls Tryd.prog 5 #[.int .i64 room, .slice la l.length lc] w fun e w' => e = .returned (.bool true) ∧ Below w.heap.size w w' := by
  have HA := Lib.hid h
  clear h
  go_enter Tryd.func5, Tryd.ntmps5
  go_wp2_with fail
  refine (new_any room w).mono ?_
  rintro e w1 ⟨x, rfl, hr1, hb1⟩
  obtain ⟨bx, rfl⟩ : ∃ bx, x = .pointer (some ⟨bx, 0, none⟩) := by
    obtain ⟨bx, bm, col, pv, h, -⟩ := hr1
    exact ⟨bx, h⟩
  have HB1 := Lib.hid hb1
  have HD1 := Lib.hid hr1.tight
  clear hr1 hb1
  go_wp2_with fail
  refine (few_any la lc l w1 (HA.out.later HB1.out)).mono ?_
  rintro e w2 ⟨r, rfl, hfew, hb2⟩
  have HB2 := Lib.hid (HB1.out.trans (hb2.mono HB1.out.size))
  have HD2 := Lib.hid (HD1.out.frame (fun k _ hk => hb2.block k hk))
  have HS2 := Lib.hid hb2.size
  clear hb2 HD1
  cases r with
  | false =>
    simp only [Bool.false_eq_true, if_false]
    go_wp2_with fail
    refine (alive_any _).mono ?_
    rintro e w3 ⟨rfl, hb⟩
    have HB := Lib.hid (HB2.out.trans (hb.mono HB2.out.size))
    clear hb
    go_wp2
    go_ret
    exact ⟨rfl, HB.out⟩
  | true =>
    simp only [if_true]
    have HF := Lib.hid (hfew rfl)
    clear hfew
    go_upto_region 5 with fail
    have HDU : Hid (Duel w (w2.alloc (.cells #[.int .i64 (max room 0), .slice none 0 0, .int .i64 0, .bool false] 46)) (.pointer (some ⟨bx, 0, none⟩)) w2.heap.size ⟨max room 0, [], 0, false⟩ (max room 0) 0 false (.slice none 0 0) [] (fun k => w.heap.size ≤ k ∧ k < w1.heap.size) (fun _ => False) (sumA (l.take 0)) 0) := by
      have h1 := HB2.out.size
      have h2 := HS2.out
      refine ⟨HD2.out.frame (fun k _ hk => Below.heap_alloc _ _ _ hk), RLi.nil _ _, heap_alloc_new _ _, ⟨rfl, rfl, rfl, List.Pairwise.nil, List.Pairwise.nil, fun _ => rfl⟩, HB2.out.alloc h1 _, fun k hk => ⟨hk.1, by rw [World.size_alloc]; omega, by omega⟩, fun k hk => hk.elim, h1, ?_⟩
      exact ⟨Nat.zero_le _, Nat.le_refl _, fun f hf => (List.not_mem_nil hf).elim, List.Pairwise.nil, by show (0 : Int) ≤ 0 ∧ (0 : Int) ≤ 9223372036854775807; omega⟩
    obtain ⟨B, hB⟩ : ∃ B, B = w2.heap.size := ⟨_, rfl⟩
    rw [← hB] at HDU ⊢
    generalize w2.alloc (.cells #[.int .i64 (max room 0), .slice none 0 0, .int .i64 0, .bool false] 46) = w3 at *
    clear HD2 HB2 HS2 HB1 hB
    go_wp2_with fail
    go_loopw [33] (fun i w' => ∃ (m : Nat) (D : DS) (room plan : Int) (down : Bool) (v : Value) (R : List RF) (S T : Nat → Prop), m ≤ l.length ∧ i = .int .i64 m ∧ Hid (Duel w w' (.pointer (some ⟨bx, 0, none⟩)) B D room plan down v R S T (sumA (l.take m)) m)) (fun i _ => l.length - (RowKit.intOf i).toNat)
    case atStart => exact ⟨0, _, _, _, _, _, _, _, _, by omega, rfl, HDU⟩
    case round =>
      obtain ⟨m, D, room1, plan, down, v, R, S, T, hm, rfl, HD⟩ := hrel
      have hl100 := HF.out.len
      by_cases hlt : m < l.length
      · obtain ⟨b, o, c, he, hcap, hb, hcell⟩ := (HA.out.later HD.out.bel).cells (by omega)
        obtain ⟨rfl, rfl⟩ : la = some ⟨b, o, none⟩ ∧ lc = c := by cases he; exact ⟨rfl, rfl⟩
        obtain ⟨c0, c1, c2, c3, c4, c5⟩ := hcell m hlt
        have HIN := Lib.hid (HA.out.ea l[m] (List.getElem_mem hlt))
        have HSM := Lib.hid (HF.out.small l[m] (List.getElem_mem hlt))
        have HSU := Lib.hid (sumA_succ hlt)
        have HSL : Hid (sumA (l.take m) ≤ 1500 ∧ l[m].b.length ≤ 1500) := ⟨Nat.le_trans (sumA_take l m) HF.out.sum, Nat.le_trans (mem_sumA (List.getElem_mem hlt)) HF.out.sum⟩
        clear hcell he
        generalize l[m] = a at *
        obtain ⟨va, vc, rfl⟩ := slice_form HD.out.r.row
        have hsz := HD.out.bel.size
        have hba : Below wr.heap.size wr (wr.alloc (.cells #[.int .i64 a.k, .string a.name, .string a.to, .slice a.ba a.b.length a.bc, .int .i64 a.n, .slice a.ka a.keep.length a.kc] 41)) := (Below.refl _ _).alloc (Nat.le_refl _) _
        have HX8 : Hid ((wr.alloc (.cells #[.int .i64 a.k, .string a.name, .string a.to, .slice a.ba a.b.length a.bc, .int .i64 a.n, .slice a.ka a.keep.length a.kc] 41)).heap[wr.heap.size]? = some (.cells #[.int .i64 a.k, .string a.name, .string a.to, .slice a.ba a.b.length a.bc, .int .i64 a.n, .slice a.ka a.keep.length a.kc] 41 (0, 0))) := heap_alloc_new _ _
        have HDA := Lib.hid (HD.out.later hba)
        have HSS : Hid (∀ k, S k → k < wr.heap.size) := fun k hk => (HD.out.sS k hk).2.1
        go_upto_region 8 with fail
        generalize wr.alloc (.cells #[.int .i64 a.k, .string a.name, .string a.to, .slice a.ba a.b.length a.bc, .int .i64 a.n, .slice a.ka a.keep.length a.kc] 41) = wa at *
        clear c0 c1 c2 c3 c4 c5 hba HD
        obtain ⟨y0, y1, y2, y3, y4, y5⟩ := cells6 HX8.out
        have HCD := Lib.hid (HDA.out.act HSL.out.1 (by omega) HIN.out (by have := HSL.out.2; omega) HSM.out)
        simp only [AC.val] at HCD
        go_wp2_with fail
        refine HCD.out.mono ?_
        rintro e w4 ⟨D', code, bs, rc, rl, rk, hact, rfl, hrl, hrow, hd4, hc4⟩
        subst hrl
        have HACT := Lib.hid hact
        have HROW4 := Lib.hid hrow
        have HD4 := Lib.hid hd4
        have HC4 := Lib.hid hc4
        have HX4 := Lib.hid (hc4.heap HX8.out (fun e => Nat.lt_irrefl _ (HSS.out _ e)))
        have HBX4 := Lib.hid (hc4.heap HDA.out.bx (fun e => (HDA.out.sS B e).2.2 rfl))
        have HR4 := Lib.hid (HDA.out.r.frame (fun k hk hl => hc4.block k hl (HDA.out.sT k hk).2.2.2))
        clear hact hrow hd4 hc4 y0 y1 y2 y3 y4 y5 HX8 HCD
        obtain ⟨y0, y1, y2, y3, y4, y5⟩ := cells6 HX4.out
        obtain ⟨x0, x1, x2, x3⟩ := cells4 HBX4.out
        have hra := rel_act HDA.out.rel HACT.out
        have hbn := bnd_act HDA.out.bnd HACT.out HSM.out HIN.out.an
        rw [← HSU.out] at hbn
        have HBN := Lib.hid hbn
        have hbw4 : Below w.heap.size w w4 := HDA.out.bel.trans (HC4.out.toBelow HDA.out.bel.size (fun k hk e => by have := (HDA.out.sS k e).1; omega))
        have hlen := HDA.out.len
        have hpl : 0 ≤ plan ∧ plan ≤ 9223372036854775807 := by have h1 := HDA.out.bnd.plan; have h2 : D.plan = plan := HDA.out.rel.plan; omega
        have HMO := Lib.hid (model_any room1 plan down _ R T a w4 HR4.out (by omega) hpl (HIN.out.ok (S := fun _ => False) hbw4 (fun k hk => hk.elim) (by have := HSL.out.2; omega) HSM.out) (by have := HSL.out.1; omega))
        obtain ⟨⟨⟨room2, fl2, plan2, down2⟩, c2, bs2⟩, hMF⟩ : ∃ r, r = actF ⟨room1, R.map RF.f, plan, down⟩ a := ⟨_, rfl⟩
        rw [← hMF] at hra HMO
        obtain ⟨hc2, hbs2, hrel2⟩ := hra
        simp only at hc2 hbs2 hrel2
        subst hc2
        subst hbs2
        have HREL2 := Lib.hid hrel2
        have HBSL : Hid (bs.length ≤ 1500) := Nat.le_trans hbn.2 HSL.out.1
        simp only [AC.val] at HMO
        clear hMF hrel2 hbn hbw4 hlen hpl HACT
        go_wp2_with fail
        refine HMO.out.mono ?_
        rintro e w5 ⟨v5, R5, rv5, rfl, hf5, hr5, hrow5, hb5⟩
        simp only at hf5 hrow5
        obtain ⟨a5, k5, rfl⟩ := slice_form hr5.row
        obtain ⟨a6, k6, rfl⟩ := slice_form hrow5
        have HF5 := Lib.hid hf5
        have HR5 := Lib.hid hr5
        have HROW5 := Lib.hid hrow5
        have HB5 := Lib.hid hb5
        have HBX5 := Lib.hid ((hb5.block _ (lt_of_heap HBX4.out)).trans HBX4.out)
        clear hf5 hr5 hrow5 hb5 x0 x1 x2 x3 y0 y1 y2 y3 y4 y5 HMO HBX4 HX4 HR4
        simp only at *
        go_upto_region 10 with fail
        have hb6 : Below w5.heap.size w5 (w5.alloc (.cells #[.int .i64 room2, .slice a5 R5.length k5, .int .i64 plan2, .bool down2] 46)) := (Below.refl _ _).alloc (Nat.le_refl _) _
        have HX6 : Hid ((w5.alloc (.cells #[.int .i64 room2, .slice a5 R5.length k5, .int .i64 plan2, .bool down2] 46)).heap[w5.heap.size]? = some (.cells #[.int .i64 room2, .slice a5 R5.length k5, .int .i64 plan2, .bool down2] 46 (0, 0))) := heap_alloc_new _ _
        have HBX6 := Lib.hid ((hb6.block _ (lt_of_heap HBX5.out)).trans HBX5.out)
        have HB6 := Lib.hid (HB5.out.trans (hb6.mono HB5.out.size))
        have HR6 := Lib.hid (HR5.out.below hb6)
        generalize w5.alloc (.cells #[.int .i64 room2, .slice a5 R5.length k5, .int .i64 plan2, .bool down2] 46) = w6 at *
        obtain ⟨y0, y1, y2, y3⟩ := cells4 HX6.out
        obtain ⟨x0, x1, x2, x3⟩ := cells4 HBX6.out
        have f0 := freeAt HBX6.out 0
        have f1 := freeAt HBX6.out 1
        have f2 := freeAt HBX6.out 2
        have f3 := freeAt HBX6.out 3
        go_upto_region 11 with fail
        have HB7 := Lib.hid (heap_store (heap_store (heap_store (heap_store HBX6.out 0 (.int .i64 room2)) 1 (.slice a5 R5.length k5)) 2 (.int .i64 plan2)) 3 (.bool down2))
        have HC7 : Hid (Chg (fun k => k = B) w6 ((((w6.setCell ⟨B, 0, none⟩ (.int .i64 room2)).setCell ⟨B, 1, none⟩ (.slice a5 R5.length k5)).setCell ⟨B, 2, none⟩ (.int .i64 plan2)).setCell ⟨B, 3, none⟩ (.bool down2))) := ((((Chg.refl (fun k => k = B) _).setCell (p := ⟨B, 0, none⟩) (.inl rfl) _).setCell (p := ⟨B, 1, none⟩) (.inl rfl) _).setCell (p := ⟨B, 2, none⟩) (.inl rfl) _).setCell (p := ⟨B, 3, none⟩) (.inl rfl) _
        generalize ((((w6.setCell ⟨B, 0, none⟩ (.int .i64 room2)).setCell ⟨B, 1, none⟩ (.slice a5 R5.length k5)).setCell ⟨B, 2, none⟩ (.int .i64 plan2)).setCell ⟨B, 3, none⟩ (.bool down2)) = w7 at *
        have HDU7 := Lib.hid (HDA.out.acted (F' := ⟨room2, fl2, plan2, down2⟩) HD4.out HC4.out HR6.out HB6.out HF5.out HREL2.out HBN.out.1 HC7.out HB7.out)
        have hBw := lt_of_heap HDA.out.bx
        have hc4s := HC4.out.size
        have HG1 : Hid (Reads w7 (.slice rc bs.length rk) bs.length 1 (byts bs)) := ((HROW4.out.frame (fun k _ hk => HB6.out.block k hk)).frame (fun k hk hl => HC7.out.block k hl (fun e => by have e2 : k = B := e; omega))).reads
        have HG2 : Hid (Reads w7 (.slice a6 bs.length k6) bs.length 1 (byts bs)) := ((HROW5.out.frame (fun k _ hk => hb6.block k hk)).frame (fun k hk hl => HC7.out.block k hl (fun e => by have e2 : k = B := e; rcases hk with hk | hk; exact (HDA.out.sT k hk).2.2.1 e2; omega))).reads
        clear x0 x1 x2 x3 y0 y1 y2 y3 f0 f1 f2 f3 hBw hc4s HROW4 HROW5 HB7 HC7 HBX6 HX6 HR6 HB6 HR5 HB5 HBX5 HD4 HC4 HDA hb6
        simp only at HDU7
        go_wp2_with fail
        have h9 := bequal_any rc a6 rk k6 bs bs w7 HG1.out HG2.out (by have := HBSL.out; omega) (by have := HBSL.out; omega)
        have hde : decide (bs = bs) = true := decide_eq_true (Eq.refl bs)
        rw [hde] at h9
        refine h9.mono ?_
        rintro e w8 ⟨rfl, hb8⟩
        have HDU8 := Lib.hid (HDU7.out.later hb8)
        clear h9 hde hb8 HG1 HG2 HDU7
        obtain ⟨x0, x1, x2, x3⟩ := cells4 HDU8.out.bx
        go_wp2_with fail
        have hle := HDU8.out.len
        have hbb := HDU8.out.bnd
        have hs5 : sumA (l.take (m + 1)) ≤ 1500 := Nat.le_trans (sumA_take l (m + 1)) HF.out.sum
        refine (same_any _ D' _ room2 plan2 down2 _ R5 _ w8 HDU8.out.d HDU8.out.r HDU8.out.rel (by have := hbb.sum; omega) (by omega) (fun f hf => by have := hbb.nm f hf; unfold maxLen; omega)).mono ?_
        rintro e w9 ⟨rfl, hb9⟩
        have HDU9 := Lib.hid (HDU8.out.later hb9)
        clear x0 x1 x2 x3 hle hbb hs5 hb9 HDU8
        go_wp2
        go_roundw
        case rel => exact ⟨m + 1, D', room2, plan2, down2, _, R5, _, _, by omega, by go_num, HDU9⟩
        case measure => simp [RowKit.intOf]; omega
      · obtain rfl : m = l.length := by omega
        go_wp2_with fail
        refine (alive_any _).mono ?_
        rintro e w3 ⟨rfl, hb⟩
        have HB := Lib.hid (HD.out.bel.trans (hb.mono HD.out.bel.size))
        clear hb
        go_wp2
        go_ret
        exact ⟨rfl, HB.out⟩
end Go.Proofs.YtjhhmljebflanaaDoor
