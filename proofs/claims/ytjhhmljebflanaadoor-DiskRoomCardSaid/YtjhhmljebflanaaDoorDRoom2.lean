/- DiskRoom: the walk. -/
import Derived.Test.YtjhhmljebflanaaDoorDRoom
namespace Go.Proofs.YtjhhmljebflanaaDoor
set_option linter.unusedVariables false
set_option linter.unusedSimpArgs false
open Go.RowKit

structure Solo (w0 w : World) (x : Value) (D : DS) (S : Nat → Prop) (s n : Nat) (F : DS) (k0 : Int) : Prop where
  d : DRep w x D S
  rel : Rel D F
  bel : Below w0.heap.size w0 w
  sS : ∀ k, S k → w0.heap.size ≤ k ∧ k < w.heap.size
  bnd : Bnd D s n
  rm : (sumD D.files : Int) ≤ D.room ∧ D.room = k0
theorem Solo.later {w0 w w' : World} {x : Value} {D : DS} {S : Nat → Prop} {s n : Nat} {F : DS} {k0 : Int} (h : Solo w0 w x D S s n F k0) (hb : Below w.heap.size w w') : Solo w0 w' x D S s n F k0 :=
  ⟨h.d.frame (fun k _ hk => hb.block k hk), h.rel, h.bel.trans (hb.mono h.bel.size), fun k hk => ⟨(h.sS k hk).1, Nat.lt_of_lt_of_le (h.sS k hk).2 hb.size⟩, h.bnd, h.rm⟩

/-- The disk rests; the reference goes through the operations. -/
structure Echo (w0 w : World) (x : Value) (B : Nat) (D : DS) (room plan : Int) (down : Bool) (v : Value) (R : List RF) (S T : Nat → Prop) (F : DS) : Prop where
  d : DRep w x D S
  r : RLi w v R T
  bx : w.heap[B]? = some (.cells #[.int .i64 room, v, .int .i64 plan, .bool down] 46 (0, 0))
  eq : F = ⟨room, R.map RF.f, plan, down⟩
  bel : Below w0.heap.size w0 w
  sS : ∀ k, S k → k < w.heap.size ∧ k ≠ B
  sT : ∀ k, T k → k < w.heap.size ∧ k ≠ B
  bB : w0.heap.size ≤ B
theorem Echo.later {w0 w w' : World} {x : Value} {B : Nat} {D : DS} {room plan : Int} {down : Bool} {v : Value} {R : List RF} {S T : Nat → Prop} {F : DS} (h : Echo w0 w x B D room plan down v R S T F) (hb : Below w.heap.size w w') : Echo w0 w' x B D room plan down v R S T F :=
  ⟨h.d.frame (fun k _ hk => hb.block k hk), h.r.below hb, (hb.block _ (lt_of_heap h.bx)).trans h.bx, h.eq, h.bel.trans (hb.mono h.bel.size), fun k hk => ⟨Nat.lt_of_lt_of_le (h.sS k hk).1 hb.size, (h.sS k hk).2⟩, fun k hk => ⟨Nat.lt_of_lt_of_le (h.sT k hk).1 hb.size, (h.sT k hk).2⟩, h.bB⟩
theorem Echo.acted {w0 w w2 w3 : World} {x : Value} {B : Nat} {D : DS} {room plan : Int} {down : Bool} {v : Value} {R : List RF} {S T : Nat → Prop} {F F' : DS} (h : Echo w0 w x B D room plan down v R S T F) {v' : Value} {R' : List RF}
    (hr : RLi w2 v' R' (fun k => T k ∨ w.heap.size ≤ k)) (hb : Below w.heap.size w w2) (hf : R'.map RF.f = F'.files) (hst : Chg (fun k => k = B) w2 w3) (hB3 : w3.heap[B]? = some (.cells #[.int .i64 F'.room, v', .int .i64 F'.plan, .bool F'.down] 46 (0, 0))) :
    Echo w0 w3 x B D F'.room F'.plan F'.down v' R' S (fun k => (T k ∨ w.heap.size ≤ k) ∧ k < w2.heap.size) F' := by
  have hB := lt_of_heap h.bx
  have h0 := h.bel.size
  have h2 := hb.size
  have h3 := hst.size
  refine ⟨(h.d.frame (fun k _ hl => hb.block k hl)).frame (fun k hk hl => hst.block k hl (fun e => (h.sS k hk).2 e)), ?_, hB3, by rw [hf], ?_, fun k hk => ⟨by have := (h.sS k hk).1; omega, (h.sS k hk).2⟩, ?_, h.bB⟩
  · refine hr.tight.frame (fun k hk hl => hst.block k hl (fun e => ?_))
    have e2 : k = B := e
    rcases hk.1 with h9 | h9
    · exact (h.sT k h9).2 e2
    · omega
  · exact h.bel.trans ((hb.mono h0).trans (hst.toBelow (by omega) (fun k hk e => by have e2 : k = B := e; have := h.bB; omega)))
  · rintro k ⟨hk | hk, hl⟩
    · exact ⟨by omega, (h.sT k hk).2⟩
    · exact ⟨by omega, by omega⟩

set_option maxRecDepth 100000 in
set_option maxHeartbeats 4000000 in
theorem room_any (k0 : Nat) (hk0 : k0 < 256) (la : Option Addr) (lc : Nat) (l : List AC) (w : World) (h : Acts w (.slice la l.length lc) l) :
    Calls Tryd.prog 4 #[.int .u8 k0, .slice la l.length lc] w fun e w' => e = .returned (.bool true) ∧ Below w.heap.size w w' := by
  have HA := Lib.hid h
  clear h
  have hmx : max (k0 : Int) 0 = (k0 : Int) := by omega
  have HMX := Lib.hid hmx
  clear hmx
  go_enter Tryd.func4, Tryd.ntmps4
  go_wp2_with fail
  refine (new_any (k0 : Int) w).mono ?_
  rintro e w1 ⟨x, rfl, hr1, hb1⟩
  rw [HMX.out] at hr1
  obtain ⟨bx, rfl⟩ : ∃ bx, x = .pointer (some ⟨bx, 0, none⟩) := by
    obtain ⟨bx, bm, col, pv, h, -⟩ := hr1
    exact ⟨bx, h⟩
  have HB1 := Lib.hid hb1
  have HD1 := Lib.hid hr1.tight
  clear hr1 hb1
  go_wp2_with fail
  refine (few_any la lc l w1 (HA.out.later HB1.out)).mono ?_
  rintro e w2 ⟨r, rfl, hfew, hb2⟩
  have HB2 := Lib.hid (HB1.out.trans (hb2.mono HB1.out.size))
  have HD2 := Lib.hid (HD1.out.frame (fun k _ hk => hb2.block k hk))
  have HS2 := Lib.hid hb2.size
  clear hb2 HD1
  cases r with
  | false =>
    simp only [Bool.false_eq_true, if_false]
    go_wp2_with fail
    refine (alive_any _).mono ?_
    rintro e w3 ⟨rfl, hb⟩
    have HB := Lib.hid (HB2.out.trans (hb.mono HB2.out.size))
    clear hb
    go_wp2
    go_ret
    exact ⟨rfl, HB.out⟩
  | true =>
    simp only [if_true]
    have HF := Lib.hid (hfew rfl)
    clear hfew
    obtain ⟨F0, hF0⟩ : ∃ F0 : DS, F0 = ⟨(k0 : Int), [], 0, false⟩ := ⟨_, rfl⟩
    have HSO : Hid (Solo w w2 (.pointer (some ⟨bx, 0, none⟩)) ⟨(k0 : Int), [], 0, false⟩ (fun k => w.heap.size ≤ k ∧ k < w1.heap.size) (sumA (l.take 0)) 0 (runF F0 l 0) k0) := by
      have h2 := HS2.out
      refine ⟨HD2.out, by rw [hF0]; exact ⟨rfl, rfl, rfl, List.Pairwise.nil, List.Pairwise.nil, fun _ => rfl⟩, HB2.out, fun k hk => ⟨hk.1, by omega⟩, ⟨Nat.zero_le _, Nat.le_refl _, fun f hf => (List.not_mem_nil hf).elim, List.Pairwise.nil, by show (0 : Int) ≤ 0 ∧ (0 : Int) ≤ 9223372036854775807; omega⟩, ?_, rfl⟩
      show ((sumD [] : Nat) : Int) ≤ (k0 : Int)
      have : sumD [] = 0 := rfl
      rw [this]; omega
    have HF0 := Lib.hid hF0
    clear hF0 HD2 HB2 HS2 HB1
    go_wp2_with fail
    go_loopw [28] (fun i w' => ∃ (m : Nat) (D : DS) (S : Nat → Prop), m ≤ l.length ∧ i = .int .i64 m ∧ Hid (Solo w w' (.pointer (some ⟨bx, 0, none⟩)) D S (sumA (l.take m)) m (runF F0 l m) k0)) (fun i _ => l.length - (RowKit.intOf i).toNat)
    case atStart => exact ⟨0, _, _, by omega, rfl, HSO⟩
    case round =>
      obtain ⟨m, D, S, hm, rfl, HD⟩ := hrel
      have hl100 := HF.out.len
      by_cases hlt : m < l.length
      · obtain ⟨b, o, c, he, hcap, hb, hcell⟩ := (HA.out.later HD.out.bel).cells (by omega)
        obtain ⟨rfl, rfl⟩ : la = some ⟨b, o, none⟩ ∧ lc = c := by cases he; exact ⟨rfl, rfl⟩
        obtain ⟨c0, c1, c2, c3, c4, c5⟩ := hcell m hlt
        have HIN := Lib.hid (HA.out.ea l[m] (List.getElem_mem hlt))
        have HSM := Lib.hid (HF.out.small l[m] (List.getElem_mem hlt))
        have HSU := Lib.hid (sumA_succ hlt)
        have HRN := Lib.hid (runF_succ F0 hlt)
        have HSL : Hid (sumA (l.take m) ≤ 1500 ∧ l[m].b.length ≤ 1500) := ⟨Nat.le_trans (sumA_take l m) HF.out.sum, Nat.le_trans (mem_sumA (List.getElem_mem hlt)) HF.out.sum⟩
        clear hcell he
        generalize l[m] = a at *
        have hsz := HD.out.bel.size
        have hba : Below wr.heap.size wr (wr.alloc (.cells #[.int .i64 a.k, .string a.name, .string a.to, .slice a.ba a.b.length a.bc, .int .i64 a.n, .slice a.ka a.keep.length a.kc] 41)) := (Below.refl _ _).alloc (Nat.le_refl _) _
        have HX8 : Hid ((wr.alloc (.cells #[.int .i64 a.k, .string a.name, .string a.to, .slice a.ba a.b.length a.bc, .int .i64 a.n, .slice a.ka a.keep.length a.kc] 41)).heap[wr.heap.size]? = some (.cells #[.int .i64 a.k, .string a.name, .string a.to, .slice a.ba a.b.length a.bc, .int .i64 a.n, .slice a.ka a.keep.length a.kc] 41 (0, 0))) := heap_alloc_new _ _
        have HDA := Lib.hid (HD.out.later hba)
        go_upto_region 7 with fail
        generalize wr.alloc (.cells #[.int .i64 a.k, .string a.name, .string a.to, .slice a.ba a.b.length a.bc, .int .i64 a.n, .slice a.ka a.keep.length a.kc] 41) = wa at *
        clear c0 c1 c2 c3 c4 c5 hba HD
        obtain ⟨y0, y1, y2, y3, y4, y5⟩ := cells6 HX8.out
        have HCD := Lib.hid (dact_any _ a D S wa HDA.out.d HDA.out.bnd.plan (by have := HDA.out.bnd.sum; have := HSL.out.1; omega) (by have := HDA.out.bnd.len; omega) (fun f hf => by have := HDA.out.bnd.nm f hf; unfold maxLen; omega) (HIN.out.ok HDA.out.bel (fun k hk => (HDA.out.sS k hk).1) (by have := HSL.out.2; omega) HSM.out))
        simp only [AC.val] at HCD
        go_wp2_with fail
        refine HCD.out.mono ?_
        rintro e w4 ⟨D', code, bs, v4, hact, rfl, hrow, hd4, hc4⟩
        have hrel' := (rel_act HDA.out.rel hact).2.2
        have hbn := (bnd_act HDA.out.bnd hact HSM.out HIN.out.an).1
        have hrm := act_room HDA.out.bnd hact HSM.out HDA.out.rm.1
        rw [← HRN.out] at hrel'
        rw [← HSU.out] at hbn
        have HS4 : Hid (Solo w w4 (.pointer (some ⟨bx, 0, none⟩)) D' (fun k => (S k ∨ wa.heap.size ≤ k) ∧ k < w4.heap.size) (sumA (l.take (m + 1))) (m + 1) (runF F0 l (m + 1)) k0) := by
          have h1 := HDA.out.bel.size
          have h2 := hc4.size
          refine ⟨hd4.tight, hrel', HDA.out.bel.trans (hc4.toBelow h1 (fun k hk e => by have := (HDA.out.sS k e).1; omega)), ?_, hbn, hrm.1, hrm.2.trans HDA.out.rm.2⟩
          rintro k ⟨hk | hk, hl⟩
          · exact ⟨(HDA.out.sS k hk).1, hl⟩
          · exact ⟨by omega, hl⟩
        clear hact hrow hd4 hc4 y0 y1 y2 y3 y4 y5 HX8 HCD hrel' hbn hrm HDA
        go_wp2_with fail
        have hsum : sumD D'.files ≤ 1000000000 := by have h1 := HS4.out.bnd.sum; have h2 := sumA_take l (m + 1); have h3 := HF.out.sum; omega
        refine (used_any _ D' _ w4 HS4.out.d hsum).mono ?_
        rintro e w5 ⟨rfl, hb5⟩
        have HS5 := Lib.hid (HS4.out.later hb5)
        have hle : ¬ (k0 : Int) < (sumD D'.files : Int) := by have := HS4.out.rm; omega
        clear hb5 HS4
        generalize sumD D'.files = sd at *
        go_wp2
        go_roundw
        case rel => exact ⟨m + 1, D', _, by omega, by go_num, HS5⟩
        case measure => simp [RowKit.intOf]; omega
      · obtain rfl : m = l.length := by omega
        go_upto_region 12 with fail
        have HRR : Hid (∀ m, m ≤ l.length → ∃ D, Rel D (runF F0 l m) ∧ Bnd D (sumA (l.take m)) m) := fun m hm => by rw [HF0.out]; exact run_rel HA.out HF.out _ m hm
        have HEC : Hid (Echo w (wr.alloc (.cells #[.int .i64 k0, .slice none 0 0, .int .i64 0, .bool false] 46)) (.pointer (some ⟨bx, 0, none⟩)) wr.heap.size D k0 0 false (.slice none 0 0) [] S (fun _ => False) (runF F0 l 0)) := by
          have h1 := HD.out.bel.size
          refine ⟨HD.out.d.frame (fun k _ hk => Below.heap_alloc _ _ _ hk), RLi.nil _ _, heap_alloc_new _ _, HF0.out, HD.out.bel.alloc h1 _, fun k hk => ⟨by rw [World.size_alloc]; have := (HD.out.sS k hk).2; omega, by have := (HD.out.sS k hk).2; omega⟩, fun k hk => hk.elim, h1⟩
        have HRL := Lib.hid HD.out.rel
        have HBD := Lib.hid HD.out.bnd
        obtain ⟨B, hB⟩ : ∃ B, B = wr.heap.size := ⟨_, rfl⟩
        rw [← hB] at HEC ⊢
        generalize wr.alloc (.cells #[.int .i64 k0, .slice none 0 0, .int .i64 0, .bool false] 46) = w3 at *
        clear HD hB
        clear wr
        go_wp2_with fail
        go_loopw [46] (fun i w' => ∃ (m : Nat) (room plan : Int) (down : Bool) (v : Value) (R : List RF) (T : Nat → Prop), m ≤ l.length ∧ i = .int .i64 m ∧ Hid (Echo w w' (.pointer (some ⟨bx, 0, none⟩)) B D room plan down v R S T (runF F0 l m))) (fun i _ => l.length - (RowKit.intOf i).toNat)
        case atStart => exact ⟨0, _, _, _, _, _, _, by omega, rfl, HEC⟩
        case round =>
          obtain ⟨m, room1, plan, down, v, R, T, hm, rfl, HE⟩ := hrel
          obtain ⟨va, vc, rfl⟩ := slice_form HE.out.r.row
          obtain ⟨Dm, hrm, hbm⟩ := HRR.out m hm
          have hsA := Nat.le_trans (sumA_take l m) HF.out.sum
          have HBN : Hid (R.length ≤ 100 ∧ sumR R ≤ 1500 ∧ 0 ≤ plan ∧ plan ≤ 9223372036854775807) := by
            rw [HE.out.eq] at hrm
            have h1 := hrm.len
            have h2 := hrm.sum
            have h3 : Dm.plan = plan := hrm.plan
            simp only [List.length_map] at h1
            rw [← sumR_f] at h2
            have h4 := hbm.len
            have h5 := hbm.sum
            have h6 := hbm.plan
            exact ⟨by omega, by omega, by omega⟩
          clear hrm hbm hsA
          by_cases hlt : m < l.length
          · obtain ⟨b, o, c, he, hcap, hb, hcell⟩ := (HA.out.later HE.out.bel).cells (by omega)
            obtain ⟨rfl, rfl⟩ : la = some ⟨b, o, none⟩ ∧ lc = c := by cases he; exact ⟨rfl, rfl⟩
            obtain ⟨c0, c1, c2, c3, c4, c5⟩ := hcell m hlt
            have HIN := Lib.hid (HA.out.ea l[m] (List.getElem_mem hlt))
            have HSM := Lib.hid (HF.out.small l[m] (List.getElem_mem hlt))
            have HRN := Lib.hid (runF_succ F0 hlt)
            have HSL : Hid (l[m].b.length ≤ 1500) := Nat.le_trans (mem_sumA (List.getElem_mem hlt)) HF.out.sum
            clear hcell he
            generalize l[m] = a at *
            have hba : Below wr.heap.size wr (wr.alloc (.cells #[.int .i64 a.k, .string a.name, .string a.to, .slice a.ba a.b.length a.bc, .int .i64 a.n, .slice a.ka a.keep.length a.kc] 41)) := (Below.refl _ _).alloc (Nat.le_refl _) _
            have HX8 : Hid ((wr.alloc (.cells #[.int .i64 a.k, .string a.name, .string a.to, .slice a.ba a.b.length a.bc, .int .i64 a.n, .slice a.ka a.keep.length a.kc] 41)).heap[wr.heap.size]? = some (.cells #[.int .i64 a.k, .string a.name, .string a.to, .slice a.ba a.b.length a.bc, .int .i64 a.n, .slice a.ka a.keep.length a.kc] 41 (0, 0))) := heap_alloc_new _ _
            have HEA := Lib.hid (HE.out.later hba)
            go_upto_region 15 with fail
            generalize wr.alloc (.cells #[.int .i64 a.k, .string a.name, .string a.to, .slice a.ba a.b.length a.bc, .int .i64 a.n, .slice a.ka a.keep.length a.kc] 41) = wa at *
            clear c0 c1 c2 c3 c4 c5 hba HE
            obtain ⟨y0, y1, y2, y3, y4, y5⟩ := cells6 HX8.out
            obtain ⟨x0, x1, x2, x3⟩ := cells4 HEA.out.bx
            have HMO := Lib.hid (model_any room1 plan down _ R T a wa HEA.out.r (by have := HBN.out.1; omega) HBN.out.2.2 (HIN.out.ok (S := fun _ => False) HEA.out.bel (fun k hk => hk.elim) (by have := HSL.out; omega) HSM.out) (by have := HBN.out.2.1; omega))
            have hq := HRN.out
            rw [HEA.out.eq] at hq
            obtain ⟨⟨⟨room2, fl2, plan2, down2⟩, c2, bs2⟩, hMF⟩ : ∃ r, r = actF ⟨room1, R.map RF.f, plan, down⟩ a := ⟨_, rfl⟩
            rw [← hMF] at hq HMO
            have HNX : Hid (runF F0 l (m + 1) = ⟨room2, fl2, plan2, down2⟩) := hq
            simp only [AC.val] at HMO
            clear hMF hq HRN
            go_wp2_with fail
            refine HMO.out.mono ?_
            rintro e w5 ⟨v5, R5, rv5, rfl, hf5, hr5, hrow5, hb5⟩
            simp only at hf5
            obtain ⟨a5, k5, rfl⟩ := slice_form hr5.row
            have HF5 := Lib.hid hf5
            have HR5 := Lib.hid hr5
            have HB5 := Lib.hid hb5
            have HBX5 := Lib.hid ((hb5.block _ (lt_of_heap HEA.out.bx)).trans HEA.out.bx)
            clear hf5 hr5 hrow5 hb5 x0 x1 x2 x3 y0 y1 y2 y3 y4 y5 HMO
            simp only at *
            obtain ⟨x0, x1, x2, x3⟩ := cells4 HBX5.out
            have f0 := freeAt HBX5.out 0
            have f1 := freeAt HBX5.out 1
            have f2 := freeAt HBX5.out 2
            have f3 := freeAt HBX5.out 3
            go_upto_region 16 with fail
            have HB7 := Lib.hid (heap_store (heap_store (heap_store (heap_store HBX5.out 0 (.int .i64 room2)) 1 (.slice a5 R5.length k5)) 2 (.int .i64 plan2)) 3 (.bool down2))
            have HC7 : Hid (Chg (fun k => k = B) w5 ((((w5.setCell ⟨B, 0, none⟩ (.int .i64 room2)).setCell ⟨B, 1, none⟩ (.slice a5 R5.length k5)).setCell ⟨B, 2, none⟩ (.int .i64 plan2)).setCell ⟨B, 3, none⟩ (.bool down2))) := ((((Chg.refl (fun k => k = B) _).setCell (p := ⟨B, 0, none⟩) (.inl rfl) _).setCell (p := ⟨B, 1, none⟩) (.inl rfl) _).setCell (p := ⟨B, 2, none⟩) (.inl rfl) _).setCell (p := ⟨B, 3, none⟩) (.inl rfl) _
            generalize ((((w5.setCell ⟨B, 0, none⟩ (.int .i64 room2)).setCell ⟨B, 1, none⟩ (.slice a5 R5.length k5)).setCell ⟨B, 2, none⟩ (.int .i64 plan2)).setCell ⟨B, 3, none⟩ (.bool down2)) = w7 at *
            have HE7 : Hid (Echo w w7 (.pointer (some ⟨bx, 0, none⟩)) B D room2 plan2 down2 (.slice a5 R5.length k5) R5 S (fun k => (T k ∨ wa.heap.size ≤ k) ∧ k < w5.heap.size) (runF F0 l (m + 1))) := by
              rw [HNX.out]
              exact HEA.out.acted (F' := ⟨room2, fl2, plan2, down2⟩) HR5.out HB5.out HF5.out HC7.out HB7.out
            clear x0 x1 x2 x3 f0 f1 f2 f3 HB7 HC7 HR5 HB5 HBX5 HEA HX8
            go_wp2
            go_roundw
            case rel => exact ⟨m + 1, room2, plan2, down2, _, R5, _, by omega, by go_num, HE7⟩
            case measure => simp [RowKit.intOf]; omega
          · obtain rfl : m = l.length := by omega
            have hS := HE.out.eq
            have HSUM : Hid (sumD D.files = sumR R) := by rw [Hid, sumR_f, HRL.out.sum, hS]
            clear hS
            have HUD : Hid (∀ w', Hid (Below wr.heap.size wr w') → Calls Tryd.prog 15 #[.pointer (some ⟨bx, 0, none⟩)] w' fun e w'' => e = .returned (.int .i64 (sumR R)) ∧ Below w'.heap.size w' w'') := fun w' hb => by
              have h1 := used_any _ D S w' (HE.out.d.frame (fun k _ hk => hb.out.block k hk)) (by rw [HSUM.out]; have := HBN.out.2.1; omega)
              rwa [HSUM.out] at h1
            have HRU : Hid (∀ w', Hid (Below wr.heap.size wr w') → Calls Tryd.prog 21 #[rdisk room1 (.slice va R.length vc) plan down] w' fun e w'' => e = .returned (.int .i64 (sumR R)) ∧ Below w'.heap.size w' w'') := fun w' hb =>
              rused_any room1 plan down _ R T w' (HE.out.r.below hb.out) (by have := HBN.out.1; omega) (by have := HBN.out.2.1; omega)
            have HKS : Hid (∀ w', Hid (Below wr.heap.size wr w') → (w'.cell? ⟨B, 0, none⟩ = some (.int .i64 room1) ∧ w'.cell? ⟨B, 1, none⟩ = some (.slice va R.length vc) ∧ w'.cell? ⟨B, 2, none⟩ = some (.int .i64 plan) ∧ w'.cell? ⟨B, 3, none⟩ = some (.bool down))) := fun w' hb =>
              cells4 ((hb.out.block _ (lt_of_heap HE.out.bx)).trans HE.out.bx)
            have HB0 : Hid (Below wr.heap.size wr wr.drew) := (Below.refl _ _).drew
            have HB00 : Hid (Below wr.heap.size wr wr) := Below.refl _ _
            go_upto_region 17 with fail
            go_region_held3 (fun w' => w'.cell? ⟨B, 0, none⟩ = some (.int .i64 room1) ∧ w'.cell? ⟨B, 1, none⟩ = some (.slice va R.length vc) ∧ w'.cell? ⟨B, 2, none⟩ = some (.int .i64 plan) ∧ w'.cell? ⟨B, 3, none⟩ = some (.bool down)) (exact HKS.out _ (by assumption))
              (first
              | (go_at_call 9; refine (alive_any _).mono ?_; rintro e w8 ⟨rfl, hb8⟩
                 have HB8 := bel_step (by assumption) hb8
                 clear hb8)
              | (go_at_call 15; refine (HUD.out _ (by assumption)).mono ?_; rintro e w9 ⟨rfl, hb9⟩
                 have HB9 := bel_step (by assumption) hb9
                 clear hb9)
              | (go_at_call 21; refine (HRU.out _ (by assumption)).mono ?_; rintro e w10 ⟨rfl, hb10⟩
                 have HB10 := bel_step (by assumption) hb10
                 clear hb10)
              | fail)
            all_goals
              have HFB := Lib.hid (HE.out.bel.trans (HB10.out.mono HE.out.bel.size))
              go_wp2
              go_ret
              exact ⟨rfl, HFB.out⟩
end Go.Proofs.YtjhhmljebflanaaDoor
