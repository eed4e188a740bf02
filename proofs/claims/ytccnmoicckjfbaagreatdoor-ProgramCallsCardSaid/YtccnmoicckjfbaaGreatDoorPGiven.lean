/- The law's Given: a program of the reference as one. -/
import Derived.Test.YtccnmoicckjfbaaGreatDoorPSame
import Derived.Test.YtccnmoicckjfbaaGreatDoorPLimits
namespace Go.Proofs.YtccnmoicckjfbaaGreatDoor
set_option linter.unusedVariables false
set_option linter.unusedSimpArgs false
open Go.RowKit

theorem cell_of_block {w w' : World} {p : Addr} (h : w'.heap[p.block]? = w.heap[p.block]?) : w'.cell? p = w.cell? p := by
  unfold World.cell?
  rw [h]
theorem Reads.keepB {w w' : World} {v : Value} {n size : Nat} {xs : List Value} (h : Reads w v n size xs) (hb : ∀ ad c, v = .slice (some ad) n c → w'.heap[ad.block]? = w.heap[ad.block]?) : Reads w' v n size xs := by
  obtain ⟨hl, ao, c, rfl, hnc, hnone, hcells⟩ := h
  refine ⟨hl, ao, c, rfl, hnc, hnone, fun ad had j u hu => ?_⟩
  subst had
  have e : (ad.add j).block = ad.block := by unfold Addr.add; split <;> rfl
  rw [cell_of_block (w := w) (w' := w') (by rw [e]; exact hb ad c rfl)]
  exact hcells ad rfl j u hu
theorem RT.inw.keepB {w w' : World} {r : RT} (h : r.inw w) (hb : ∀ ad, r.a = some ad → w'.heap[ad.block]? = w.heap[ad.block]?) : r.inw w' :=
  ⟨h.rd.keepB (fun ad c he => hb ad (Value.slice.inj he).1), h.ll, h.ok, h.lb⟩

/-- A row of steps, as a routine. -/
theorem Row.rt {w : World} {e : TypeId} {v : Value} {l : List ST} {S : Nat → Prop} (h : Row w e 3 v l.length (l.flatMap stcells) S) :
    ∃ r2 : RT, r2.l = l ∧ v = r2.v ∧ (∀ ad, r2.a = some ad → S ad.block ∧ ad.block < w.heap.size) ∧ Reads w r2.v r2.l.length 3 (r2.l.flatMap stcells) := by
  have hr := h.reads
  rcases h.2 with ⟨h0, hx⟩ | ⟨g, off, cap, cur, hv, hS, hg, -⟩
  · have hl : l.length = 0 := by obtain ⟨_, ao, c, hv, _, hn, _⟩ := hr; rw [h0] at hv; exact (Value.slice.inj hv).2.1.symm
    obtain rfl : l = [] := List.eq_nil_of_length_eq_zero hl
    subst h0
    exact ⟨⟨[], none, 0⟩, rfl, rfl, (fun ad h => by cases h), hr⟩
  · subst hv
    exact ⟨⟨l, some ⟨g, off, none⟩, cap⟩, rfl, rfl, (fun ad h => by cases h; exact ⟨hS, lt_of_heap hg⟩), hr⟩

structure GivenI (w wr : World) (out : Value) (P2 : List RT) (B : List Nat) : Prop where
  row : Row wr 38 1 out P2.length (P2.map RT.v) (fun k => w.heap.size ≤ k ∧ k < wr.heap.size ∧ k ∉ B)
  each : ∀ r ∈ P2, r.inw wr ∧ ∀ ad, r.a = some ad → ad.block ∈ B
  blk : ∀ b ∈ B, b < wr.heap.size
def GPost (w : World) (P : List RT) : Ending → World → Prop := fun e w' => ∃ (P2 : List RT) (a2 : Option Addr) (c2 : Nat), e = .returned (.slice a2 P2.length c2) ∧ PrgU w' (.slice a2 P2.length c2) P2 ∧ P2.map RT.l = P.map RT.l ∧ Below w.heap.size w w'

theorem take_l {P P2 : List RT} {m : Nat} (hm : m < P.length) (h : P2.map RT.l = (P.take m).map RT.l) {r : RT} (hr : r.l = P[m].l) : (P2 ++ [r]).map RT.l = (P.take (m + 1)).map RT.l := by
  rw [List.take_succ_eq_append_getElem hm, List.map_append, List.map_append, h]; simp [hr]

theorem given_step {w wr w1 w5 : World} {out v5 : Value} {P2 : List RT} {B : List Nat} {r2 : RT} {o : Obj} (hw : w.heap.size ≤ wr.heap.size) (h : GivenI w wr out P2 B) (hb : Below wr.heap.size wr w1)
    (hr2 : r2.inw w1) (ha : ∀ ad, r2.a = some ad → wr.heap.size ≤ ad.block ∧ ad.block < w1.heap.size)
    (hr5 : Row w5 38 1 v5 (P2.length + 1) (P2.map RT.v ++ [r2.v]) (fun k => (w.heap.size ≤ k ∧ k < wr.heap.size ∧ k ∉ B) ∨ (w1.alloc o).heap.size ≤ k)) (hc : Chg (fun k => w.heap.size ≤ k ∧ k < wr.heap.size ∧ k ∉ B) (w1.alloc o) w5) :
    ∃ B', GivenI w w5 v5 (P2 ++ [r2]) B' := by
  have hs1 := hb.size
  have hs5 := hc.size
  simp only [World.size_alloc] at hs5
  have keep : ∀ k, k < w1.heap.size → ¬ (w.heap.size ≤ k ∧ k < wr.heap.size ∧ k ∉ B) → w5.heap[k]? = w1.heap[k]? := fun k hk hn => (hc.block k (by simp only [World.size_alloc]; omega) hn).trans (Below.heap_alloc _ _ _ hk)
  refine ⟨B ++ (r2.a.toList.map Addr.block), ?_, fun r hr => ?_, fun b hb' => ?_⟩
  · have e : (P2 ++ [r2]).map RT.v = P2.map RT.v ++ [r2.v] := by simp
    rw [e, List.length_append, List.length_singleton]
    refine (hr5.inside).mono (fun k hk => ?_)
    obtain ⟨hk1, hk2⟩ := hk
    simp only [World.size_alloc] at hk1
    refine ⟨by omega, hk2, fun hm => ?_⟩
    rcases List.mem_append.1 hm with h1 | h1
    · rcases hk1 with h2 | h2
      · exact h2.2.2 h1
      · have := h.blk k h1; omega
    · obtain ⟨ad, had, rfl⟩ := List.mem_map.1 h1
      have := ha ad (by simpa using had)
      rcases hk1 with h2 | h2 <;> omega
  · rcases List.mem_append.1 hr with h1 | h1
    · obtain ⟨g1, g2⟩ := h.each r h1
      refine ⟨g1.keepB (fun ad had => ?_), fun ad had => List.mem_append_left _ (g2 ad had)⟩
      have hlt := h.blk _ (g2 ad had)
      exact (keep _ (by omega) (fun hn => hn.2.2 (g2 ad had))).trans (hb.block _ hlt)
    · rw [List.mem_singleton.1 h1]
      refine ⟨hr2.keepB (fun ad had => ?_), fun ad had => List.mem_append_right _ (List.mem_map.2 ⟨ad, by simpa using had, rfl⟩)⟩
      have := ha ad had
      exact keep _ this.2 (fun hn => by omega)
  · rcases List.mem_append.1 hb' with h1 | h1
    · have := h.blk b h1; omega
    · obtain ⟨ad, had, rfl⟩ := List.mem_map.1 h1
      have := ha ad (by simpa using had)
      omega

set_option maxRecDepth 100000 in
set_option maxHeartbeats 2000000 in
theorem given_any (a : Option Addr) (c : Nat) (P : List RT) (w : World) (h : PrgU w (.slice a P.length c) P) :
    Calls Tryz.prog 7 #[.slice a P.length c] w (GPost w P) := by
  have HP := Lib.hid h
  have hll := h.lb
  clear h
  have HC1 : Hid (∀ (P2 : List RT) (a2 : Option Addr) (c2 : Nat) w', PrgU w' (.slice a2 P2.length c2) P2 → P2.map RT.l = P.map RT.l → Below w.heap.size w w' → GPost w P (.returned (.slice a2 P2.length c2)) w') := fun P2 a2 c2 w' h1 h2 h3 => ⟨P2, a2, c2, rfl, h1, h2, h3⟩
  obtain ⟨Q, hQ⟩ : ∃ Q, Q = GPost w P := ⟨_, rfl⟩
  rw [← hQ] at HC1 ⊢
  clear hQ
  go_enter Tryz.func7, Tryz.ntmps7
  go_wp2_with fail
  go_loopw [3, 11] (fun out i w' => ∃ (m : Nat) (P2 : List RT) (B : List Nat), m ≤ P.length ∧ P2.length = m ∧ i = .int .i64 m ∧ Hid (GivenI w w' out P2 B) ∧ Hid (P2.map RT.l = (P.take m).map RT.l) ∧ Hid (Below w.heap.size w w')) (fun _ i _ => P.length - (RowKit.intOf i).toNat)
  case atStart => exact ⟨0, [], [], by omega, rfl, rfl, ⟨Row.nil _ _ _ _, by simp, by simp⟩, by simp [Hid], Below.refl _ _⟩
  case round =>
    obtain ⟨m, P2, B, hm, hlm, rfl, HG, HT, HB⟩ := hrel
    by_cases hlt : m < P.length
    · obtain ⟨b, o, rfl, hle, hbl, hc⟩ := (HP.out.later HB.out).head hlt
      have HE := Lib.hid ((HP.out.later HB.out).each P[m] (List.getElem_mem hlt))
      have hl6 := HE.out.lb
      have HT2 : Hid (∀ r : RT, r.l = P[m].l → (P2 ++ [r]).map RT.l = (P.take (m + 1)).map RT.l) := fun r hr => take_l hlt HT.out hr
      have HLM := Lib.hid hlm
      clear HT hlm
      generalize P[m] = r at *
      obtain ⟨rl, ra, rc⟩ := r
      simp only [RT.v] at *
      have hszr := HB.out.size
      obtain ⟨wo, rfl⟩ : ∃ wo : World, wo = wr := ⟨_, rfl⟩
      go_wp2_with fail
      go_loopw [6, 17] (fun out i w' => ∃ q : Nat, q ≤ rl.length ∧ i = .int .i64 q ∧ Hid (Row w' 37 3 out q ((rl.take q).flatMap stcells) (fun k => wo.heap.size ≤ k)) ∧ Hid (Below wo.heap.size wo w')) (fun _ i _ => rl.length - (RowKit.intOf i).toNat)
      case atStart => exact ⟨0, by omega, rfl, Row.nil _ _ _ _, Below.refl _ _⟩
      case round =>
        obtain ⟨q, hq, rfl, HO, HB2⟩ := hrel
        by_cases hlt2 : q < rl.length
        · obtain ⟨b2, o2, rfl, hle2, hb2, d0, d1, d2⟩ := RT.inw.cells (HE.out.later HB2.out) hlt2
          have HTQ : Hid ((rl.take (q + 1)).flatMap stcells = (rl.take q).flatMap stcells ++ stcells rl[q]) := by rw [Hid, List.take_succ_eq_append_getElem hlt2, List.flatMap_append]; simp
          generalize rl[q] = x at *
          obtain ⟨xk, xn, xs⟩ := x
          simp only at *
          have hsz := HB2.out.size
          have HXA : Hid ((wr.alloc (.cells #[.int .i64 xk, .int .i64 xn, .string xs] 35)).heap[wr.heap.size]? = some (.cells #[.int .i64 xk, .int .i64 xn, .string xs] 35 (0, 0))) := heap_alloc_new _ _
          have HBA : Hid (Below wo.heap.size wo (wr.alloc (.cells #[.int .i64 xk, .int .i64 xn, .string xs] 35))) := HB2.out.alloc hsz _
          have HOA : Hid (Row (wr.alloc (.cells #[.int .i64 xk, .int .i64 xn, .string xs] 35)) 37 3 u6 q ((rl.take q).flatMap stcells) (fun k => wo.heap.size ≤ k)) := HO.out.frame (fun k _ hk => Below.heap_alloc _ _ _ hk)
          go_upto_region 9 with fail
          generalize wr.alloc (.cells #[.int .i64 xk, .int .i64 xn, .string xs] 35) = wa at *
          clear d0 d1 d2 hc
          have y0 := cellAt HXA.out 0 rfl
          have y1 := cellAt HXA.out 1 rfl
          have y2 := cellAt HXA.out 2 rfl
          have hsa := HBA.out.size
          go_wp2_with (
            refine wpList_row elemStep rfl rfl (S := fun k => wo.heap.size ≤ k) (n := q) (xs := (rl.take q).flatMap stcells) rfl (HOA.out.frame (fun k _ hk => Below.heap_alloc _ _ _ hk)) (y := .slice (some ⟨wa.heap.size, 0, none⟩) 1 1) (m := 1) (news := [.int .i64 xk, .int .i64 xn, .string xs]) rfl (Reads.single (heap_alloc_new wa _)) (by intro u hu; simp only [List.mem_cons, List.not_mem_nil, or_false] at hu; rcases hu with rfl | rfl | rfl <;> rfl) (by unfold maxLen; omega) (by omega) ?_
            intro v5 w5 hr5 hch5)
          go_roundw
          case rel =>
            refine ⟨q + 1, by omega, by go_num, ?_, (HBA.out.alloc hsa _).trans (hch5.toBelow (by simp <;> omega) (fun n hn h => by omega))⟩
            rw [Hid, HTQ.out]
            exact hr5.mono (fun k hk => by rcases hk with hk | hk; exact hk; simp only [World.size_alloc] at hk; omega)
          case measure => simp [RowKit.intOf]; omega
        · obtain rfl : q = rl.length := by omega
          rw [List.take_length] at HO
          have HO2 : Hid (∃ r2 : RT, r2.l = rl ∧ u6 = r2.v ∧ (∀ ad, r2.a = some ad → wo.heap.size ≤ ad.block ∧ ad.block < wr.heap.size) ∧ Reads wr r2.v r2.l.length 3 (r2.l.flatMap stcells)) := HO.out.rt
          obtain ⟨⟨l2, a2, c2⟩, hr2l, hu6, HA2, HRD⟩ := HO2.out
          obtain rfl : rl = l2 := hr2l.symm
          obtain rfl : u6 = .slice a2 rl.length c2 := hu6
          have HIN : Hid (RT.inw ⟨rl, a2, c2⟩ wr) := ⟨HRD, HE.out.ll, HE.out.ok, HE.out.lb⟩
          have HTN := Lib.hid (HT2.out ⟨rl, a2, c2⟩ rfl)
          have HA := Lib.hid HA2
          clear HO HO2 HRD HA2 hr2l HT2
          have hbs2 := HB2.out.size
          have hml : m < 9223372036854775807 := by omega
          obtain ⟨mm, hmm⟩ : ∃ mm, mm = P2.length := ⟨_, rfl⟩
          have HM : Hid (mm = P2.length) := hmm
          have hmm2 : mm = m := by rw [hmm]; exact HLM.out
          clear hmm
          subst hmm2
          have HGR : Hid (Row wr 38 1 u3 mm (P2.map RT.v) (fun k => w.heap.size ≤ k ∧ k < wo.heap.size ∧ k ∉ B)) := by
            rw [HM.out]; exact HG.out.row.frame (fun k hk hk2 => HB2.out.block k hk.2.1)
          go_wp2_with (
            refine wpList_row elemRow rfl rfl (S := fun k => w.heap.size ≤ k ∧ k < wo.heap.size ∧ k ∉ B) (n := mm) (xs := P2.map RT.v) rfl (HGR.out.frame (fun k _ hk => Below.heap_alloc _ _ _ hk)) (y := .slice (some ⟨wr.heap.size, 0, none⟩) 1 1) (m := 1) (news := [.slice a2 rl.length c2]) rfl (reads_one wr _ _) (one_of rfl) (by unfold maxLen; omega) (by omega) ?_
            intro v5 w5 hr5 hch5)
          have HS5 : Hid (∃ B', GivenI w w5 v5 (P2 ++ [⟨rl, a2, c2⟩]) B') := by
            refine given_step hszr HG.out HB2.out HIN.out (fun ad had => HA.out ad had) ?_ hch5
            rw [← HM.out]
            exact hr5
          obtain ⟨B', HG5⟩ := HS5.out
          have HB5 : Hid (Below w.heap.size w w5) := ((HB.out.trans (HB2.out.mono hszr)).alloc (by omega) _).trans (hch5.toBelow (by simp; omega) (fun n hn h => by have := h.1; omega))
          clear hr5 hch5 HS5 HGR HG HB2 HE HIN
          go_roundw
          case rel => exact ⟨mm + 1, P2 ++ [⟨rl, a2, c2⟩], B', by omega, by simp [HM.out], by go_num, Lib.hid HG5, HTN, HB5⟩
          case measure => simp [RowKit.intOf]; omega
    · obtain rfl : m = P.length := by omega
      rw [List.take_length] at HT
      have HV : Hid (∃ a2 c2, u3 = .slice a2 P2.length c2 ∧ Q (.returned (.slice a2 P2.length c2)) wr) := by
        have hr := HG.out.row.reads
        have hl := map_l_len HT.out
        obtain ⟨_, ao, c2, hv, _⟩ := id hr
        refine ⟨ao, c2, hv, HC1.out P2 ao c2 wr ⟨hv ▸ hr, fun r hr => (HG.out.each r hr).1, ?_, ?_⟩ HT.out HB.out⟩
        · rw [hl]; exact HP.out.ll
        · rw [hl]; exact HP.out.lb
      obtain ⟨a2, c2, rfl, hq⟩ := HV.out
      have HQ := Lib.hid hq
      clear hq HV
      go_wp2
      exact HQ.out
end Go.Proofs.YtccnmoicckjfbaaGreatDoor
