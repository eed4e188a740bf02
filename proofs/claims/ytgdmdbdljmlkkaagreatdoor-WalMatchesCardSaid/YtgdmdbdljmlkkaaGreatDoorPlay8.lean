/- The law's play: operations on a log and on the reference. -/
import Derived.Test.YtgdmdbdljmlkkaaGreatDoorOpenOps8
namespace Go.Proofs.YtgdmdbdljmlkkaaGreatDoor
set_option linter.unusedVariables false
set_option linter.unusedSimpArgs false
open Go.RowKit

abbrev rcell (M : LS) (a : Option Addr) (n c : Nat) : Array Value := #[.int .i64 M.D.room, .slice a n c, .int .i64 M.D.plan, .bool M.D.down, .int .i64 M.most, .int .i64 M.n, .int .i64 M.size, .int .i64 M.waiting]
/-- A log and the log of the reference, both made by the law. -/
structure DuelR (w0 w : World) (bl bx : Nat) (L M : LS) (a : Option Addr) (c : Nat) (R : List RF) (S T : Nat → Prop) (s q : Nat) : Prop where
  log : LAt w bl (.pointer (some ⟨bx, 0, none⟩)) L S
  lst : RLi w (.slice a R.length c) R T
  files : R.map RF.f = M.D.files
  rel : RelL L M
  bnd : BndL L s (q + 1) (2 * q + 1)
  bel : Below w0.heap.size w0 w
  sS : ∀ k, S k → w0.heap.size ≤ k ∧ k < w.heap.size
  sT : ∀ k, T k → w0.heap.size ≤ k ∧ k < w.heap.size ∧ ¬ S k
  most : -1000000 ≤ L.most ∧ L.most ≤ 1000000
/-- B: where the law keeps the reference's. -/
structure DuelL (w0 w : World) (bl bx B : Nat) (L M : LS) (a : Option Addr) (c : Nat) (R : List RF) (S T : Nat → Prop) (s q : Nat) : Prop where
  d : DuelR w0 w bl bx L M a c R S T s q
  blk : w.heap[B]? = some (.cells (rcell M a R.length c) 34 (0, 0))
  bS : ¬ S B
  bT : ¬ T B
  bB : w0.heap.size ≤ B

section
variable {w0 w w' : World} {bl bx B : Nat} {L M : LS} {a : Option Addr} {c : Nat} {R : List RF} {S T : Nat → Prop} {s q : Nat}
theorem DuelR.later (h : DuelR w0 w bl bx L M a c R S T s q) (hb : Below w.heap.size w w') : DuelR w0 w' bl bx L M a c R S T s q where
  log := h.log.later hb
  lst := h.lst.below hb
  files := h.files
  rel := h.rel
  bnd := h.bnd
  bel := h.bel.trans (hb.mono h.bel.size)
  sS := fun k hk => ⟨(h.sS k hk).1, Nat.lt_of_lt_of_le (h.sS k hk).2 hb.size⟩
  sT := fun k hk => ⟨(h.sT k hk).1, Nat.lt_of_lt_of_le (h.sT k hk).2.1 hb.size, (h.sT k hk).2.2⟩
  most := h.most
theorem DuelL.later (h : DuelL w0 w bl bx B L M a c R S T s q) (hb : Below w.heap.size w w') : DuelL w0 w' bl bx B L M a c R S T s q :=
  ⟨h.d.later hb, (hb.block _ (lt_of_heap h.blk)).trans h.blk, h.bS, h.bT, h.bB⟩
theorem DuelR.agg (h : DuelR w0 w bl bx L M a c R S T s q) : rlog (.slice a R.length c) M = .agg (rcell M a R.length c) := rfl

/-- Behind both calls of an operation. -/
theorem DuelL.acted {w1 w2 w3 : World} {L' M' : LS} {a' : Option Addr} {c' : Nat} {R' : List RF} {s' : Nat} (h : DuelL w0 w bl bx B L M a c R S T s q)
    (hd : LAt w1 bl (.pointer (some ⟨bx, 0, none⟩)) L' (fun k => S k ∨ w.heap.size ≤ k)) (hc : Chg S w w1) (hr : RLi w2 (.slice a' R'.length c') R' (fun k => T k ∨ w1.heap.size ≤ k)) (hb : Below w1.heap.size w1 w2) (hf : R'.map RF.f = M'.D.files) (hrel : RelL L' M') (hbn : BndL L' s' (q + 2) (2 * q + 3))
    (hm : L'.most = L.most) (hst : Chg (fun k => k = B) w2 w3) (hB3 : w3.heap[B]? = some (.cells (rcell M' a' R'.length c') 34 (0, 0))) :
    DuelL w0 w3 bl bx B L' M' a' c' R' (fun k => (S k ∨ w.heap.size ≤ k) ∧ k < w1.heap.size) (fun k => (T k ∨ w1.heap.size ≤ k) ∧ k < w2.heap.size) s' (q + 1) := by
  have hB := lt_of_heap h.blk
  have h0 := h.d.bel.size
  have h1 := hc.size
  have h2 := hb.size
  have h3 := hst.size
  have hBS := h.bS
  have hBT := h.bT
  refine ⟨⟨?_, ?_, hf, hrel, hbn.more (Nat.le_refl _) (by omega) (by omega), ?_, ?_, ?_, by rw [hm]; exact h.d.most⟩, hB3, ?_, ?_, h.bB⟩
  · refine (hd.tight.frame (fun k hk hl => hb.block k hl)).frame (fun k hk hl => hst.block k hl (fun e => ?_))
    have e2 : k = B := e
    subst e2
    rcases hk.1 with h9 | h9
    · exact hBS h9
    · omega
  · refine hr.tight.frame (fun k hk hl => hst.block k hl (fun e => ?_))
    have e2 : k = B := e
    subst e2
    rcases hk.1 with h9 | h9
    · exact hBT h9
    · omega
  · exact h.d.bel.trans ((hc.toBelow (B := w0.heap.size) h0 (fun k hk e => by have := (h.d.sS k e).1; omega)).trans ((hb.mono (by omega)).trans (hst.toBelow (by omega) (fun k hk e => by have e2 : k = B := e; have := h.bB; omega))))
  · rintro k ⟨hk | hk, hl⟩
    · exact ⟨(h.d.sS k hk).1, by omega⟩
    · exact ⟨by omega, by omega⟩
  · rintro k ⟨hk | hk, hl⟩
    · have h9 := h.d.sT k hk
      exact ⟨h9.1, by omega, fun e => by rcases e.1 with e | e; exact h9.2.2 e; omega⟩
    · exact ⟨by omega, by omega, fun e => by have := e.2; omega⟩
  · rintro ⟨hk | hk, hl⟩
    · exact hBS hk
    · omega
  · rintro ⟨hk | hk, hl⟩
    · exact hBT hk
    · omega
end
def sumO (P : List OW) : Nat := sumL (P.map OW.sl)
theorem putG_most (L : LS) (r : List UInt8) : (putG opsD L r).1.most = L.most := by
  have h1 : (rotG opsD L).1.most = L.most := by unfold rotG; repeat (first | rfl | split)
  have h2 : ∀ K : LS, (appG opsD K r).1.most = K.most := fun K => by unfold appG; repeat (first | rfl | split)
  unfold putG
  split
  · rfl
  · split
    · rfl
    · split
      · split
        · exact h1
        · rw [h2]; exact h1
      · exact h2 _
theorem sumO_take {P : List OW} {m : Nat} (h : m < P.length) : sumO (P.take (m + 1)) = sumO (P.take m) + P[m].l.length := by
  have e := sumL_take (P := P.map OW.sl) (m := m) (by rw [List.length_map]; exact h)
  unfold sumO
  rw [List.map_take, List.map_take, e]
  simp [OW.sl]
theorem sumO_le (P : List OW) (m : Nat) : sumO (P.take m) ≤ sumO P := by
  unfold sumO
  rw [List.map_take]; exact sumL_le _ _
theorem sumO_at {P : List OW} {m : Nat} (h : m < P.length) : P[m].l.length ≤ sumO P := by
  have h1 := sumO_take h
  have h2 := sumO_le P (m + 1)
  omega

theorem log_store {w : World} {B : Nat} {x0 x1 x2 x3 x4 x5 x6 x7 : Value} (h : w.heap[B]? = some (.cells #[x0, x1, x2, x3, x4, x5, x6, x7] 34 (0, 0))) (y0 y1 y2 y3 y4 y5 y6 y7 : Value) :
    ((((((((w.setCell ⟨B, 0, none⟩ y0).setCell ⟨B, 1, none⟩ y1).setCell ⟨B, 2, none⟩ y2).setCell ⟨B, 3, none⟩ y3).setCell ⟨B, 4, none⟩ y4).setCell ⟨B, 5, none⟩ y5).setCell ⟨B, 6, none⟩ y6).setCell ⟨B, 7, none⟩ y7).heap[B]? = some (.cells #[y0, y1, y2, y3, y4, y5, y6, y7] 34 (0, 0)) ∧ Chg (fun k => k = B) w ((((((((w.setCell ⟨B, 0, none⟩ y0).setCell ⟨B, 1, none⟩ y1).setCell ⟨B, 2, none⟩ y2).setCell ⟨B, 3, none⟩ y3).setCell ⟨B, 4, none⟩ y4).setCell ⟨B, 5, none⟩ y5).setCell ⟨B, 6, none⟩ y6).setCell ⟨B, 7, none⟩ y7) := by
  have H0 : (w.setCell ⟨B, 0, none⟩ y0).heap[B]? = some (.cells #[y0, x1, x2, x3, x4, x5, x6, x7] 34 (0, 0)) := heap_store h 0 y0
  have H1 : ((w.setCell ⟨B, 0, none⟩ y0).setCell ⟨B, 1, none⟩ y1).heap[B]? = some (.cells #[y0, y1, x2, x3, x4, x5, x6, x7] 34 (0, 0)) := heap_store H0 1 y1
  have H2 : (((w.setCell ⟨B, 0, none⟩ y0).setCell ⟨B, 1, none⟩ y1).setCell ⟨B, 2, none⟩ y2).heap[B]? = some (.cells #[y0, y1, y2, x3, x4, x5, x6, x7] 34 (0, 0)) := heap_store H1 2 y2
  have H3 : ((((w.setCell ⟨B, 0, none⟩ y0).setCell ⟨B, 1, none⟩ y1).setCell ⟨B, 2, none⟩ y2).setCell ⟨B, 3, none⟩ y3).heap[B]? = some (.cells #[y0, y1, y2, y3, x4, x5, x6, x7] 34 (0, 0)) := heap_store H2 3 y3
  have H4 : (((((w.setCell ⟨B, 0, none⟩ y0).setCell ⟨B, 1, none⟩ y1).setCell ⟨B, 2, none⟩ y2).setCell ⟨B, 3, none⟩ y3).setCell ⟨B, 4, none⟩ y4).heap[B]? = some (.cells #[y0, y1, y2, y3, y4, x5, x6, x7] 34 (0, 0)) := heap_store H3 4 y4
  have H5 : ((((((w.setCell ⟨B, 0, none⟩ y0).setCell ⟨B, 1, none⟩ y1).setCell ⟨B, 2, none⟩ y2).setCell ⟨B, 3, none⟩ y3).setCell ⟨B, 4, none⟩ y4).setCell ⟨B, 5, none⟩ y5).heap[B]? = some (.cells #[y0, y1, y2, y3, y4, y5, x6, x7] 34 (0, 0)) := heap_store H4 5 y5
  have H6 : (((((((w.setCell ⟨B, 0, none⟩ y0).setCell ⟨B, 1, none⟩ y1).setCell ⟨B, 2, none⟩ y2).setCell ⟨B, 3, none⟩ y3).setCell ⟨B, 4, none⟩ y4).setCell ⟨B, 5, none⟩ y5).setCell ⟨B, 6, none⟩ y6).heap[B]? = some (.cells #[y0, y1, y2, y3, y4, y5, y6, x7] 34 (0, 0)) := heap_store H5 6 y6
  have H7 : ((((((((w.setCell ⟨B, 0, none⟩ y0).setCell ⟨B, 1, none⟩ y1).setCell ⟨B, 2, none⟩ y2).setCell ⟨B, 3, none⟩ y3).setCell ⟨B, 4, none⟩ y4).setCell ⟨B, 5, none⟩ y5).setCell ⟨B, 6, none⟩ y6).setCell ⟨B, 7, none⟩ y7).heap[B]? = some (.cells #[y0, y1, y2, y3, y4, y5, y6, y7] 34 (0, 0)) := heap_store H6 7 y7
  have C0 : Chg (fun k => k = B) w (w.setCell ⟨B, 0, none⟩ y0) := (Chg.refl (fun k => k = B) w).setCell (p := ⟨B, 0, none⟩) (.inl rfl) y0
  have C1 : Chg (fun k => k = B) w ((w.setCell ⟨B, 0, none⟩ y0).setCell ⟨B, 1, none⟩ y1) := C0.setCell (p := ⟨B, 1, none⟩) (.inl rfl) y1
  have C2 : Chg (fun k => k = B) w (((w.setCell ⟨B, 0, none⟩ y0).setCell ⟨B, 1, none⟩ y1).setCell ⟨B, 2, none⟩ y2) := C1.setCell (p := ⟨B, 2, none⟩) (.inl rfl) y2
  have C3 : Chg (fun k => k = B) w ((((w.setCell ⟨B, 0, none⟩ y0).setCell ⟨B, 1, none⟩ y1).setCell ⟨B, 2, none⟩ y2).setCell ⟨B, 3, none⟩ y3) := C2.setCell (p := ⟨B, 3, none⟩) (.inl rfl) y3
  have C4 : Chg (fun k => k = B) w (((((w.setCell ⟨B, 0, none⟩ y0).setCell ⟨B, 1, none⟩ y1).setCell ⟨B, 2, none⟩ y2).setCell ⟨B, 3, none⟩ y3).setCell ⟨B, 4, none⟩ y4) := C3.setCell (p := ⟨B, 4, none⟩) (.inl rfl) y4
  have C5 : Chg (fun k => k = B) w ((((((w.setCell ⟨B, 0, none⟩ y0).setCell ⟨B, 1, none⟩ y1).setCell ⟨B, 2, none⟩ y2).setCell ⟨B, 3, none⟩ y3).setCell ⟨B, 4, none⟩ y4).setCell ⟨B, 5, none⟩ y5) := C4.setCell (p := ⟨B, 5, none⟩) (.inl rfl) y5
  have C6 : Chg (fun k => k = B) w (((((((w.setCell ⟨B, 0, none⟩ y0).setCell ⟨B, 1, none⟩ y1).setCell ⟨B, 2, none⟩ y2).setCell ⟨B, 3, none⟩ y3).setCell ⟨B, 4, none⟩ y4).setCell ⟨B, 5, none⟩ y5).setCell ⟨B, 6, none⟩ y6) := C5.setCell (p := ⟨B, 6, none⟩) (.inl rfl) y6
  have C7 : Chg (fun k => k = B) w ((((((((w.setCell ⟨B, 0, none⟩ y0).setCell ⟨B, 1, none⟩ y1).setCell ⟨B, 2, none⟩ y2).setCell ⟨B, 3, none⟩ y3).setCell ⟨B, 4, none⟩ y4).setCell ⟨B, 5, none⟩ y5).setCell ⟨B, 6, none⟩ y6).setCell ⟨B, 7, none⟩ y7) := C6.setCell (p := ⟨B, 7, none⟩) (.inl rfl) y7
  exact ⟨H7, C7⟩
/-- What the law looks at behind each operation. -/
structure Looks8 (w3 : World) (bl bx B : Nat) (M : LS) (a : Option Addr) (c : Nat) (R : List RF) (NL : List ByteArray) : Prop where
  seg : ∀ w', Hid (Below w3.heap.size w3 w') → Calls Tryz.prog 35 #[.pointer (some ⟨bl, 0, none⟩)] w' fun e w'' => e = .returned (.int .i64 M.n) ∧ w'' = w'
  siz : ∀ w', Hid (Below w3.heap.size w3 w') → Calls Tryz.prog 36 #[.pointer (some ⟨bl, 0, none⟩)] w' fun e w'' => e = .returned (.int .i64 M.size) ∧ w'' = w'
  wai : ∀ w', Hid (Below w3.heap.size w3 w') → Calls Tryz.prog 53 #[.pointer (some ⟨bl, 0, none⟩)] w' fun e w'' => e = .returned (.int .i64 M.waiting) ∧ w'' = w'
  used : ∀ w', Hid (Below w3.heap.size w3 w') → Calls Tryz.prog 51 #[.pointer (some ⟨bx, 0, none⟩)] w' fun e w'' => e = .returned (.int .i64 (sumR R)) ∧ Below w'.heap.size w' w''
  rused : ∀ w', Hid (Below w3.heap.size w3 w') → Calls Tryz.prog 52 #[.agg #[.int .i64 M.D.room, .slice a R.length c, .int .i64 M.D.plan, .bool M.D.down]] w' fun e w'' => e = .returned (.int .i64 (sumR R)) ∧ Below w'.heap.size w' w''
  down : ∀ w', Hid (Below w3.heap.size w3 w') → Calls Tryz.prog 63 #[.pointer (some ⟨bx, 0, none⟩)] w' fun e w'' => e = .returned (.bool M.D.down) ∧ w'' = w'
  list : ∀ w', Hid (Below w3.heap.size w3 w') → Calls Tryz.prog 49 #[.pointer (some ⟨bx, 0, none⟩)] w' fun e w'' => ∃ a c, e = .returned (.slice a NL.length c) ∧ Reads w'' (.slice a NL.length c) NL.length 1 (NL.map Value.string) ∧ Below w'.heap.size w' w''
  names : ∀ w', Hid (Below w3.heap.size w3 w') → Calls Tryz.prog 50 #[.agg #[.int .i64 M.D.room, .slice a R.length c, .int .i64 M.D.plan, .bool M.D.down]] w' fun e w'' => ∃ a c, e = .returned (.slice a NL.length c) ∧ Reads w'' (.slice a NL.length c) NL.length 1 (NL.map Value.string) ∧ Below w'.heap.size w' w''
  len : NL.length ≤ 100000
  cells : ∀ w', Hid (Below w3.heap.size w3 w') → w'.cell? ⟨B, 0, none⟩ = some (.int .i64 M.D.room) ∧ w'.cell? ⟨B, 1, none⟩ = some (.slice a R.length c) ∧ w'.cell? ⟨B, 2, none⟩ = some (.int .i64 M.D.plan) ∧ w'.cell? ⟨B, 3, none⟩ = some (.bool M.D.down) ∧ w'.cell? ⟨B, 4, none⟩ = some (.int .i64 M.most) ∧ w'.cell? ⟨B, 5, none⟩ = some (.int .i64 M.n) ∧ w'.cell? ⟨B, 6, none⟩ = some (.int .i64 M.size) ∧ w'.cell? ⟨B, 7, none⟩ = some (.int .i64 M.waiting)

set_option maxRecDepth 100000 in
set_option maxHeartbeats 2000000 in
theorem DuelL.looks {w0 w : World} {bl bx B : Nat} {L M : LS} {a : Option Addr} {c : Nat} {R : List RF} {S T : Nat → Prop} {s q : Nat} (h : DuelL w0 w bl bx B L M a c R S T s q) (hs : s ≤ 100000) (hq : q ≤ 100) : Looks8 w bl bx B M a c R (R.map fun r => r.f.name) := by
  have hRn : R.length ≤ q + 1 := by
    have h1 := congrArg List.length h.d.files
    rw [List.length_map] at h1
    rw [h1, ← h.d.rel.rel.len]; exact h.d.bnd.d.len
  have hRs : sumR R = sumD L.D.files := by rw [sumR_f, h.d.files, ← h.d.rel.rel.sum]
  have hRs2 : sumR R ≤ s := by rw [hRs]; exact h.d.bnd.d.sum
  have hlen : L.D.files.length ≤ 100000 := by have := h.d.bnd.d.len; omega
  have hnm : ∀ f ∈ L.D.files, f.name.size ≤ maxLen := fun f hf => by have := h.d.bnd.d.nm f hf; unfold maxLen; omega
  refine ⟨fun w' hb => ?_, fun w' hb => ?_, fun w' hb => ?_, fun w' hb => ?_, fun w' hb => ?_, fun w' hb => ?_, fun w' hb => ?_, fun w' hb => ?_, ?_, fun w' hb => ?_⟩
  · have := lsegment_any L bl _ S w' (h.d.log.later hb.out)
    rwa [h.d.rel.n] at this
  · have := lsize_any L bl _ S w' (h.d.log.later hb.out)
    rwa [h.d.rel.size] at this
  · have := lwaiting_any L bl _ S w' (h.d.log.later hb.out)
    rwa [h.d.rel.waiting] at this
  · have := used_any _ L.D _ w' (h.d.log.later hb.out).dsk (by omega)
    rwa [← hRs] at this
  · exact rused_any M.D.room M.D.plan M.D.down _ R T w' (h.d.lst.below hb.out) (by omega) (by omega)
  · have := down_any _ L.D _ w' (h.d.log.later hb.out).dsk
    rwa [h.d.rel.rel.down] at this
  · refine (list_any _ L.D _ w' (h.d.log.later hb.out).dsk hlen hnm).mono ?_
    rintro e w'' ⟨v1, ss, rfl, hr1, hb1, hso, hme⟩
    obtain rfl := rel_names h.d.rel.rel hso hme
    obtain ⟨a1, c1, rfl⟩ := slice_form hr1
    have h1 := hr1.reads
    have e1 : (M.D.files.map fun f => f.name.toList).length = (R.map fun r => r.f.name).length := by rw [← h.d.files]; simp
    have e2 : (M.D.files.map fun f => f.name.toList).map encStr = (R.map fun r => r.f.name).map Value.string := by
      rw [← h.d.files, List.map_map, List.map_map, List.map_map]
      refine List.map_congr_left (fun r _ => ?_)
      show encStr r.f.name.toList = Value.string r.f.name
      unfold encStr
      rw [mk_toList]
    rw [e1, e2] at h1
    rw [e1]
    exact ⟨a1, c1, rfl, h1, hb1⟩
  · refine (rnames_any M.D.room M.D.plan M.D.down _ R T w' (h.d.lst.below hb.out) (by omega)).mono ?_
    rintro e w'' ⟨v1, rfl, hr1, hb1⟩
    obtain ⟨a1, c1, rfl⟩ := slice_form hr1
    have h1 := hr1.reads
    have e1 : (R.map fun r => r.f.name).length = R.length := List.length_map _
    rw [stringVs_eq] at h1
    rw [e1]
    exact ⟨a1, c1, rfl, h1, hb1⟩
  · rw [List.length_map]; omega
  · have hx := (hb.out.block _ (lt_of_heap h.blk)).trans h.blk
    exact cells8w hx

def PlayP (w0 w : World) (bl bx : Nat) (e : Ending) (w' : World) : Prop := ∃ L M a c R S T s q, e = .returned (.tuple #[.agg (rcell M a R.length c), .bool true]) ∧ DuelR w0 w' bl bx L M a c R S T s q ∧ s ≤ 10000 ∧ q ≤ 60

set_option maxRecDepth 100000 in
set_option maxHeartbeats 8000000 in
theorem play_any {w0 w : World} {bl bx : Nat} {L M : LS} {a : Option Addr} {c : Nat} {R : List RF} {S T : Nat → Prop} (h : DuelR w0 w bl bx L M a c R S T 0 0) (ht : Tab w0) (pa : Option Addr) (pc : Nat) (P : List OW) (hP : Ows w0 (.slice pa P.length pc) P) (hl : P.length ≤ 60) (hs : sumO P ≤ 1500) :
    Calls Tryz.prog 17 #[.pointer (some ⟨bx, 0, none⟩), .pointer (some ⟨bl, 0, none⟩), .agg (rcell M a R.length c), .slice pa P.length pc] w (PlayP w0 w bl bx) := by
  have HD0 := Lib.hid h
  have HT := Lib.hid ht
  have HP := Lib.hid hP
  clear h ht hP
  have HDL : Hid (DuelL w0 ((w.alloc (.cells (rcell M a R.length c) 34)).alloc (.cells #[.int .i64 0, .slice none 0 0, .int .i64 0, .bool false, .int .i64 0, .int .i64 0, .int .i64 0, .int .i64 0] 34)) bl bx w.heap.size L M a c R S T 0 0) := by
    refine DuelL.later ⟨HD0.out.later ((Below.refl _ _).alloc (Nat.le_refl _) _), heap_alloc_new _ _, fun e => by have := (HD0.out.sS _ e).2; omega, fun e => by have := (HD0.out.sT _ e).2.1; omega, HD0.out.bel.size⟩ ((Below.refl _ _).alloc (Nat.le_refl _) _)
  have HX8 : Hid (((w.alloc (.cells (rcell M a R.length c) 34)).alloc (.cells #[.int .i64 0, .slice none 0 0, .int .i64 0, .bool false, .int .i64 0, .int .i64 0, .int .i64 0, .int .i64 0] 34)).heap[w.heap.size + 1]? = some (.cells #[.int .i64 0, .slice none 0 0, .int .i64 0, .bool false, .int .i64 0, .int .i64 0, .int .i64 0, .int .i64 0] 34 (0, 0))) := by
    have := heap_alloc_new (w.alloc (.cells (rcell M a R.length c) 34)) (.cells #[.int .i64 0, .slice none 0 0, .int .i64 0, .bool false, .int .i64 0, .int .i64 0, .int .i64 0, .int .i64 0] 34)
    rwa [World.size_alloc] at this
  go_enter Tryz.func17, Tryz.ntmps17
  go_upto_region 1 with fail
  have HS2 : Hid (((w.alloc (.cells (rcell M a R.length c) 34)).alloc (.cells #[.int .i64 0, .slice none 0 0, .int .i64 0, .bool false, .int .i64 0, .int .i64 0, .int .i64 0, .int .i64 0] 34)).heap.size = w.heap.size + 2) := by simp [World.size_alloc, Hid]
  generalize ((w.alloc (.cells (rcell M a R.length c) 34)).alloc (.cells #[.int .i64 0, .slice none 0 0, .int .i64 0, .bool false, .int .i64 0, .int .i64 0, .int .i64 0, .int .i64 0] 34)) = wb at *
  have HSB : Hid (¬ S (w.heap.size + 1) ∧ ¬ T (w.heap.size + 1)) := ⟨fun e => by have := (HD0.out.sS _ e).2; omega, fun e => by have := (HD0.out.sT _ e).2.1; omega⟩
  obtain ⟨B, hB⟩ : ∃ B, B = w.heap.size := ⟨_, rfl⟩
  rw [← hB] at HDL HX8 HSB ⊢
  obtain ⟨B2, hB2⟩ : ∃ B2, B2 = B + 1 := ⟨_, rfl⟩
  rw [← hB2] at HX8 HSB ⊢
  have hBB : B ≠ B2 := by omega
  have hB0 : w0.heap.size ≤ B2 := by have := HD0.out.bel.size; omega
  clear HD0 HS2 hB hB2
  go_wp2_with fail
  go_loopw [16] (fun i w' => ∃ (k : Nat) (L M : LS) (a : Option Addr) (c : Nat) (R : List RF) (S T : Nat → Prop), k ≤ P.length ∧ i = .int .i64 k ∧ Hid (DuelL w0 w' bl bx B L M a c R S T (sumO (P.take k) + 8 * k) k) ∧ Hid (¬ S B2 ∧ ¬ T B2) ∧ Hid (w'.heap[B2]? = some (.cells #[.int .i64 0, .slice none 0 0, .int .i64 0, .bool false, .int .i64 0, .int .i64 0, .int .i64 0, .int .i64 0] 34 (0, 0)))) (fun i _ => P.length - (RowKit.intOf i).toNat)
  case atStart => exact ⟨0, L, M, a, c, R, S, T, by omega, rfl, HDL, HSB, HX8⟩
  case round =>
    obtain ⟨k, L, M, a, c, R, S, T, hk, rfl, HD, HSB, HX⟩ := hrel
    by_cases hlt : k < P.length
    · obtain ⟨b, o, rfl, hle, hb, c0, c1, c2⟩ := (HP.out.later HD.out.d.bel).head hlt
      have HRD := Lib.hid (HP.out.each P[k] (List.getElem_mem hlt))
      have hnum := HP.out.num P[k] (List.getElem_mem hlt)
      have hso := sumO_take hlt
      have hso2 := sumO_le P k
      have hso3 := sumO_at hlt
      have HSO := Lib.hid hso
      generalize P[k] = op at *
      obtain ⟨ok, oa, ol, oc, on⟩ := op
      simp only at c0 c1 c2 HRD hnum HSO hso hso3
      have hsz := HD.out.d.bel.size
      have HBA : Hid (Below wr.heap.size wr (wr.alloc (.cells #[.int .i64 ok, .slice oa ol.length oc, .int .i64 on] 107))) := (Below.refl _ _).alloc (Nat.le_refl _) _
      have HXA : Hid ((wr.alloc (.cells #[.int .i64 ok, .slice oa ol.length oc, .int .i64 on] 107)).heap[wr.heap.size]? = some (.cells #[.int .i64 ok, .slice oa ol.length oc, .int .i64 on] 107 (0, 0))) := heap_alloc_new _ _
      have HDA := Lib.hid (HD.out.later HBA.out)
      have HX2 := Lib.hid ((HBA.out.block _ (lt_of_heap HX.out)).trans HX.out)
      have HSO1 : Hid (¬ S wr.heap.size) := fun e => by have := (HD.out.d.sS _ e).2; omega
      have HBO : Hid (B < wr.heap.size) := lt_of_heap HD.out.blk
      go_upto_region 6 with fail
      generalize wr.alloc (.cells #[.int .i64 ok, .slice oa ol.length oc, .int .i64 on] 107) = wa at *
      obtain ⟨bo, hbo⟩ : ∃ bo, bo = wr.heap.size := ⟨_, rfl⟩
      rw [← hbo] at HXA HSO1 HBO ⊢
      have HBZ : Hid (B2 < wa.heap.size) := lt_of_heap HX2.out
      clear c0 c1 c2 HD HBA HX hbo hb
      obtain ⟨y0, y1, y2⟩ := cells3 HXA.out
      go_upto_block 2 with fail
      go_cut [12, 13, 16] from 16 to 103 (fun se sc si wx => ∃ (cd : Int) (L1 M1 : LS) (a2 : Option Addr) (c2 : Nat) (R2 : List RF) (SS TT : Nat → Prop), se = .int .i64 cd ∧ sc = .int .i64 cd ∧ si = .int .i64 k ∧ Hid (DuelL w0 wx bl bx B L1 M1 a2 c2 R2 SS TT (sumO (P.take (k + 1)) + 8 * (k + 1)) (k + 1)) ∧ Hid (¬ SS B2 ∧ ¬ TT B2) ∧ Hid (wx.heap[B2]? = some (.cells #[.int .i64 0, .slice none 0 0, .int .i64 0, .bool false, .int .i64 0, .int .i64 0, .int .i64 0, .int .i64 0] 34 (0, 0))))
      case first =>
        by_cases h0 : ok = 0
        · subst h0
          have hmo := HDA.out.d.most
          have hpu := put_any L bl (.pointer (some ⟨bx, 0, none⟩)) S oa oc ol wa HDA.out.d.log (fun k hk => (HDA.out.d.sS k hk).2) (fun w' hc => tab_below HT.out (HDA.out.d.bel.trans (hc.toBelow HDA.out.d.bel.size (fun k hk e => by have := (HDA.out.d.sS k e).1; omega)))) HDA.out.d.bnd (by omega) (by omega) (HRD.out.later HDA.out.d.bel) (by omega) (by omega)
          have HPU := Lib.hid hpu
          have HRP := Lib.hid (rel_put HDA.out.d.rel ol)
          have HBP := Lib.hid (bnd_put HDA.out.d.bnd ol)
          have hmp := putG_most L ol
          generalize putG opsD L ol = pl at *
          obtain ⟨L1, cd⟩ := pl
          simp only at HRP hmp HBP
          clear hpu
          go_wp2_with fail
          refine HPU.out.mono ?_
          rintro e w1 ⟨rfl, hl1, hc1⟩
          simp only at hl1
          have HL1 := Lib.hid hl1
          have HC1 := Lib.hid hc1
          have HXO1 := Lib.hid (hc1.heap HXA.out HSO1.out)
          have HXB1 := Lib.hid (hc1.heap HDA.out.blk HDA.out.bS)
          have HXZ1 := Lib.hid (hc1.heap HX2.out HSB.out.1)
          have HR1 := Lib.hid (HDA.out.d.lst.frame (fun k hk hl => hc1.block k hl (HDA.out.d.sT k hk).2.2))
          have hbw1 : Below w0.heap.size w0 w1 := HDA.out.d.bel.trans (hc1.toBelow HDA.out.d.bel.size (fun k hk e => by have := (HDA.out.d.sS k e).1; omega))
          have hrl : Hid (Calls Tryz.prog 39 #[.agg #[.int .i64 M.D.room, .slice a R.length c, .int .i64 M.D.plan, .bool M.D.down, .int .i64 M.most, .int .i64 M.n, .int .i64 M.size, .int .i64 M.waiting], .slice oa ol.length oc] w1 (MPst w1 T (putG opsF M ol))) := rputL_any HDA.out.d.rel HDA.out.d.bnd (by omega) (by omega) (by omega) (.slice a R.length c) R T oa oc ol w1 HR1.out HDA.out.d.files (HRD.out.later hbw1) (by omega)
          have HRL := Lib.hid hrl.out
          clear hl1 hc1 hbw1 hrl HPU y0 y1 y2 HXA HX2
          obtain ⟨hcd, hrel1⟩ := HRP.out
          generalize putG opsF M ol = pm at *
          obtain ⟨M1, cm⟩ := pm
          simp only at hcd hrel1
          subst hcd
          have HREL1 := Lib.hid hrel1
          clear hrel1 HRP
          obtain ⟨y0, y1, y2⟩ := cells3 HXO1.out
          obtain ⟨x0, x1, x2, x3, x4, x5, x6, x7⟩ := cells8w HXB1.out
          go_wp2_with fail
          refine HRL.out.mono ?_
          rintro e w2 ⟨v', R2, rfl, hf2, hr2, hb2⟩
          obtain ⟨a2, c2, rfl⟩ := slice_form hr2.row
          rw [show rlog (.slice a2 R2.length c2) (M1, cd).1 = .agg #[.int .i64 M1.D.room, .slice a2 R2.length c2, .int .i64 M1.D.plan, .bool M1.D.down, .int .i64 M1.most, .int .i64 M1.n, .int .i64 M1.size, .int .i64 M1.waiting] from rfl]
          have HXB2 := Lib.hid ((hb2.block _ (lt_of_heap HXB1.out)).trans HXB1.out)
          have HXZ2 := Lib.hid ((hb2.block _ (lt_of_heap HXZ1.out)).trans HXZ1.out)
          have HLS := Lib.hid (log_store HXB2.out (.int .i64 M1.D.room) (.slice a2 R2.length c2) (.int .i64 M1.D.plan) (.bool M1.D.down) (.int .i64 M1.most) (.int .i64 M1.n) (.int .i64 M1.size) (.int .i64 M1.waiting))
          have HD3 := Lib.hid (HDA.out.acted (s' := sumO (P.take (k + 1)) + 8 * (k + 1)) HL1.out HC1.out hr2 hb2 hf2 HREL1.out (HBP.out.more (by rw [HSO.out]; omega) (by omega) (by omega)) hmp HLS.out.2 HLS.out.1)
          have HXZ3 := Lib.hid (HLS.out.2.heap HXZ2.out (fun e => hBB e.symm))
          have hzz := HC1.out.size
          have HSB3 : Hid (¬ ((S B2 ∨ wa.heap.size ≤ B2) ∧ B2 < w1.heap.size) ∧ ¬ ((T B2 ∨ w1.heap.size ≤ B2) ∧ B2 < w2.heap.size)) := ⟨fun e => by rcases e.1 with e | e; exact HSB.out.1 e; have := HBZ.out; omega, fun e => by rcases e.1 with e | e; exact HSB.out.2 e; have := HBZ.out; omega⟩
          obtain ⟨x0', x1', x2', x3', x4', x5', x6', x7'⟩ := cells8w HXB2.out
          have q0 := freeAt HXB2.out 0
          have q1 := freeAt HXB2.out 1
          have q2 := freeAt HXB2.out 2
          have q3 := freeAt HXB2.out 3
          have q4 := freeAt HXB2.out 4
          have q5 := freeAt HXB2.out 5
          have q6 := freeAt HXB2.out 6
          have q7 := freeAt HXB2.out 7
          clear hf2 hr2 hb2 HRL HL1 HC1 HR1 HREL1 x0 x1 x2 x3 x4 x5 x6 x7 y0 y1 y2 HXZ1 HXZ2 HXO1 HXB1 hzz
          go_wp2_with fail
          go_meet
          exact ⟨cd, L1, M1, a2, c2, R2, _, _, rfl, rfl, rfl, HD3, HSB3, HXZ3⟩
        · by_cases h1 : ok = 1
          · subst h1
            have hpu := lsync_any L bl (.pointer (some ⟨bx, 0, none⟩)) S wa HDA.out.d.log (tab_below HT.out HDA.out.d.bel) HDA.out.d.bnd.d.plan
            have HPU := Lib.hid hpu
            have HRP := Lib.hid (rel_synG HDA.out.d.rel)
            have HBP := Lib.hid (bnd_synG HDA.out.d.bnd)
            have hmp : (synG opsD L).1.most = L.most := rfl
            generalize synG opsD L = pl at *
            obtain ⟨L1, cd⟩ := pl
            simp only at HRP hmp HBP
            clear hpu
            go_wp2_with fail
            refine HPU.out.mono ?_
            rintro e w1 ⟨rfl, hl1, hc1⟩
            simp only at hl1
            have HL1 := Lib.hid hl1
            have HC1 := Lib.hid hc1
            have HXO1 := Lib.hid (hc1.heap HXA.out HSO1.out)
            have HXB1 := Lib.hid (hc1.heap HDA.out.blk HDA.out.bS)
            have HXZ1 := Lib.hid (hc1.heap HX2.out HSB.out.1)
            have HR1 := Lib.hid (HDA.out.d.lst.frame (fun k hk hl => hc1.block k hl (HDA.out.d.sT k hk).2.2))
            have hbw1 : Below w0.heap.size w0 w1 := HDA.out.d.bel.trans (hc1.toBelow HDA.out.d.bel.size (fun k hk e => by have := (HDA.out.d.sS k e).1; omega))
            have hRn : R.length ≤ k + 1 := by
              have h1 := congrArg List.length HDA.out.d.files
              rw [List.length_map] at h1
              rw [h1, ← HDA.out.d.rel.rel.len]; exact HDA.out.d.bnd.d.len
            have hRs : sumR R ≤ sumO (P.take k) + 8 * k := by rw [sumR_f, HDA.out.d.files, ← HDA.out.d.rel.rel.sum]; exact HDA.out.d.bnd.d.sum
            have hpl : 0 ≤ M.D.plan ∧ M.D.plan ≤ 9223372036854775807 := by rw [← HDA.out.d.rel.rel.plan]; exact HDA.out.d.bnd.d.plan
            have hrl : Hid (Calls Tryz.prog 41 #[.agg #[.int .i64 M.D.room, .slice a R.length c, .int .i64 M.D.plan, .bool M.D.down, .int .i64 M.most, .int .i64 M.n, .int .i64 M.size, .int .i64 M.waiting]] w1 (MPst w1 T (synG opsF M))) := rsyncL_any M (.slice a R.length c) R T w1 HR1.out HDA.out.d.files (by omega) (by omega) (by omega)
            have HRL := Lib.hid hrl.out
            clear hl1 hc1 hbw1 hrl HPU y0 y1 y2 HXA HX2
            obtain ⟨hcd, hrel1⟩ := HRP.out
            generalize synG opsF M = pm at *
            obtain ⟨M1, cm⟩ := pm
            simp only at hcd hrel1
            subst hcd
            have HREL1 := Lib.hid hrel1
            clear hrel1 HRP
            obtain ⟨y0, y1, y2⟩ := cells3 HXO1.out
            obtain ⟨x0, x1, x2, x3, x4, x5, x6, x7⟩ := cells8w HXB1.out
            go_wp2_with fail
            refine HRL.out.mono ?_
            rintro e w2 ⟨v', R2, rfl, hf2, hr2, hb2⟩
            obtain ⟨a2, c2, rfl⟩ := slice_form hr2.row
            rw [show rlog (.slice a2 R2.length c2) (M1, cd).1 = .agg #[.int .i64 M1.D.room, .slice a2 R2.length c2, .int .i64 M1.D.plan, .bool M1.D.down, .int .i64 M1.most, .int .i64 M1.n, .int .i64 M1.size, .int .i64 M1.waiting] from rfl]
            have HXB2 := Lib.hid ((hb2.block _ (lt_of_heap HXB1.out)).trans HXB1.out)
            have HXZ2 := Lib.hid ((hb2.block _ (lt_of_heap HXZ1.out)).trans HXZ1.out)
            have HLS := Lib.hid (log_store HXB2.out (.int .i64 M1.D.room) (.slice a2 R2.length c2) (.int .i64 M1.D.plan) (.bool M1.D.down) (.int .i64 M1.most) (.int .i64 M1.n) (.int .i64 M1.size) (.int .i64 M1.waiting))
            have HD3 := Lib.hid (HDA.out.acted (s' := sumO (P.take (k + 1)) + 8 * (k + 1)) HL1.out HC1.out hr2 hb2 hf2 HREL1.out (HBP.out.more (by rw [HSO.out]; omega) (by omega) (by omega)) hmp HLS.out.2 HLS.out.1)
            have HXZ3 := Lib.hid (HLS.out.2.heap HXZ2.out (fun e => hBB e.symm))
            have hzz := HC1.out.size
            have HSB3 : Hid (¬ ((S B2 ∨ wa.heap.size ≤ B2) ∧ B2 < w1.heap.size) ∧ ¬ ((T B2 ∨ w1.heap.size ≤ B2) ∧ B2 < w2.heap.size)) := ⟨fun e => by rcases e.1 with e | e; exact HSB.out.1 e; have := HBZ.out; omega, fun e => by rcases e.1 with e | e; exact HSB.out.2 e; have := HBZ.out; omega⟩
            obtain ⟨x0', x1', x2', x3', x4', x5', x6', x7'⟩ := cells8w HXB2.out
            have q0 := freeAt HXB2.out 0
            have q1 := freeAt HXB2.out 1
            have q2 := freeAt HXB2.out 2
            have q3 := freeAt HXB2.out 3
            have q4 := freeAt HXB2.out 4
            have q5 := freeAt HXB2.out 5
            have q6 := freeAt HXB2.out 6
            have q7 := freeAt HXB2.out 7
            clear hf2 hr2 hb2 HRL HL1 HC1 HR1 HREL1 x0 x1 x2 x3 x4 x5 x6 x7 y0 y1 y2 HXZ1 HXZ2 HXO1 HXB1 hzz
            go_wp2_with fail
            go_meet
            exact ⟨cd, L1, M1, a2, c2, R2, _, _, rfl, rfl, rfl, HD3, HSB3, HXZ3⟩
          · have h0b : (ok == 0) = false := by simpa using h0
            have h1b : (ok == 1) = false := by simpa using h1
            have h0d : decide (ok = 0) = false := decide_eq_false h0
            have h1d : decide (ok = 1) = false := decide_eq_false h1
            have hpu := arm_any (.pointer (some ⟨bx, 0, none⟩)) on L.D _ wa HDA.out.d.log.dsk
            have HPU := Lib.hid hpu
            clear hpu
            go_wp2_with fail
            refine HPU.out.mono ?_
            rintro e w1 ⟨rfl, hd1, hc0⟩
            have hc1 : Chg S wa w1 := ⟨hc0.os, hc0.tape, hc0.output, hc0.size, fun k hk hS => hc0.block k hk (fun e => hS e.1)⟩
            have HL1 := Lib.hid (HDA.out.d.log.disk (D' := { L.D with plan := max on 0 }) (hd1.mono (fun k hk => .inl hk)) hc0)
            have HC1 := Lib.hid hc1
            have HXO1 := Lib.hid (hc1.heap HXA.out HSO1.out)
            have HXB1 := Lib.hid (hc1.heap HDA.out.blk HDA.out.bS)
            have HXZ1 := Lib.hid (hc1.heap HX2.out HSB.out.1)
            have HR1 := Lib.hid (HDA.out.d.lst.frame (fun k hk hl => hc1.block k hl (HDA.out.d.sT k hk).2.2))
            have HREL1 : Hid (RelL { L with D := { L.D with plan := max on 0 } } { M with D := { M.D with plan := max on 0 } }) := ⟨HDA.out.d.rel.n, HDA.out.d.rel.size, HDA.out.d.rel.waiting, HDA.out.d.rel.most, rel_arm HDA.out.d.rel.rel _⟩
            have HBP : Hid (BndL { L with D := { L.D with plan := max on 0 } } (sumO (P.take k) + 8 * k) (k + 1) (2 * k + 1)) := ⟨⟨HDA.out.d.bnd.d.sum, HDA.out.d.bnd.d.len, HDA.out.d.bnd.d.nm, HDA.out.d.bnd.d.nd, by show (0 : Int) ≤ max on 0 ∧ max on 0 ≤ 9223372036854775807; omega⟩, HDA.out.d.bnd.n0, HDA.out.d.bnd.size, HDA.out.d.bnd.waiting⟩
            have hst : Chg (fun k => k = B) w1 (w1.setCell ⟨B, 2, none⟩ (.int .i64 (max on 0))) := (Chg.refl (fun k => k = B) w1).setCell (p := ⟨B, 2, none⟩) (.inl rfl) _
            have HST := Lib.hid hst
            have HD3 := Lib.hid (HDA.out.acted (s' := sumO (P.take (k + 1)) + 8 * (k + 1)) (M' := { M with D := { M.D with plan := max on 0 } }) HL1.out HC1.out (HR1.out.mono (fun k hk => .inl hk)) (Below.refl _ _) HDA.out.d.files HREL1.out (HBP.out.more (by rw [HSO.out]; omega) (by omega) (by omega)) rfl hst (heap_store HXB1.out 2 (.int .i64 (max on 0))))
            have HXZ3 := Lib.hid (hst.heap HXZ1.out (fun e => hBB e.symm))
            have hzz := HC1.out.size
            have HSB3 : Hid (¬ ((S B2 ∨ wa.heap.size ≤ B2) ∧ B2 < w1.heap.size) ∧ ¬ ((T B2 ∨ w1.heap.size ≤ B2) ∧ B2 < w1.heap.size)) := ⟨fun e => by rcases e.1 with e | e; exact HSB.out.1 e; have := HBZ.out; omega, fun e => by rcases e.1 with e | e; exact HSB.out.2 e; have := HBZ.out; omega⟩
            clear hd1 hc0 hc1 hst HPU y0 y1 y2 HXA HX2 HL1 HC1 HR1 HREL1 hzz
            obtain ⟨y0, y1, y2⟩ := cells3 HXO1.out
            obtain ⟨x0, x1, x2, x3, x4, x5, x6, x7⟩ := cells8w HXB1.out
            have q2 := freeAt HXB1.out 2
            go_wp2_with fail
            go_meet
            exact ⟨0, { L with D := { L.D with plan := max on 0 } }, { M with D := { M.D with plan := max on 0 } }, a, c, R, _, _, rfl, rfl, rfl, HD3, HSB3, HXZ3⟩
      case rest =>
        obtain ⟨cd, L1, M1, a2, c2, R2, SS, TT, rfl, rfl, rfl, HD3, HSB3, HXZ3⟩ := hcut
        have hso4 := sumO_le P (k + 1)
        clear HDA HX2 HSO1 HBO HBZ HXA y0 y1 y2 HRD
        obtain ⟨w3, hw3⟩ : ∃ w3 : World, w3 = wc := ⟨_, rfl⟩
        subst hw3
        go_upto_region 15 with fail
        have HLK := Lib.hid (HD3.out.looks (by omega) (by omega))
        generalize hNL : (R2.map fun r => r.f.name) = NL at *
        have HB00 : Hid (Below w3.heap.size w3 w3.drew) := (Below.refl _ _).drew
        clear hNL
        go_region_held3 (fun w' => w'.cell? ⟨B, 0, none⟩ = some (.int .i64 M1.D.room) ∧ w'.cell? ⟨B, 1, none⟩ = some (.slice a2 R2.length c2) ∧ w'.cell? ⟨B, 2, none⟩ = some (.int .i64 M1.D.plan) ∧ w'.cell? ⟨B, 3, none⟩ = some (.bool M1.D.down) ∧ w'.cell? ⟨B, 4, none⟩ = some (.int .i64 M1.most) ∧ w'.cell? ⟨B, 5, none⟩ = some (.int .i64 M1.n) ∧ w'.cell? ⟨B, 6, none⟩ = some (.int .i64 M1.size) ∧ w'.cell? ⟨B, 7, none⟩ = some (.int .i64 M1.waiting)) (exact HLK.out.cells _ (by assumption))
          (first
          | (go_at_call 35; refine (HLK.out.seg _ (by assumption)).mono ?_; rintro e wa1 ⟨rfl, rfl⟩)
          | (go_at_call 36; refine (HLK.out.siz _ (by assumption)).mono ?_; rintro e wa2 ⟨rfl, rfl⟩)
          | (go_at_call 53; refine (HLK.out.wai _ (by assumption)).mono ?_; rintro e wa3 ⟨rfl, rfl⟩)
          | (go_at_call 51; refine (HLK.out.used _ (by assumption)).mono ?_; rintro e wa4 ⟨rfl, hb4⟩
             have HB4 := belh_step (w0 := w3) (by assumption) hb4
             clear hb4)
          | (go_at_call 52; refine (HLK.out.rused _ (by assumption)).mono ?_; rintro e wa5 ⟨rfl, hb5⟩
             have HB5 := belh_step (w0 := w3) (by assumption) hb5
             clear hb5)
          | (go_at_call 63; refine (HLK.out.down _ (by assumption)).mono ?_; rintro e wa6 ⟨rfl, rfl⟩)
          | (go_at_call 49; refine (HLK.out.list _ (by assumption)).mono ?_; rintro e wa7 ⟨a7, c7, rfl, hr7, hb7⟩
             have HB7 := belh_step (w0 := w3) (by assumption) hb7
             have HR7 := Lib.hid hr7
             clear hb7 hr7)
          | (go_at_call 50; refine (HLK.out.names _ (by assumption)).mono ?_; rintro e wa8 ⟨a8, c8, rfl, hr8, hb8⟩
             have HB8 := belh_step (w0 := w3) (by assumption) hb8
             have HR7b := Lib.hid (HR7.out.later hb8)
             have HR8 := Lib.hid hr8
             clear hb8 hr8)
          | (go_at_call 48; refine (sequal_any _ _ _ _ NL _ HR7b.out HR8.out HLK.out.len).mono ?_; rintro e wa9 ⟨rfl, hb9⟩
             have HB9 := belh_step (w0 := w3) HB8 hb9
             clear hb9))
        all_goals
          have HD9 := Lib.hid (HD3.out.later HB9.out)
          have HX9 := Lib.hid ((HB9.out.block _ (lt_of_heap HXZ3.out)).trans HXZ3.out)
          clear HLK HR7 HR7b HR8 HB4 HB5 HB7 HB8 HB00 HD3 HXZ3
          go_wp2
          go_roundw
          case rel => exact ⟨k + 1, L1, M1, a2, c2, R2, SS, TT, by omega, by go_num, HD9, HSB3, HX9⟩
          case measure => simp [RowKit.intOf]; omega
    · obtain rfl : k = P.length := by omega
      rw [List.take_length] at HD
      obtain ⟨x0, x1, x2, x3, x4, x5, x6, x7⟩ := cells8w HD.out.blk
      obtain ⟨y0, y1, y2, y3, y4, y5, y6, y7⟩ := cells8w HX.out
      have q0 := freeAt HX.out 0
      have q1 := freeAt HX.out 1
      have q2 := freeAt HX.out 2
      have q3 := freeAt HX.out 3
      have q4 := freeAt HX.out 4
      have q5 := freeAt HX.out 5
      have q6 := freeAt HX.out 6
      have q7 := freeAt HX.out 7
      have HLS := Lib.hid (log_store HX.out (.int .i64 M.D.room) (.slice a R.length c) (.int .i64 M.D.plan) (.bool M.D.down) (.int .i64 M.most) (.int .i64 M.n) (.int .i64 M.size) (.int .i64 M.waiting))
      have hB9 : w0.heap.size ≤ B2 := hB0
      go_wp2
      try simp only [Exit.inBlock, Exit.then]
      refine bodyPost_ret (results_row_tmp1 (P := Tryz.prog) Tryz.results17 _ _ B2 34 (rcell M a R.length c) (0, 0) _ rfl HLS.out.1 Tryz.underlying34 rfl rfl) rfl ?_
      have hc := HLS.out.2
      have h0 := HD.out.d.bel.size
      exact ⟨L, M, a, c, R, S, T, _, _, rfl, ⟨HD.out.d.log.frame (fun k hk hl => hc.block k hl (fun e => HSB.out.1 (by rw [← e]; exact hk))), HD.out.d.lst.frame (fun k hk hl => hc.block k hl (fun e => HSB.out.2 (by rw [← e]; exact hk))), HD.out.d.files, HD.out.d.rel, HD.out.d.bnd,
        HD.out.d.bel.trans (hc.toBelow h0 (fun k hk e => by have e2 : k = B2 := e; omega)), fun k hk => ⟨(HD.out.d.sS k hk).1, Nat.lt_of_lt_of_le (HD.out.d.sS k hk).2 hc.size⟩, fun k hk => ⟨(HD.out.d.sT k hk).1, Nat.lt_of_lt_of_le (HD.out.d.sT k hk).2.1 hc.size, (HD.out.d.sT k hk).2.2⟩, HD.out.d.most⟩, by omega, hl⟩
end Go.Proofs.YtgdmdbdljmlkkaaGreatDoor
