/- clockworkref04.Clone: a copy in new memory. -/
import Derived.Test.YtbofbboogmeneaaOwn
import Derived.Test.YtbofbboogmeneaaWeight
import Derived.Deep.RegionHeld3
namespace Go.Proofs.Ytbofbboogmeneaa
set_option linter.unusedVariables false
set_option linter.unusedSimpArgs false
open Go.RowKit

theorem costT_pos (t : VT) : 1 ≤ costT t := by
  cases t; rw [costT]; omega
theorem costL_len : ∀ l : List VT, l.length ≤ costL l
  | [] => by simp [costL]
  | t :: ts => by have := costL_len ts; have := costT_pos t; rw [costL, List.length_cons]; omega
theorem costL_mem : ∀ {l : List VT} {t : VT}, t ∈ l → costT t ≤ costL l
  | [], t, h => by cases h
  | a :: l, t, h => by
    rw [costL]
    rcases List.mem_cons.1 h with h | h
    · rw [h]; omega
    · have := costL_mem h; omega
theorem costT_len {k n : Int} {f : Nat} {s : ByteArray} {l : List VT} {c : Nat} (h : costT (.node k n f s l) ≤ c) : l.length < c ∧ (∀ t ∈ l, costT t ≤ c) ∧ min s.size 1000 < c := by
  rw [costT] at h
  have := costL_len l
  exact ⟨by omega, fun t ht => by have := costL_mem ht; omega, by omega⟩
theorem Cl.store {w : World} {B : Nat} {sl : Value} {ts : List VT} {vs : List VV} {col : Nat → Nat} (h : Cl w B sl ts vs col) {p : Addr} (hp : p.block < B) {u : Value} : Cl (w.setCell p u) B sl ts vs col := by
  have hs : (w.setCell p u).heap.size = w.heap.size := by simp [World.setCell]
  have hb : ∀ k, B ≤ k → (w.setCell p u).heap[k]? = w.heap[k]? := fun k hk => Below.heap_setCell _ _ _ _ (by omega)
  refine ⟨(h.1.frame (fun k hk _ => hb k hk.1.1)).mono (fun b hb1 => by rw [hs]; exact hb1), TOwns.mk h.2.length (fun j hj => ?_)⟩
  obtain ⟨v, h1, h2⟩ := h.2.get j hj
  exact ⟨v, h1, (h2.frame _ (fun k hk _ => hb k hk.1.1)).mono _ (fun b hb1 => by rw [hs]; exact hb1)⟩
theorem undrew {B : Nat} {a b : World} (h : Below B a.drew b) : Below B a b := ⟨h.os, h.tape, h.output, h.size, h.block⟩

set_option maxRecDepth 100000 in
set_option maxHeartbeats 1000000 in
theorem rclone_any (t : VT) : ∀ (v : VV) (S : Nat → Prop) (w : World), TRead w S t v → costT t ≤ 100000 →
    Calls Try.prog 20 #[v.val] w fun e w' => ∃ u : VV, e = .returned u.val ∧ TOwn w' t u (fun b => w.heap.size ≤ b ∧ b < w'.heap.size) ∧ Below w.heap.size w w' := by
  induction t using VT.ind with
  | _ k n f s l ih =>
    intro v S w hv hcost
    obtain ⟨hcl, hcm, -⟩ := costT_len hcost
    have HCM := Lib.hid hcm
    clear hcost hcm
    have HV := Lib.hid hv
    have HI := Lib.hid ih
    have hval : v.val = .agg #[.int .i64 k, .int .i64 n, .float .f64 f, .string s, .slice v.a l.length v.c] := hv.val
    have hlen : l.length ≤ v.c := by obtain ⟨vs, hr, _⟩ := hv.elems; obtain ⟨_, _, _, he, hle, _⟩ := hr; cases he; exact hle
    rw [hval]
    have hmax : l.length ≤ maxLen := hv.small
    unfold maxLen at hmax
    clear hv ih hval
    obtain ⟨va, hva⟩ : ∃ va, va = v.a := ⟨_, rfl⟩
    have HVA := Lib.hid hva
    rw [← hva]
    clear hva
    go_enter Try.func20, Try.ntmps20
    go_wp2
    have HBA : Hid ((((w.alloc (.cells #[.int .i64 k, .int .i64 n, .float .f64 f, .string s, .slice va l.length v.c] 31)).alloc (.cells #[.int .i64 0, .int .i64 0, .float .f64 0, .string ⟨#[]⟩, .slice none 0 0] 31)).alloc (.cells #[.int .i64 k, .int .i64 n, .float .f64 f, .string s, .slice none 0 0] 31)).heap[w.heap.size]? = some (.cells #[.int .i64 k, .int .i64 n, .float .f64 f, .string s, .slice va l.length v.c] 31 (0, 0))) := by
      rw [Hid, Below.heap_alloc _ _ _ (by simp; omega), Below.heap_alloc _ _ _ (by simp)]; exact heap_alloc_new w _
    have HRA : Hid ((((w.alloc (.cells #[.int .i64 k, .int .i64 n, .float .f64 f, .string s, .slice va l.length v.c] 31)).alloc (.cells #[.int .i64 0, .int .i64 0, .float .f64 0, .string ⟨#[]⟩, .slice none 0 0] 31)).alloc (.cells #[.int .i64 k, .int .i64 n, .float .f64 f, .string s, .slice none 0 0] 31)).heap[w.heap.size + 1]? = some (.cells #[.int .i64 0, .int .i64 0, .float .f64 0, .string ⟨#[]⟩, .slice none 0 0] 31 (0, 0))) := by
      rw [Hid, Below.heap_alloc _ _ _ (by simp)]
      have := heap_alloc_new (w.alloc (.cells #[.int .i64 k, .int .i64 n, .float .f64 f, .string s, .slice va l.length v.c] 31)) (.cells #[.int .i64 0, .int .i64 0, .float .f64 0, .string ⟨#[]⟩, .slice none 0 0] 31)
      rwa [World.size_alloc] at this
    have HOA : Hid ((((w.alloc (.cells #[.int .i64 k, .int .i64 n, .float .f64 f, .string s, .slice va l.length v.c] 31)).alloc (.cells #[.int .i64 0, .int .i64 0, .float .f64 0, .string ⟨#[]⟩, .slice none 0 0] 31)).alloc (.cells #[.int .i64 k, .int .i64 n, .float .f64 f, .string s, .slice none 0 0] 31)).heap[w.heap.size + 1 + 1]? = some (.cells #[.int .i64 k, .int .i64 n, .float .f64 f, .string s, .slice none 0 0] 31 (0, 0))) := by
      have := heap_alloc_new ((w.alloc (.cells #[.int .i64 k, .int .i64 n, .float .f64 f, .string s, .slice va l.length v.c] 31)).alloc (.cells #[.int .i64 0, .int .i64 0, .float .f64 0, .string ⟨#[]⟩, .slice none 0 0] 31)) (.cells #[.int .i64 k, .int .i64 n, .float .f64 f, .string s, .slice none 0 0] 31)
      rwa [World.size_alloc, World.size_alloc] at this
    have HEA : Hid (Below w.heap.size w (((w.alloc (.cells #[.int .i64 k, .int .i64 n, .float .f64 f, .string s, .slice va l.length v.c] 31)).alloc (.cells #[.int .i64 0, .int .i64 0, .float .f64 0, .string ⟨#[]⟩, .slice none 0 0] 31)).alloc (.cells #[.int .i64 k, .int .i64 n, .float .f64 f, .string s, .slice none 0 0] 31))) := (((Below.refl _ _).alloc (Nat.le_refl _) _).alloc (by simp) _).alloc (by simp; omega) _
    have HSA : Hid ((((w.alloc (.cells #[.int .i64 k, .int .i64 n, .float .f64 f, .string s, .slice va l.length v.c] 31)).alloc (.cells #[.int .i64 0, .int .i64 0, .float .f64 0, .string ⟨#[]⟩, .slice none 0 0] 31)).alloc (.cells #[.int .i64 k, .int .i64 n, .float .f64 f, .string s, .slice none 0 0] 31)).heap.size = w.heap.size + 1 + 1 + 1) := by simp [Hid]
    generalize ((w.alloc (.cells #[.int .i64 k, .int .i64 n, .float .f64 f, .string s, .slice va l.length v.c] 31)).alloc (.cells #[.int .i64 0, .int .i64 0, .float .f64 0, .string ⟨#[]⟩, .slice none 0 0] 31)).alloc (.cells #[.int .i64 k, .int .i64 n, .float .f64 f, .string s, .slice none 0 0] 31) = wd at *
    obtain ⟨B2, hB2⟩ : ∃ B2, w.heap.size + 1 + 1 = B2 := ⟨_, rfl⟩
    rw [hB2] at HOA HSA ⊢
    have HE := Lib.hid hB2
    clear hB2
    go_loopw [4] (fun i w' => ∃ (m : Nat) (vs : List VV) (col : Nat → Nat) (a : Option Addr) (c : Nat), m ≤ l.length ∧ i = .int .i64 m ∧
        Hid (w'.heap[w.heap.size]? = some (.cells #[.int .i64 k, .int .i64 n, .float .f64 f, .string s, .slice va l.length v.c] 31 (0, 0))) ∧
        Hid (w'.heap[B2]? = some (.cells #[.int .i64 k, .int .i64 n, .float .f64 f, .string s, .slice a m c] 31 (0, 0))) ∧
        Hid (w'.heap[w.heap.size + 1]? = some (.cells #[.int .i64 0, .int .i64 0, .float .f64 0, .string ⟨#[]⟩, .slice none 0 0] 31 (0, 0))) ∧
        Hid (Cl w' (B2 + 1) (.slice a m c) (l.take m) vs col) ∧ Hid (Below w.heap.size w w') ∧ Hid (B2 + 1 ≤ w'.heap.size)) (fun i _ => l.length - (RowKit.intOf i).toNat)
    case atStart =>
      exact ⟨0, [], fun _ => 0, none, 0, by omega, rfl, HBA, HOA, HRA, Cl.nil _ _, HEA, Nat.le_of_eq HSA.out.symm⟩
    case round =>
      obtain ⟨m, vs, col, a, c, hm, rfl, HB, HO, HR, HCL, HBel, hsz⟩ := hrel
      have hx4 := cellAt HB.out 4 (v := .slice va l.length v.c) rfl
      have hy4 := cellAt HO.out 4 (v := .slice a m c) rfl
      by_cases hlt : m < l.length
      · obtain ⟨b, o, hb0, hcap, hblt, -, p, hp, hc0, hc1, hc2, hc3, hc4⟩ := (HV.out.later HBel.out).child m hlt
        obtain rfl : va = some ⟨b, o, none⟩ := HVA.out.trans hb0
        have hbw : b < w.heap.size := by
          have hB2' : w.heap.size ≤ B2 := by have := HE.out; omega
          obtain ⟨b9, o9, h9, -, h8, -⟩ := HV.out.child m hlt
          have := hb0.symm.trans h9
          cases this; exact h8
        clear hb0
        have HC : Hid (∀ wd, Below wr.heap.size wr wd → Calls Try.prog 20 #[p.val] wd fun e w' => ∃ u : VV, e = .returned u.val ∧ TOwn w' l[m] u (fun b => wd.heap.size ≤ b ∧ b < w'.heap.size) ∧ Below wd.heap.size wd w') :=
          fun wd hb => HI.out l[m] (List.getElem_mem hlt) p S wd (hp.later hb) (HCM.out _ (List.getElem_mem hlt))
        have HTK : Hid (l.take (m + 1) = l.take m ++ [l[m]]) := List.take_succ_eq_append_getElem hlt
        have htl : (l.take m).length = m := by rw [List.length_take]; omega
        generalize l[m] = tm at *
        clear hp
        go_wp2_with fail
        have HY4 : Hid (wr.cell? ⟨B2, 4, none⟩ = some (.slice a m c) ∧ wr.cell? ⟨w.heap.size, 4, none⟩ = some (.slice (some ⟨b, o, none⟩) l.length v.c) ∧ wr.cell? ⟨b, o + m * 5, none⟩ = some (.int .i64 p.k) ∧ wr.cell? ⟨b, o + m * 5 + 1, none⟩ = some (.int .i64 p.n) ∧ wr.cell? ⟨b, o + m * 5 + 2, none⟩ = some (.float .f64 p.f) ∧ wr.cell? ⟨b, o + m * 5 + 3, none⟩ = some (.string p.s) ∧ wr.cell? ⟨b, o + m * 5 + 4, none⟩ = some (.slice p.a p.l p.c)) := ⟨hy4, hx4, hc0, hc1, hc2, hc3, hc4⟩
        go_region_law
          (first
          | (go_simp; go_at_call 20; refine (HC.out _ ((Below.refl _ _).drew)).mono ?_; rintro e w1 ⟨u, rfl, hu, hb⟩
             have HU := Lib.hid (show TOwn w1 tm u (fun b => wr.heap.size ≤ b ∧ b < w1.heap.size) from hu)
             have HB01 := Lib.hid (undrew hb)
             have HO1 := Lib.hid ((HB01.out.block _ (lt_of_heap HO.out)).trans HO.out)
             have HB1 := Lib.hid ((HB01.out.block _ (lt_of_heap HB.out)).trans HB.out)
             have hz4 := cellAt HO1.out 4 (v := .slice a m c) rfl
             have hz6 : ∀ ob, (w1.alloc ob).cell? ⟨B2, 4, none⟩ = some (.slice a m c) := fun ob => cellAt ((Below.heap_alloc _ _ _ (lt_of_heap HO1.out)).trans HO1.out) 4 rfl
             have HR1 := Lib.hid (HCL.out.1.frame (fun k hk hl => HB01.out.block k hl))
             clear hu hb)
          | (refine step_row elemVal rfl rfl (S := fun b => (B2 + 1 ≤ b ∧ b < wr.heap.size) ∧ col b = 0) (v := .slice a m c) (n := (l.take m).length) (xs := flat vs) rfl (HR1.out.frame (fun k _ hk => Below.heap_alloc _ _ _ hk)) (y := .slice (some ⟨_, 0, none⟩) 1 1) (m := 1) (news := u.cells) rfl (Reads.block (heap_alloc_new w1 _) 1 5 rfl) (VV.one u) (by unfold maxLen; omega) (by omega) ?_; intro v5 w5 hr5 hch5
             obtain ⟨a5, c5, rfl⟩ : ∃ a5 c5, v5 = .slice a5 (m + 1) c5 := (by obtain ⟨-, a5, c5, h, -⟩ := hr5.reads; exact ⟨a5, c5, by rw [h, htl]⟩)
             have HR5 := Lib.hid hr5
             have HCH5 := Lib.hid hch5
             have HO5 := Lib.hid (hch5.heap ((Below.heap_alloc _ _ _ (lt_of_heap HO1.out)).trans HO1.out) (by omega))
             have HB5 := Lib.hid (hch5.heap ((Below.heap_alloc _ _ _ (lt_of_heap HB1.out)).trans HB1.out) (fun h => by have := HE.out; omega))
             have heq : ∀ k, k ≤ B2 → w5.heap[k]? = wr.heap[k]? := fun k hk => (hch5.block k (by have := lt_of_heap HO1.out; simp only [World.size_alloc]; omega) (fun h => by omega)).trans ((Below.heap_alloc _ _ _ (by have := lt_of_heap HO1.out; omega)).trans (HB01.out.block k (by have := lt_of_heap HO.out; show k < wr.heap.size; omega)))
             have hle : w.heap.size ≤ B2 := by have := HE.out; omega
             have HY5 : Hid (w5.cell? ⟨B2, 4, none⟩ = some (.slice a m c) ∧ w5.cell? ⟨w.heap.size, 4, none⟩ = some (.slice (some ⟨b, o, none⟩) l.length v.c) ∧ w5.cell? ⟨b, o + m * 5, none⟩ = some (.int .i64 p.k) ∧ w5.cell? ⟨b, o + m * 5 + 1, none⟩ = some (.int .i64 p.n) ∧ w5.cell? ⟨b, o + m * 5 + 2, none⟩ = some (.float .f64 p.f) ∧ w5.cell? ⟨b, o + m * 5 + 3, none⟩ = some (.string p.s) ∧ w5.cell? ⟨b, o + m * 5 + 4, none⟩ = some (.slice p.a p.l p.c)) :=
               ⟨(World.cell?_of_block (heq _ (Nat.le_refl _))).trans HY4.out.1, (World.cell?_of_block (heq _ hle)).trans HY4.out.2.1, (World.cell?_of_block (heq _ (by show b ≤ B2; omega))).trans HY4.out.2.2.1, (World.cell?_of_block (heq _ (by show b ≤ B2; omega))).trans HY4.out.2.2.2.1, (World.cell?_of_block (heq _ (by show b ≤ B2; omega))).trans HY4.out.2.2.2.2.1, (World.cell?_of_block (heq _ (by show b ≤ B2; omega))).trans HY4.out.2.2.2.2.2.1, (World.cell?_of_block (heq _ (by show b ≤ B2; omega))).trans HY4.out.2.2.2.2.2.2⟩
             have hy5 := HY5.out.1
             have HR55 : Hid (w5.heap[w.heap.size + 1]? = some (.cells #[.int .i64 0, .int .i64 0, .float .f64 0, .string ⟨#[]⟩, .slice none 0 0] 31 (0, 0))) := (heq _ (by have := HE.out; omega)).trans HR.out
             have hf5 := freeAt HO5.out 4
             clear hr5 hch5 heq hle))
        all_goals
          have HCL6 : Hid (Cl w5 (B2 + 1) (.slice a5 (m + 1) c5) (l.take m ++ [tm]) (vs ++ [u]) (fun b => if b < wr.heap.size then col b else if b < w1.heap.size then (l.take m).length + 1 else 0)) :=
            HCL.out.step (w1 := w1) (by have := hsz.out; omega) HU.out HB01.out ((Below.refl _ _).alloc (Nat.le_refl _) _) (HR5.out.mono (fun b hb => hb.imp_right (fun h => Nat.le_of_succ_le (by simpa only [World.size_alloc] using h)))) HCH5.out
          go_wp2
          go_roundw
          case rel =>
            refine ⟨m + 1, vs ++ [u], (fun b => if b < wr.heap.size then col b else if b < w1.heap.size then (l.take m).length + 1 else 0), a5, c5, by omega, by go_num, ?_, ?_, ?_, ?_, ?_, ?_⟩
            · exact (Below.heap_setCell _ _ _ _ (by show w.heap.size ≠ B2; have := HE.out; omega)).trans HB5.out
            · exact heap_store HO5.out 4 _
            · exact (Below.heap_setCell _ _ _ _ (by show w.heap.size + 1 ≠ B2; have := HE.out; omega)).trans HR55.out
            · rw [HTK.out]; exact HCL6.out.store (Nat.lt_succ_self _)
            · have hle : w.heap.size ≤ B2 := by have := HE.out; omega
              have h01 := HB01.out.size
              have h00 := hsz.out
              have hwr : w.heap.size ≤ wr.heap.size := HBel.out.size
              have hdw : wr.drew.heap.size = wr.heap.size := rfl
              refine ((((HBel.out.trans (HB01.out.mono HBel.out.size)).alloc (by have := lt_of_heap HO1.out; omega) _).trans (HCH5.out.toBelow (B := w.heap.size) (by have := lt_of_heap HO1.out; simp only [World.size_alloc]; omega) (fun n hn h => by omega))).setCell (by show w.heap.size ≤ B2; omega) _)
            · have := lt_of_heap HO5.out
              show B2 + 1 ≤ _
              simp only [World.setCell, Array.size_modify]; omega
          case measure => simp [RowKit.intOf]; omega
      · obtain rfl : m = l.length := by omega
        have hl0 := HCL.out.1.1
        have hx : ∀ i (hi : i < 5), wr.cell? ⟨B2, i, none⟩ = some (#[Value.int .i64 k, .int .i64 n, .float .f64 f, .string s, .slice a l.length c][i]'hi) := fun i hi => cellAt HO.out i (Array.getElem?_eq_getElem hi)
        have hy0 := hx 0 (by omega)
        have hy1 := hx 1 (by omega)
        have hy2 := hx 2 (by omega)
        have hy3 := hx 3 (by omega)
        have hz : ∀ i (hi : i < 5), wr.cell? ⟨w.heap.size + 1, i, none⟩ = some ((#[.int .i64 0, .int .i64 0, .float .f64 0, .string ⟨#[]⟩, .slice none 0 0] : Array Value)[i]'hi) := fun i hi => cellAt HR.out i (Array.getElem?_eq_getElem hi)
        have hz0 := hz 0 (by omega)
        have hz1 := hz 1 (by omega)
        have hz2 := hz 2 (by omega)
        have hz3 := hz 3 (by omega)
        have hz4 := hz 4 (by omega)
        have hf0 := freeAt HR.out 0
        have hf1 := freeAt HR.out 1
        have hf2 := freeAt HR.out 2
        have hf3 := freeAt HR.out 3
        have hf4 := freeAt HR.out 4
        clear hx hl0 hz
        go_wp2
        have hle : w.heap.size + 1 < B2 := by have := HE.out; omega
        have HCF := ((((HCL.out.store (p := ⟨w.heap.size + 1, 0, none⟩) (u := .int .i64 k) (by show w.heap.size + 1 < _; omega)).store (p := ⟨w.heap.size + 1, 1, none⟩) (u := .int .i64 n) (by show w.heap.size + 1 < _; omega)).store (p := ⟨w.heap.size + 1, 2, none⟩) (u := .float .f64 f) (by show w.heap.size + 1 < _; omega)).store (p := ⟨w.heap.size + 1, 3, none⟩) (u := .string s) (by show w.heap.size + 1 < _; omega)).store (p := ⟨w.heap.size + 1, 4, none⟩) (u := .slice a l.length c) (by show w.heap.size + 1 < _; omega)
        have HBF := ((((HBel.out.setCell (p := ⟨w.heap.size + 1, 0, none⟩) (by show w.heap.size ≤ w.heap.size + 1; omega) (.int .i64 k)).setCell (p := ⟨w.heap.size + 1, 1, none⟩) (by show w.heap.size ≤ w.heap.size + 1; omega) (.int .i64 n)).setCell (p := ⟨w.heap.size + 1, 2, none⟩) (by show w.heap.size ≤ w.heap.size + 1; omega) (.float .f64 f)).setCell (p := ⟨w.heap.size + 1, 3, none⟩) (by show w.heap.size ≤ w.heap.size + 1; omega) (.string s)).setCell (p := ⟨w.heap.size + 1, 4, none⟩) (by show w.heap.size ≤ w.heap.size + 1; omega) (.slice a l.length c)
        have HRF := heap_store (heap_store (heap_store (heap_store (heap_store HR.out 0 (.int .i64 k)) 1 (.int .i64 n)) 2 (.float .f64 f)) 3 (.string s)) 4 (.slice a l.length c)
        generalize (((((wr.setCell ⟨w.heap.size + 1, 0, none⟩ (.int .i64 k)).setCell ⟨w.heap.size + 1, 1, none⟩ (.int .i64 n)).setCell ⟨w.heap.size + 1, 2, none⟩ (.float .f64 f)).setCell ⟨w.heap.size + 1, 3, none⟩ (.string s)).setCell ⟨w.heap.size + 1, 4, none⟩ (.slice a l.length c)) = wf at *
        have hq : ∀ i (hi : i < 5), wf.cell? ⟨w.heap.size + 1, i, none⟩ = some (#[Value.int .i64 k, .int .i64 n, .float .f64 f, .string s, .slice a l.length c][i]'hi) := fun i hi => cellAt HRF i (Array.getElem?_eq_getElem hi)
        have hq0 := hq 0 (by omega)
        have hq1 := hq 1 (by omega)
        have hq2 := hq 2 (by omega)
        have hq3 := hq 3 (by omega)
        have hq4 := hq 4 (by omega)
        rw [List.take_length] at HCF
        refine bodyPost_ret (v := .agg #[.int .i64 k, .int .i64 n, .float .f64 f, .string s, .slice a l.length c]) ?_ ?_ ?_
        · simp [results, Try.results20, go_sem, hq0, hq1, hq2, hq3, hq4]
        · rfl
        exact ⟨⟨k, n, f, s, a, l.length, c⟩, rfl, (HCF.own (by unfold maxLen; omega)).mono _ (fun b hb => ⟨by omega, hb.2⟩), HBF⟩
end Go.Proofs.Ytbofbboogmeneaa
