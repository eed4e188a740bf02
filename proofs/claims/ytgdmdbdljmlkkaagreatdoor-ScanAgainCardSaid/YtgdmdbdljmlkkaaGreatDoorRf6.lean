/- The reference of a disk: Crash.
The reference of a disk: what Do computes, and how it ends. -/
import Derived.Test.YtgdmdbdljmlkkaaGreatDoorRf4
import Derived.Test.YtgdmdbdljmlkkaaGreatDoorDLive
import Derived.Test.YtgdmdbdljmlkkaaGreatDoorDRemove
namespace Go.Proofs.YtgdmdbdljmlkkaaGreatDoor
set_option linter.unusedVariables false
set_option linter.unusedSimpArgs false
open Go.RowKit

def cutRF (r : RF) (k : Option Int) : RF := ⟨⟨r.f.name, r.f.b.take (r.f.d + cutN r.f k), r.f.d + cutN r.f k⟩, r.a, r.c⟩
def crashR (R : List RF) (ks : List Int) : List RF := R.mapIdx fun i r => cutRF r ks[i]?
theorem crashR_length (R : List RF) (ks : List Int) : (crashR R ks).length = R.length := List.length_mapIdx ..
theorem crashR_succ {R : List RF} {ks : List Int} {m : Nat} (h : m < R.length) : crashR (R.take (m + 1)) ks = crashR (R.take m) ks ++ [cutRF R[m] ks[m]?] := by
  unfold crashR
  rw [List.take_succ_eq_append_getElem h, List.mapIdx_append]
  congr 1
  simp [List.length_take, Nat.min_eq_left (Nat.le_of_lt h)]
theorem cutN_le (f : DF) (h : f.d ≤ f.b.length) (k : Option Int) : f.d + cutN f k ≤ f.b.length := by
  unfold cutN; split <;> omega
theorem cutRF_ok {w : World} {T : Nat → Prop} {r : RF} (h : okR w T r) (k : Option Int) : okR w T (cutRF r k) := by
  have hle := cutN_le r.f h.2.1 k
  have hlen : (r.f.b.take (r.f.d + cutN r.f k)).length = r.f.d + cutN r.f k := by rw [List.length_take]; omega
  refine ⟨?_, ?_, ?_⟩
  · show Row w _ 1 (.slice r.a (r.f.b.take (r.f.d + cutN r.f k)).length r.c) (r.f.b.take (r.f.d + cutN r.f k)).length (byts (r.f.b.take (r.f.d + cutN r.f k))) T
    rw [hlen, show byts (r.f.b.take (r.f.d + cutN r.f k)) = (byts r.f.b).take (r.f.d + cutN r.f k) from List.map_take]
    exact (show Row w _ 1 (.slice r.a r.f.b.length r.c) _ _ _ from h.1).shrink _ hle
  · show r.f.d + cutN r.f k ≤ (r.f.b.take (r.f.d + cutN r.f k)).length
    omega
  · show (r.f.b.take (r.f.d + cutN r.f k)).length ≤ _
    have := h.2.2
    omega

theorem Row.store {w : World} {e : TypeId} {size : Nat} {v : Value} {n B : Nat} {xs : List Value} (h : Row w e size v n xs (fun k => B ≤ k)) {p : Addr} (hp : p.block < B) (u : Value) : Row (w.setCell p u) e size v n xs (fun k => B ≤ k) :=
  h.frame (fun k hk _ => Below.heap_setCell _ _ _ _ (by omega))

set_option maxRecDepth 100000 in
set_option maxHeartbeats 2000000 in
theorem rcrash_any (room plan : Int) (down : Bool) (v : Value) (R : List RF) (T : Nat → Prop) (ka : Option Addr) (kc : Nat) (ks : List Int) (w : World) (h : RLi w v R T) (hL : R.length ≤ 10000)
    (hk : Reads w (.slice ka ks.length kc) ks.length 1 (ks.map (Value.int .i64))) (hkl : ks.length ≤ 100000) :
    Calls Tryz.prog 20 #[rdisk room v plan down, .slice ka ks.length kc] w fun e w' => ∃ v', e = .returned (rdisk room v' 0 false) ∧ RLi w' v' (crashR R ks) (fun k => T k ∨ w.heap.size ≤ k) ∧ Below w.heap.size w w' := by
  obtain ⟨la, lc, rfl⟩ := slice_form h.row
  have H := Lib.hid h
  have HK := Lib.hid hk
  clear h hk
  have HBX : Hid (((w.alloc (.cells #[.int .i64 room, .slice la R.length lc, .int .i64 plan, .bool down] 32)).alloc (.cells #[.int .i64 0, .slice none 0 0, .int .i64 0, .bool false] 32)).heap[w.heap.size]? = some (.cells #[.int .i64 room, .slice la R.length lc, .int .i64 plan, .bool down] 32 (0, 0))) := (alloc2_low w _ _).trans (heap_alloc_new w _)
  have HRX : Hid (((w.alloc (.cells #[.int .i64 room, .slice la R.length lc, .int .i64 plan, .bool down] 32)).alloc (.cells #[.int .i64 0, .slice none 0 0, .int .i64 0, .bool false] 32)).heap[w.heap.size + 1]? = some (.cells #[.int .i64 0, .slice none 0 0, .int .i64 0, .bool false] 32 (0, 0))) := alloc2_high w _ _ (heap_alloc_new _ _)
  have HBel : Hid (Below w.heap.size w ((w.alloc (.cells #[.int .i64 room, .slice la R.length lc, .int .i64 plan, .bool down] 32)).alloc (.cells #[.int .i64 0, .slice none 0 0, .int .i64 0, .bool false] 32))) := ((Below.refl _ _).alloc (Nat.le_refl _) _).alloc (by simp) _
  have HSZ : Hid (((w.alloc (.cells #[.int .i64 room, .slice la R.length lc, .int .i64 plan, .bool down] 32)).alloc (.cells #[.int .i64 0, .slice none 0 0, .int .i64 0, .bool false] 32)).heap.size = w.heap.size + 2) := by simp [Hid]
  go_enter Tryz.func20, Tryz.ntmps20
  go_wp2_with fail
  generalize ((w.alloc (.cells #[.int .i64 room, .slice la R.length lc, .int .i64 plan, .bool down] 32)).alloc (.cells #[.int .i64 0, .slice none 0 0, .int .i64 0, .bool false] 32)) = wd at *
  go_loopw [5, 6] (fun out i w' => ∃ m : Nat, m ≤ R.length ∧ i = .int .i64 m ∧ Hid (Row w' 120 3 out m ((crashR (R.take m) ks).flatMap rcells) (fun k => wd.heap.size ≤ k)) ∧ Hid (Below wd.heap.size wd w')) (fun _ i _ => R.length - (RowKit.intOf i).toNat)
  case atStart => exact ⟨0, by omega, rfl, Row.nil _ _ _ _, Below.refl _ _⟩
  case round =>
    obtain ⟨m, hm, rfl, HO, HB⟩ := hrel
    have HBL := Lib.hid (HBel.out.trans (HB.out.mono HBel.out.size))
    have HBX2 := Lib.hid ((HB.out.block _ (lt_of_heap HBX.out)).trans HBX.out)
    obtain ⟨hx0, hx1, -, -⟩ := cells4 HBX2.out
    by_cases hlt : m < R.length
    · obtain ⟨b, o, c, he, hcap, hb, hcell⟩ := (H.out.below HBL.out).cells (by omega)
      obtain ⟨rfl, rfl⟩ : la = some ⟨b, o, none⟩ ∧ lc = c := by cases he; exact ⟨rfl, rfl⟩
      obtain ⟨hc0, hc1, hc2⟩ := hcell m hlt
      have hx1a := fun ob => (cells4 ((Below.heap_alloc wr ob _ (lt_of_heap HBX2.out)).trans HBX2.out)).2.1
      have hca0 := fun ob => (World.cell?_of_block (a := ⟨b, o + m * 3, none⟩) (Below.heap_alloc wr ob _ hb)).trans hc0
      have hca1 := fun ob => (World.cell?_of_block (a := ⟨b, o + m * 3 + 1, none⟩) (Below.heap_alloc wr ob _ hb)).trans hc1
      have hca2 := fun ob => (World.cell?_of_block (a := ⟨b, o + m * 3 + 2, none⟩) (Below.heap_alloc wr ob _ hb)).trans hc2
      have HOK := Lib.hid ((H.out.below HBL.out).byt R[m] (List.getElem_mem hlt))
      have HS := Lib.hid (crashR_succ (ks := ks) hlt)
      clear hcell he
      generalize R[m] = r at *
      have hlen := HOK.out.2.1
      have hle9 := HOK.out.2.2
      have hcap2 : r.f.b.length ≤ r.c := by
        obtain ⟨-, a', c', h, hle, -⟩ := (show Row wr _ 1 (.slice r.a r.f.b.length r.c) _ _ _ from HOK.out.1).reads
        cases h; exact hle
      have hcap3 : r.c ≤ 9223372036854775807 := by
        rcases (show Row wr _ 1 (.slice r.a r.f.b.length r.c) _ _ _ from HOK.out.1).2 with ⟨h, -⟩ | ⟨g, off, cap, _, h, _, _, h1, h2, _⟩
        · simp only [Value.slice.injEq] at h; omega
        · simp only [Value.slice.injEq] at h; unfold maxLen at h2; omega
      go_upto_region 7 with fail
      have hwrs : wd.heap.size ≤ wr.heap.size := HB.out.size
      have HFA : Hid ((wr.alloc (.cells #[.string r.f.name, .slice r.a r.f.b.length r.c, .int .i64 r.f.d] 120)).heap[wr.heap.size]? = some (.cells #[.string r.f.name, .slice r.a r.f.b.length r.c, .int .i64 r.f.d] 120 (0, 0))) := heap_alloc_new wr _
      have HBA : Hid (Below wd.heap.size wd (wr.alloc (.cells #[.string r.f.name, .slice r.a r.f.b.length r.c, .int .i64 r.f.d] 120))) := HB.out.alloc hwrs _
      have HOA : Hid (Row (wr.alloc (.cells #[.string r.f.name, .slice r.a r.f.b.length r.c, .int .i64 r.f.d] 120)) 120 3 u5 m ((crashR (R.take m) ks).flatMap rcells) (fun k => wd.heap.size ≤ k ∧ k ≠ wr.heap.size)) :=
        (HO.out.tight.frame (fun k _ hk => Below.heap_alloc _ _ _ hk)).mono (fun k hk => ⟨hk.1, by omega⟩)
      have HKA : Hid (Reads (wr.alloc (.cells #[.string r.f.name, .slice r.a r.f.b.length r.c, .int .i64 r.f.d] 120)) (.slice ka ks.length kc) ks.length 1 (ks.map (Value.int .i64))) := HK.out.later (HBL.out.alloc (by have := HBL.out.size; omega) _)
      generalize wr.alloc (.cells #[.string r.f.name, .slice r.a r.f.b.length r.c, .int .i64 r.f.d] 120) = wa at *
      clear hx0 hx1 hc0 hc1 hc2 hx1a hca0 hca1 hca2
      obtain ⟨hy0, hy1, hy2⟩ := cells3 HFA.out
      by_cases hkm : m < ks.length
      · obtain ⟨kb, ko, c', hv, hkc, -, hcn⟩ := HKA.out.at (by omega)
        cases hv
        have hk0 : wa.cell? ⟨kb, ko + m, none⟩ = some (.int .i64 ks[m]) := hcn m _ (by rw [List.getElem?_map, List.getElem?_eq_getElem hkm]; rfl)
        clear hcn
        go_upto_region 8 with fail
        go_quiet (fail)
        obtain ⟨q, hq⟩ : ∃ q, q = cutN r.f ks[m]? := ⟨_, rfl⟩
        have hz : min (max ks[m] 0) ((r.f.b.length : Int) - r.f.d) = (q : Int) := by
          rw [hq, List.getElem?_eq_getElem hkm]; unfold cutN; simp only; omega
        rw [hz]
        have hqle : r.f.d + q ≤ r.f.b.length := by
          rw [hq]; unfold cutN; split <;> omega
        obtain ⟨rr, hrr⟩ : ∃ rr, rr = r.f.d + q := ⟨_, rfl⟩
        have hwr : IntKind.i64.wrap ((r.f.d : Int) + (q : Int)) = (rr : Int) := by rw [IntWalk.i64_in _ (by omega), hrr]; omega
        have hrc : (rr : Int) ≤ (r.c : Int) := by omega
        have HCUT : Hid (r.f.d + cutN r.f ks[m]? = rr) := by rw [Hid, ← hq, hrr]
        clear hrr hqle hz hq
        have HFQ : Hid ((wa.drewN nq).heap[wr.heap.size]? = some (.cells #[.string r.f.name, .slice r.a r.f.b.length r.c, .int .i64 r.f.d] 120 (0, 0))) := HFA.out
        have HBQ : Hid (Below wd.heap.size wd (wa.drewN nq)) := ⟨HBA.out.os, HBA.out.tape, HBA.out.output, HBA.out.size, HBA.out.block⟩
        have HOQ : Hid (Row (wa.drewN nq) 120 3 u5 m ((crashR (R.take m) ks).flatMap rcells) (fun k => wd.heap.size ≤ k ∧ k ≠ wr.heap.size)) := HOA.out.frame (fun _ _ _ => rfl)
        clear hy0 hy1 hy2 hk0 HFA HBA HOA HKA
        generalize wa.drewN nq = wq at *
        obtain ⟨hy0, hy1, hy2⟩ := cells3 HFQ.out
        have hf1 := freeAt HFQ.out 1
        have hf2 := freeAt HFQ.out 2
        go_upto_region 11 with fail
        have HSB := Lib.hid (heap_store (heap_store HFQ.out 1 (.slice r.a rr r.c)) 2 (.int .i64 rr))
        have HBS : Hid (Below wd.heap.size wd ((wq.setCell ⟨wr.heap.size, 1, none⟩ (.slice r.a rr r.c)).setCell ⟨wr.heap.size, 2, none⟩ (.int .i64 rr))) := (HBQ.out.setCell (p := ⟨wr.heap.size, 1, none⟩) hwrs _).setCell (p := ⟨wr.heap.size, 2, none⟩) hwrs _
        have HOS : Hid (Row ((wq.setCell ⟨wr.heap.size, 1, none⟩ (.slice r.a rr r.c)).setCell ⟨wr.heap.size, 2, none⟩ (.int .i64 rr)) 120 3 u5 m ((crashR (R.take m) ks).flatMap rcells) (fun k => wd.heap.size ≤ k ∧ k ≠ wr.heap.size)) :=
          HOQ.out.frame (fun k hk _ => (Below.heap_setCell _ _ _ _ hk.2).trans (Below.heap_setCell _ _ _ _ hk.2))
        generalize ((wq.setCell ⟨wr.heap.size, 1, none⟩ (.slice r.a rr r.c)).setCell ⟨wr.heap.size, 2, none⟩ (.int .i64 rr)) = ws at *
        clear hy0 hy1 hy2 hf1 hf2 HFQ HBQ HOQ
        obtain ⟨hy0, hy1, hy2⟩ := cells3 HSB.out
        have HCE : Hid (rcells (cutRF r ks[m]?) = [.string r.f.name, .slice r.a rr r.c, .int .i64 rr]) := by
          have hlen : (r.f.b.take (r.f.d + cutN r.f ks[m]?)).length = r.f.d + cutN r.f ks[m]? := by have := cutN_le r.f HOK.out.2.1 ks[m]?; rw [List.length_take]; omega
          simp only [Hid, rcells, cutRF]
          rw [hlen, HCUT.out]
        have HFM : Hid ((crashR (R.take (m + 1)) ks).flatMap rcells = (crashR (R.take m) ks).flatMap rcells ++ [.string r.f.name, .slice r.a rr r.c, .int .i64 rr]) := by
          rw [Hid, HS.out, List.flatMap_append, List.flatMap_singleton, HCE.out]
        clear HCE HS HCUT
        generalize crashR (R.take m) ks = CR at *
        go_wp2_with (refine wpList_row elemR rfl rfl (S := fun k => wd.heap.size ≤ k ∧ k ≠ wr.heap.size) (n := m) (xs := CR.flatMap rcells) rfl (HOS.out.frame (fun k _ hk => Below.heap_alloc _ _ _ hk)) (y := .slice (some ⟨ws.heap.size, 0, none⟩) 1 1) (m := 1) (news := [.string r.f.name, .slice r.a rr r.c, .int .i64 rr]) rfl (Reads.single (heap_alloc_new ws _)) (by intro u hu; simp only [List.mem_cons, List.not_mem_nil, or_false] at hu; rcases hu with rfl | rfl | rfl <;> rfl) (by unfold maxLen; omega) (by omega) ?_; intro v5 w5 hr5 hch5)
        go_roundw
        case rel =>
          have hbs := HBS.out.size
          refine ⟨m + 1, by omega, by go_num, ?_, (HBS.out.alloc hbs _).trans (hch5.toBelow (by simp <;> omega) (fun n hn h => by omega))⟩
          rw [Hid, HFM.out]
          exact hr5.mono (fun k hk => by rcases hk with hk | hk; exact hk.1; simp only [World.size_alloc] at hk; omega)
        case measure => simp [RowKit.intOf]; omega
      · have HCUT : Hid (r.f.d + cutN r.f ks[m]? = r.f.d) := by rw [Hid, List.getElem?_eq_none (by omega)]; rfl
        have hwr0 : IntKind.i64.wrap (r.f.d : Int) = (r.f.d : Int) := IntWalk.i64_in _ (by omega)
        have hrc : (r.f.d : Int) ≤ (r.c : Int) := by omega
        have HFQ : Hid (wa.heap[wr.heap.size]? = some (.cells #[.string r.f.name, .slice r.a r.f.b.length r.c, .int .i64 r.f.d] 120 (0, 0))) := HFA.out
        have HBQ : Hid (Below wd.heap.size wd wa) := HBA.out
        have HOQ : Hid (Row wa 120 3 u5 m ((crashR (R.take m) ks).flatMap rcells) (fun k => wd.heap.size ≤ k ∧ k ≠ wr.heap.size)) := HOA.out
        clear hy0 hy1 hy2 HFA HBA HOA HKA
        generalize wa = wq at *
        obtain ⟨hy0, hy1, hy2⟩ := cells3 HFQ.out
        have hf1 := freeAt HFQ.out 1
        have hf2 := freeAt HFQ.out 2
        go_upto_region 11 with fail
        have HSB := Lib.hid (heap_store (heap_store HFQ.out 1 (.slice r.a r.f.d r.c)) 2 (.int .i64 r.f.d))
        have HBS : Hid (Below wd.heap.size wd ((wq.setCell ⟨wr.heap.size, 1, none⟩ (.slice r.a r.f.d r.c)).setCell ⟨wr.heap.size, 2, none⟩ (.int .i64 r.f.d))) := (HBQ.out.setCell (p := ⟨wr.heap.size, 1, none⟩) hwrs _).setCell (p := ⟨wr.heap.size, 2, none⟩) hwrs _
        have HOS : Hid (Row ((wq.setCell ⟨wr.heap.size, 1, none⟩ (.slice r.a r.f.d r.c)).setCell ⟨wr.heap.size, 2, none⟩ (.int .i64 r.f.d)) 120 3 u5 m ((crashR (R.take m) ks).flatMap rcells) (fun k => wd.heap.size ≤ k ∧ k ≠ wr.heap.size)) :=
          HOQ.out.frame (fun k hk _ => (Below.heap_setCell _ _ _ _ hk.2).trans (Below.heap_setCell _ _ _ _ hk.2))
        generalize ((wq.setCell ⟨wr.heap.size, 1, none⟩ (.slice r.a r.f.d r.c)).setCell ⟨wr.heap.size, 2, none⟩ (.int .i64 r.f.d)) = ws at *
        clear hy0 hy1 hy2 hf1 hf2 HFQ HBQ HOQ
        obtain ⟨hy0, hy1, hy2⟩ := cells3 HSB.out
        have HCE : Hid (rcells (cutRF r ks[m]?) = [.string r.f.name, .slice r.a r.f.d r.c, .int .i64 r.f.d]) := by
          have hlen : (r.f.b.take (r.f.d + cutN r.f ks[m]?)).length = r.f.d + cutN r.f ks[m]? := by have := cutN_le r.f HOK.out.2.1 ks[m]?; rw [List.length_take]; omega
          simp only [Hid, rcells, cutRF]
          rw [hlen, HCUT.out]
        have HFM : Hid ((crashR (R.take (m + 1)) ks).flatMap rcells = (crashR (R.take m) ks).flatMap rcells ++ [.string r.f.name, .slice r.a r.f.d r.c, .int .i64 r.f.d]) := by
          rw [Hid, HS.out, List.flatMap_append, List.flatMap_singleton, HCE.out]
        clear HCE HS HCUT
        generalize crashR (R.take m) ks = CR at *
        go_wp2_with (refine wpList_row elemR rfl rfl (S := fun k => wd.heap.size ≤ k ∧ k ≠ wr.heap.size) (n := m) (xs := CR.flatMap rcells) rfl (HOS.out.frame (fun k _ hk => Below.heap_alloc _ _ _ hk)) (y := .slice (some ⟨ws.heap.size, 0, none⟩) 1 1) (m := 1) (news := [.string r.f.name, .slice r.a r.f.d r.c, .int .i64 r.f.d]) rfl (Reads.single (heap_alloc_new ws _)) (by intro u hu; simp only [List.mem_cons, List.not_mem_nil, or_false] at hu; rcases hu with rfl | rfl | rfl <;> rfl) (by unfold maxLen; omega) (by omega) ?_; intro v5 w5 hr5 hch5)
        go_roundw
        case rel =>
          have hbs := HBS.out.size
          refine ⟨m + 1, by omega, by go_num, ?_, (HBS.out.alloc hbs _).trans (hch5.toBelow (by simp <;> omega) (fun n hn h => by omega))⟩
          rw [Hid, HFM.out]
          exact hr5.mono (fun k hk => by rcases hk with hk | hk; exact hk.1; simp only [World.size_alloc] at hk; omega)
        case measure => simp [RowKit.intOf]; omega
    · obtain rfl : m = R.length := by omega
      rw [List.take_length] at HO
      have HRX2 := Lib.hid ((HB.out.block _ (lt_of_heap HRX.out)).trans HRX.out)
      obtain ⟨hr0, hr1, hr2, hr3⟩ := cells4 HRX2.out
      have hf0 := freeAt HRX2.out 0
      have hf1 := freeAt HRX2.out 1
      have hf2 := freeAt HRX2.out 2
      have hf3 := freeAt HRX2.out 3
      obtain ⟨oa, oc, rfl⟩ := slice_form HO.out
      go_wp2
      try simp only [Exit.inBlock, Exit.then]
      have HRF := heap_store (heap_store (heap_store (heap_store HRX2.out 0 (.int .i64 room)) 1 (.slice oa R.length oc)) 2 (.int .i64 0)) 3 (.bool false)
      have hbel := (((HBL.out.setCell (p := ⟨w.heap.size + 1, 0, none⟩) (by show w.heap.size ≤ w.heap.size + 1; omega) (.int .i64 room)).setCell (p := ⟨w.heap.size + 1, 1, none⟩) (by show w.heap.size ≤ w.heap.size + 1; omega) (.slice oa R.length oc)).setCell (p := ⟨w.heap.size + 1, 2, none⟩) (by show w.heap.size ≤ w.heap.size + 1; omega) (.int .i64 0)).setCell (p := ⟨w.heap.size + 1, 3, none⟩) (by show w.heap.size ≤ w.heap.size + 1; omega) (.bool false)
      have hsz := HSZ.out
      have hrow := (((HO.out.store (p := ⟨w.heap.size + 1, 0, none⟩) (by show w.heap.size + 1 < wd.heap.size; omega) (.int .i64 room)).store (p := ⟨w.heap.size + 1, 1, none⟩) (by show w.heap.size + 1 < wd.heap.size; omega) (.slice oa R.length oc)).store (p := ⟨w.heap.size + 1, 2, none⟩) (by show w.heap.size + 1 < wd.heap.size; omega) (.int .i64 0)).store (p := ⟨w.heap.size + 1, 3, none⟩) (by show w.heap.size + 1 < wd.heap.size; omega) (.bool false)
      refine bodyPost_ret (results_cell_row (P := Tryz.prog) rfl _ _ (w.heap.size + 1) 32 #[.int .i64 room, .slice oa R.length oc, .int .i64 0, .bool false] (0, 0) _ rfl HRF Tryz.underlying32 rfl rfl) rfl ?_
      refine ⟨_, rfl, ⟨?_, fun r hr => ?_⟩, hbel⟩
      · rw [crashR_length]
        exact hrow.mono (fun k hk => .inr (by omega))
      · obtain ⟨j, hj, rfl⟩ := List.mem_iff_getElem.1 hr
        have hj' : j < R.length := by rwa [crashR_length] at hj
        simp only [crashR, List.getElem_mapIdx]
        have h0 := (H.out.below hbel).byt R[j] (List.getElem_mem hj')
        have h1 : okR _ (fun k => T k ∨ w.heap.size ≤ k) R[j] := ⟨h0.1.mono (fun k hk => .inl hk), h0.2⟩
        exact cutRF_ok h1 _
end Go.Proofs.YtgdmdbdljmlkkaaGreatDoor
namespace Go.Proofs.YtgdmdbdljmlkkaaGreatDoor
set_option linter.unusedVariables false
set_option linter.unusedSimpArgs false
open Go.RowKit

def outF (l : List DF) (n : ByteArray) : List DF := l.filter fun f => decide (f.name ≠ n)
def insF : List DF → DF → List DF
  | [], r => [r]
  | a :: l, r => if a.name.toList < r.name.toList then a :: insF l r else r :: a :: l
def putF (l : List DF) (f : DF) : List DF := insF (outF l f.name) f
theorem outR_f (R : List RF) (n : ByteArray) : (outR R n).map RF.f = outF (R.map RF.f) n := by
  unfold outR outF
  rw [List.filter_map]; rfl
theorem insR_f (R : List RF) (r : RF) : (insR R r).map RF.f = insF (R.map RF.f) r.f := by
  induction R with
  | nil => rfl
  | cons a l ih =>
    rw [insR, List.map_cons, insF]
    split
    · rw [List.map_cons, ih]
    · rfl
theorem putR_f (R : List RF) (r : RF) : (putR R r).map RF.f = putF (R.map RF.f) r.f := by
  unfold putR putF; rw [insR_f, outR_f]
theorem sumR_f (R : List RF) : sumR R = sumD (R.map RF.f) := by
  unfold sumR sumD; rw [List.map_map]; rfl

/-- What a change begins with. -/
def stepF (D : DS) : DS := { D with plan := max (D.plan - 1) 0 }
def doF (k : Nat) (D : DS) (name tgt : ByteArray) (b : List UInt8) : DS × Int :=
  if D.down then (D, 10)
  else if D.plan = 1 then ({ D with plan := 0, down := true }, 10)
  else if namedB name = false ∨ (k = 4 ∧ namedB tgt = false) ∨ (k ≠ 1 ∧ findD D.files name = none) then (stepF D, 6)
  else if k = 1 then (if (findD D.files name).isSome then (stepF D, 7) else ({ stepF D with files := putF D.files ⟨name, [], 0⟩ }, 0))
  else match findD D.files name with
  | none => (stepF D, 6)
  | some f =>
    if k = 2 then (if D.room < sumD D.files + b.length then (stepF D, 5) else ({ stepF D with files := putF D.files ⟨f.name, f.b ++ b, f.d⟩ }, 0))
    else if k = 3 then ({ stepF D with files := putF D.files ⟨f.name, f.b, f.b.length⟩ }, 0)
    else if k = 4 then ({ stepF D with files := putF (outF D.files name) ⟨tgt, f.b, f.d⟩ }, 0)
    else ({ stepF D with files := outF D.files name }, 0)

def RPost (w : World) (T : Nat → Prop) (r : DS × Int) : Ending → World → Prop := fun e w' =>
  ∃ v' R', e = .returned (.tuple #[rdisk r.1.room v' r.1.plan r.1.down, .int .i64 r.2]) ∧ R'.map RF.f = r.1.files ∧ RLi w' v' R' (fun k => T k ∨ w.heap.size ≤ k) ∧ Below w.heap.size w w'

theorem results_row_tmp1 {P : Program} {fn : Func} {p u : Tmp} {ty : TypeId} (h : fn.results = #[.cell p ty, .tmp u]) (tmps : Array Value) (w : World) (g : Nat) (t : TypeId) (cs : Array Value) (fr : Nat × Nat) (d : TypeDesc)
    (hp : tmps.getD p undef = .pointer (some ⟨g, 0, none⟩)) (hg : w.heap[g]? = some (.cells cs t fr))
    (hu : P.underlying ty = some d) (hd : (match d with | .struct _ | .array _ _ => true | _ => false) = true) (hi : (P.info? ty).map (·.size) = some cs.size) :
    (results fn tmps).run P w = .ok (.tuple #[.agg cs, tmps.getD u undef]) w := by
  rw [results_cell_tmp h, hp]
  simp [asAddr, run_loadVar_row w g t ty cs fr d hg hu hd hi, Result.andThen]

theorem RLi.store {w : World} {v : Value} {R : List RF} {T : Nat → Prop} (h : RLi w v R T) {p : Addr} (hp : ¬ T p.block) (u : Value) : RLi (w.setCell p u) v R T :=
  h.frame (fun k hk _ => Below.heap_setCell _ _ _ _ (fun e => hp (e ▸ hk)))
theorem RLi.tight {w : World} {v : Value} {R : List RF} {T : Nat → Prop} (h : RLi w v R T) : RLi w v R (fun k => T k ∧ k < w.heap.size) :=
  ⟨h.row.tight, fun r hr => ⟨(h.byt r hr).1.tight, (h.byt r hr).2⟩⟩

/-- The blocks of the reference's lists while Do runs: three of Do's own are not among them. -/
abbrev inDo (w : World) (T : Nat → Prop) : Nat → Prop := fun k => (T k ∧ k < w.heap.size) ∨ w.heap.size + 3 ≤ k

set_option maxRecDepth 100000 in
theorem rdo_end {w wz : World} {T : Nat → Prop} {room plan : Int} {down : Bool} {v : Value} {R : List RF} {r : DS × Int} {x0 x1 x2 x3 : Value} (code : Int) (hz : wz.heap[w.heap.size + 1 + 1]? = some (.cells #[x0, x1, x2, x3] 32 (0, 0)))
    (hb : Below w.heap.size w wz) (hr : RLi wz v R (inDo w T)) (he : r = (⟨room, R.map RF.f, plan, down⟩, code)) {tmps : Array Value} (h4 : tmps.getD 4 undef = .pointer (some ⟨w.heap.size + 1 + 1, 0, none⟩)) (h5 : tmps.getD 5 undef = .int .i64 code) :
    bodyPost Tryz.prog Tryz.f64 (RPost w T r) Exit.ret { tmps := tmps, defers := [] } ((((wz.setCell ⟨w.heap.size + 1 + 1, 0, none⟩ (.int .i64 room)).setCell ⟨w.heap.size + 1 + 1, 1, none⟩ v).setCell ⟨w.heap.size + 1 + 1, 2, none⟩ (.int .i64 plan)).setCell ⟨w.heap.size + 1 + 1, 3, none⟩ (.bool down)) := by
  have HRF := heap_store (heap_store (heap_store (heap_store hz 0 (.int .i64 room)) 1 v) 2 (.int .i64 plan)) 3 (.bool down)
  refine bodyPost_ret (results_row_tmp1 (P := Tryz.prog) Tryz.results64 _ _ (w.heap.size + 1 + 1) 32 #[.int .i64 room, v, .int .i64 plan, .bool down] (0, 0) _ h4 HRF Tryz.underlying32 rfl rfl) rfl ?_
  rw [h5, he]
  have hno : ¬ inDo w T (w.heap.size + 1 + 1) := by rintro (h | h) <;> omega
  have hle : w.heap.size ≤ w.heap.size + 1 + 1 := by omega
  refine ⟨v, R, rfl, rfl, ?_, (((hb.setCell (p := ⟨w.heap.size + 1 + 1, 0, none⟩) hle _).setCell (p := ⟨w.heap.size + 1 + 1, 1, none⟩) hle _).setCell (p := ⟨w.heap.size + 1 + 1, 2, none⟩) hle _).setCell (p := ⟨w.heap.size + 1 + 1, 3, none⟩) hle _⟩
  exact ((((hr.store (p := ⟨w.heap.size + 1 + 1, 0, none⟩) hno _).store (p := ⟨w.heap.size + 1 + 1, 1, none⟩) hno _).store (p := ⟨w.heap.size + 1 + 1, 2, none⟩) hno _).store (p := ⟨w.heap.size + 1 + 1, 3, none⟩) hno _).mono (fun k hk => by rcases hk with h | h; exact .inl h.1; exact .inr (by omega))
theorem heap3 (w : World) (x y z : Obj) : ((((w.alloc x).alloc y).alloc z).heap[w.heap.size]? = (w.alloc x).heap[w.heap.size]?) ∧ ((((w.alloc x).alloc y).alloc z).heap[w.heap.size + 1]? = ((w.alloc x).alloc y).heap[(w.alloc x).heap.size]?) ∧ ((((w.alloc x).alloc y).alloc z).heap[w.heap.size + 1 + 1]? = (((w.alloc x).alloc y).alloc z).heap[((w.alloc x).alloc y).heap.size]?) := by
  refine ⟨?_, ?_, ?_⟩
  · rw [Below.heap_alloc _ _ _ (by simp; omega), Below.heap_alloc _ _ _ (by simp)]
  · rw [Below.heap_alloc _ _ _ (by simp), World.size_alloc]
  · simp only [World.size_alloc]
theorem below3 (w : World) (x y z : Obj) : Below w.heap.size w (((w.alloc x).alloc y).alloc z) ∧ (((w.alloc x).alloc y).alloc z).heap.size = w.heap.size + 3 :=
  ⟨(((Below.refl _ _).alloc (Nat.le_refl _) _).alloc (by simp) _).alloc (by simp; omega) _, by simp⟩
end Go.Proofs.YtgdmdbdljmlkkaaGreatDoor
