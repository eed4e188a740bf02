/- The joined texts of steps. -/
import Derived.Test.YtccnmoicckjfbaaGreatDoorPCheck
namespace Go.Proofs.YtccnmoicckjfbaaGreatDoor
set_option linter.unusedVariables false
set_option linter.unusedSimpArgs false
open Go.RowKit

theorem elemStr : ElemOf Tryz.prog 25 9 (.string ⟨#[]⟩) 1 16 := ⟨Tryz.underlying25, by kernel_rfl, rfl, by decide⟩
theorem strs_one (xs : List ByteArray) : ∀ u ∈ xs.map Value.string, u.oneCell' = true := by
  intro u hu
  obtain ⟨x, _, rfl⟩ := List.mem_map.1 hu
  rfl
def joinB (xs : List ByteArray) (sep : ByteArray) : ByteArray := ⟨(Lib.join (xs.map (·.data.toList)) sep.data.toList).toArray⟩

set_option maxRecDepth 100000 in
set_option maxHeartbeats 2000000 in
theorem joinS_any (tx : ST → ByteArray) (r : RT) (sep : ByteArray) (w : World) (h : Reads w r.v r.l.length 3 (r.l.flatMap stcells)) (hl : 0 < r.l.length ∧ r.l.length ≤ 100000) (hlen : (Lib.join ((r.l.map tx).map (·.data.toList)) sep.data.toList).length ≤ 140737488355328)
    (hg : ∀ x ∈ r.l, ∀ W, Below w.heap.size w W → Calls Tryz.prog 17 #[x.val] W fun e w' => e = .returned (.string (tx x)) ∧ Below W.heap.size W w') :
    Calls Tryz.prog 16 #[r.v, .string sep, .func (.func 17) #[] #[]] w fun e w' => e = .returned (.string (joinB (r.l.map tx) sep)) ∧ Below w.heap.size w w' := by
  obtain ⟨rl, ra, rc⟩ := r
  simp only [RT.v] at *
  have HE := Lib.hid h
  have HG := Lib.hid hg
  have HLEN := Lib.hid hlen
  have HTK : Hid (∀ m (hm : m < rl.length), (rl.take (m + 1)).map tx = (rl.take m).map tx ++ [tx rl[m]]) := fun m hm => by
    rw [List.take_succ_eq_append_getElem hm, List.map_append]; rfl
  clear h hg hlen
  go_enter Tryz.func16, Tryz.ntmps16
  go_wp2_with fail
  go_loopw [7, 12] (fun out i w' => ∃ m : Nat, m ≤ rl.length ∧ i = .int .i64 m ∧ Hid (Row w' 9 1 out m (((rl.take m).map tx).map Value.string) (fun k => w.heap.size ≤ k)) ∧ Hid (Below w.heap.size w w')) (fun _ i _ => rl.length - (RowKit.intOf i).toNat)
  case atStart => exact ⟨0, by omega, rfl, Row.nil _ _ _ _, Below.refl _ _⟩
  case round =>
    obtain ⟨m, hm, rfl, HO, HB⟩ := hrel
    by_cases hlt : m < rl.length
    · obtain ⟨b2, o2, hra, hle2, -, hb2, hcell2⟩ := (HE.out.later HB.out).atN (by omega) (by decide)
      subst hra
      have d0 := hcell2 (m * 3) _ (by simpa using fm_get stcells_len (List.getElem?_eq_getElem hlt) 0 _ rfl)
      have d1 := hcell2 (m * 3 + 1) _ (fm_get stcells_len (List.getElem?_eq_getElem hlt) 1 _ rfl)
      have d2 := hcell2 (m * 3 + 2) _ (fm_get stcells_len (List.getElem?_eq_getElem hlt) 2 _ rfl)
      rw [← Nat.add_assoc] at d1 d2
      have HGX := Lib.hid (HG.out rl[m] (List.getElem_mem hlt))
      have HTM := Lib.hid (HTK.out m hlt)
      clear hcell2
      generalize rl[m] = x at *
      have hsz := HB.out.size
      have HBA : Hid (Below w.heap.size w (wr.alloc (.cells #[.int .i64 x.k, .int .i64 x.n, .string x.s] 37))) := HB.out.alloc hsz _
      have HXA : Hid ((wr.alloc (.cells #[.int .i64 x.k, .int .i64 x.n, .string x.s] 37)).heap[wr.heap.size]? = some (.cells #[.int .i64 x.k, .int .i64 x.n, .string x.s] 37 (0, 0))) := heap_alloc_new _ _
      have HOA : Hid (Row (wr.alloc (.cells #[.int .i64 x.k, .int .i64 x.n, .string x.s] 37)) 9 1 u7 m (((rl.take m).map tx).map Value.string) (fun k => w.heap.size ≤ k)) := HO.out.frame (fun k _ hk => Below.heap_alloc _ _ _ hk)
      go_upto_region 5 with fail
      generalize wr.alloc (.cells #[.int .i64 x.k, .int .i64 x.n, .string x.s] 37) = wa at *
      clear d0 d1 d2
      have y0 := cellAt HXA.out 0 rfl
      have y1 := cellAt HXA.out 1 rfl
      have y2 := cellAt HXA.out 2 rfl
      have HGW := Lib.hid (HGX.out wa HBA.out)
      unfold ST.val at HGW
      go_wp2_with fail
      refine HGW.out.mono ?_
      rintro e w4 ⟨rfl, hb4⟩
      have HB4 := Lib.hid (HBA.out.trans (hb4.mono HBA.out.size))
      have HO4 : Hid (Row w4 9 1 u7 m (((rl.take m).map tx).map Value.string) (fun k => w.heap.size ≤ k)) := HOA.out.frame (fun k _ hk => hb4.block k hk)
      clear hb4 y0 y1 y2 HGW HGX
      generalize tx x = key at *
      have hbl := HB4.out.size
      go_wp2_with (refine wpList_row elemStr rfl rfl (S := fun k => w.heap.size ≤ k) (n := m) (xs := ((rl.take m).map tx).map Value.string) rfl (HO4.out.frame (fun k _ hk => Below.heap_alloc _ _ _ hk)) (y := .slice (some ⟨w4.heap.size, 0, none⟩) 1 1) (m := 1) (news := [.string key]) rfl (reads_one w4 _ _) (one_of rfl) (by unfold maxLen; omega) (by omega) ?_; intro v5 w5 hr5 hch5)
      go_roundw
      case rel =>
        refine ⟨m + 1, by omega, by go_num, ?_, (HB4.out.alloc hbl _).trans (hch5.toBelow (by simp <;> omega) (fun n hn h => by omega))⟩
        rw [Hid, HTM.out, List.map_append]
        exact hr5.mono (fun k hk => by rcases hk with hk | hk; exact hk; simp only [World.size_alloc] at hk; omega)
      case measure => simp [RowKit.intOf]; omega
    · obtain rfl : m = rl.length := by omega
      rw [List.take_length] at HO
      obtain ⟨bk, o, c, he, hcap, hbk, hcell⟩ := HO.out.reads.at (by omega)
      subst he
      generalize hxs : rl.map tx = xs at *
      have hlx : xs.length = rl.length := by rw [← hxs, List.length_map]
      have hj := Lib.hid (Tryz.strings_Join bk o c xs sep wr (fun j x hx => hcell j (.string x) (by rw [List.getElem?_map, hx]; rfl)) hbk (by omega) (by omega) HLEN.out)
      rw [hlx] at hj
      clear hcell
      go_wp2_with fail
      refine hj.out.mono ?_
      rintro e w5 ⟨rfl, hb5⟩
      have HB5 := Lib.hid (HB.out.trans (hb5.mono HB.out.size))
      clear hb5 hj HLEN
      go_wp2
      go_ret
      refine ⟨?_, HB5.out⟩
      show _ = Ending.returned (.string (joinB (List.map tx rl) sep))
      rw [hxs]; rfl
end Go.Proofs.YtccnmoicckjfbaaGreatDoor
