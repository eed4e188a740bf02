/- The law's opened of layer 9: a log has the state of the reference.
What the program's Open leaves, a log or none, against the reference's; bounds of a disk that was opened. -/
import Derived.Test.YtgdmdbdljmlkkaaGreatDoorScR2
import Derived.Test.YtgdmdbdljmlkkaaGreatDoorScan7
import Derived.Test.YtgdmdbdljmlkkaaGreatDoorROpenE
namespace Go.Proofs.YtgdmdbdljmlkkaaGreatDoor
set_option linter.unusedVariables false
set_option linter.unusedSimpArgs false
open Go.RowKit

set_option maxRecDepth 100000 in
set_option maxHeartbeats 1000000 in
theorem opened_bad (c : Int) (hc : c ≠ 0) (v : Value) (M : LS) (w : World) :
    Calls Tryz.prog 29 #[.pointer none, .int .i64 c, rlog v M, .int .i64 c] w fun e w' => e = .returned (.bool true) ∧ Below w.heap.size w w' := by
  unfold rlog
  have HBW : Hid (Below w.heap.size w (w.alloc (.cells (lcells v M) 34))) := (Below.refl _ _).alloc (Nat.le_refl _) _
  unfold lcells at HBW
  have hcn : (c != 0) = true := by simpa using hc
  go_enter Tryz.func29, Tryz.ntmps29
  go_upto_region 3 with fail
  generalize w.alloc (.cells #[.int .i64 M.D.room, v, .int .i64 M.D.plan, .bool M.D.down, .int .i64 M.most, .int .i64 M.n, .int .i64 M.size, .int .i64 M.waiting] 34) = wa at *
  go_quiet (fail)
  go_wp2
  go_ret
  exact ⟨rfl, ⟨HBW.out.os, HBW.out.tape, HBW.out.output, HBW.out.size, HBW.out.block⟩⟩

set_option maxRecDepth 100000 in
set_option maxHeartbeats 1000000 in
theorem opened_good (L M : LS) (bl : Nat) (d : Value) (S : Nat → Prop) (v : Value) (w : World) (h : LAt w bl d L S) (hn : L.n = M.n) (hs : L.size = M.size) (hw : L.waiting = 0) (c : Int) (hc : c = 0) :
    Calls Tryz.prog 29 #[.pointer (some ⟨bl, 0, none⟩), .int .i64 c, rlog v M, .int .i64 c] w fun e w' => e = .returned (.bool true) ∧ Below w.heap.size w w' := by
  unfold rlog
  have hbw : Below w.heap.size w (w.alloc (.cells (lcells v M) 34)) := (Below.refl _ _).alloc (Nat.le_refl _) _
  have HBW := Lib.hid hbw
  have HLA := Lib.hid (h.later hbw)
  have HY : Hid ((w.alloc (.cells (lcells v M) 34)).heap[w.heap.size]? = some (.cells (lcells v M) 34 (0, 0))) := heap_alloc_new _ _
  unfold lcells at HBW HLA HY
  have hcn : (c != 0) = false := by rw [hc]; rfl
  have hce : (c == 0) = true := by rw [hc]; rfl
  clear hbw h hc
  go_enter Tryz.func29, Tryz.ntmps29
  go_upto_region 3 with fail
  generalize w.alloc (.cells #[.int .i64 M.D.room, v, .int .i64 M.D.plan, .bool M.D.down, .int .i64 M.most, .int .i64 M.n, .int .i64 M.size, .int .i64 M.waiting] 34) = wa at *
  have HSG : Hid (∀ w', Hid (Below wa.heap.size wa w') → Calls Tryz.prog 35 #[.pointer (some ⟨bl, 0, none⟩)] w' fun e w'' => e = .returned (.int .i64 M.n) ∧ w'' = w') := fun w' hb => by
    have := lsegment_any L bl d S w' (HLA.out.later hb.out)
    rwa [hn] at this
  have HSI : Hid (∀ w', Hid (Below wa.heap.size wa w') → Calls Tryz.prog 36 #[.pointer (some ⟨bl, 0, none⟩)] w' fun e w'' => e = .returned (.int .i64 M.size) ∧ w'' = w') := fun w' hb => by
    have := lsize_any L bl d S w' (HLA.out.later hb.out)
    rwa [hs] at this
  have HWA : Hid (∀ w', Hid (Below wa.heap.size wa w') → Calls Tryz.prog 53 #[.pointer (some ⟨bl, 0, none⟩)] w' fun e w'' => e = .returned (.int .i64 0) ∧ w'' = w') := fun w' hb => by
    have := lwaiting_any L bl d S w' (HLA.out.later hb.out)
    rwa [hw] at this
  have HK : Hid (∀ w', Hid (Below wa.heap.size wa w') → w'.cell? ⟨w.heap.size, 5, none⟩ = some (.int .i64 M.n) ∧ w'.cell? ⟨w.heap.size, 6, none⟩ = some (.int .i64 M.size)) := fun w' hb => by
    have hy := (hb.out.block _ (lt_of_heap HY.out)).trans HY.out
    exact ⟨cellAt hy 5 rfl, cellAt hy 6 rfl⟩
  have HQ : Hid (∀ n, Hid (Below wa.heap.size wa (wa.drewN n))) := fun n => ⟨rfl, rfl, rfl, Nat.le_refl _, fun _ _ => rfl⟩
  obtain ⟨k5, k6⟩ := HK.out wa (Below.refl _ _)
  clear HLA HY hn hs hw HK
  go_quiet (first
    | (go_at_call 35; exact Calls.quiet_of_same (HSG.out _ (HQ.out _)))
    | (go_at_call 36; exact Calls.quiet_of_same (HSI.out _ (HQ.out _)))
    | (go_at_call 53; exact Calls.quiet_of_same (HWA.out _ (HQ.out _))))
  go_wp2
  go_ret
  exact ⟨rfl, ⟨HBW.out.os, HBW.out.tape, HBW.out.output, HBW.out.size, HBW.out.block⟩⟩
end Go.Proofs.YtgdmdbdljmlkkaaGreatDoor
namespace Go.Proofs.YtgdmdbdljmlkkaaGreatDoor
set_option linter.unusedVariables false
set_option linter.unusedSimpArgs false
open Go.RowKit

theorem open_code {D : DS} (h : (openS doP D).2 = 0) : (findS D).code = 0 := by
  unfold openS openG at h
  by_cases hc : (findS D).code = 0
  · exact hc
  · rw [if_pos hc] at h; exact h

/-- What Open gives, on the program's side and on the reference's: the log, the records. -/
theorem rlog_of_ok {D' : DS} {f : FR} {most : Int} (hc : f.code = 0) (h0 : 0 ≤ f.last) (hfr : f.last = 0 → f.front = []) : (rlogOf D' f most 0).n = max f.last 1 ∧ (rlogOf D' f most 0).size = f.front.length ∧ (rlogOf D' f most 0).D = D' := by
  unfold rlogOf
  rw [if_neg (by simpa using hc)]
  by_cases hl : f.last = 0
  · rw [if_pos hl, hfr hl, hl]; exact ⟨show (1 : Int) = max 0 1 by decide, rfl, rfl⟩
  · rw [if_neg hl, if_neg (by simp)]; exact ⟨by show f.last = _; omega, rfl, rfl⟩
theorem rlogOf_D (D' : DS) (f : FR) (most e : Int) : (rlogOf D' f most e).D = D' := by
  unfold rlogOf; split; rfl; split; rfl; split <;> rfl
theorem rrecs_of_ok {f : FR} (hc : f.code = 0) (hr : f.last = 0 → f.recs = []) : rrecsOf f 0 = f.recs := by
  unfold rrecsOf
  rw [if_neg (by simpa using hc)]
  by_cases hl : f.last = 0
  · rw [if_pos hl, hr hl]
  · rw [if_neg hl, if_neg (by simp)]
theorem rrecs_bad {f : FR} {e : Int} (he : e ≠ 0) : rrecsOf f e = [] := by unfold rrecsOf; split; rfl; split; rfl; rfl
theorem find_zero {D : DS} (h : (findS D).last = 0) : (findS D).front = [] ∧ (findS D).recs = [] := by
  unfold findS at h ⊢
  split at h
  · rename_i hd; rw [if_pos hd]; exact ⟨rfl, rfl⟩
  · rename_i hd; rw [if_neg hd]
    unfold findG at h ⊢
    split at h
    · rename_i hL; rw [if_pos hL]; exact ⟨rfl, rfl⟩
    · rename_i hL; rw [if_neg hL]
      split at h
      · have := mem_segs (lastN_mem hL); have h' : lastN (segsD D) = 0 := h; omega
      · rename_i hk; rw [if_neg hk]; exact ⟨rfl, rfl⟩

theorem bnd_open {D : DS} {s n : Nat} (h : Bnd D s n) : Bnd (openS doP D).1 (s + s) (n + 5) := by
  have hf := (findS_small h).1
  unfold openS openG
  split
  · exact h.more (by omega) (by omega)
  · have h1 := bnd_wipe [cutNm, newNm] h
    refine bnd_seqG (h1.more (by omega) (by omega)) ?_
    unfold endG
    have hnm : (nameI (max (findS D).last 1)).size ≤ 300 := by have := nameI_size (max (findS D).last 1); omega
    have hnm2 : (nameI (findS D).last).size ≤ 300 := by have := nameI_size (findS D).last; omega
    split
    · have h2 : Bnd (createD (wipeG doP D [cutNm, newNm]).1 (nameI (max (findS D).last 1))).1 (s + s) (n + 5) := (bnd_create h1 _ hnm).more (by omega) (by omega)
      exact h2
    · have h2 : Bnd (repairG doP (findS D) (wipeG doP D [cutNm, newNm]).1).1 (s + (findS D).front.length) (n + 4) := bnd_repair (nameI (findS D).last) hnm2 (findS D) h1
      have h3 : Bnd (trimG doP (findS D) (repairG doP (findS D) (wipeG doP D [cutNm, newNm]).1).1).1 (s + (findS D).front.length) (n + 4) := bnd_wipe _ h2
      have h4 : Bnd (syncD (trimG doP (findS D) (repairG doP (findS D) (wipeG doP D [cutNm, newNm]).1).1).1 (nameI (max (findS D).last 1))).1 (s + (findS D).front.length) (n + 4) := bnd_sync h3 _
      exact bnd_seqG (h2.more (by omega) (by omega)) (bnd_seqG (h3.more (by omega) (by omega)) (h4.more (by omega) (by omega)))
/-- What Open of the program leaves, a log or none. -/
def OpenB (w : World) (x : Value) (S : Nat → Prop) (most : Int) (f : FR) (r : DS × Int) (e : Ending) (w' : World) : Prop :=
  ∃ (SS : Nat → Prop) (lp : Option Addr) (va : Option Addr) (ca : Nat) (X : List SL), e = .returned (.tuple #[.pointer lp, .slice va X.length ca, .int .i64 r.2]) ∧ DRep w' x r.1 SS ∧ (∀ k, SS k → (S k ∨ w.heap.size ≤ k) ∧ k < w'.heap.size) ∧ Chg S w w' ∧
    SLs w' (.slice va X.length ca) X ∧ X.map SL.l = rrecsOf f r.2 ∧
    (∀ (w'' : World) (v : Value) (D' : DS), Below w'.heap.size w' w'' → Calls Tryz.prog 29 #[.pointer lp, .int .i64 r.2, rlog v (rlogOf D' f most r.2), .int .i64 r.2] w'' fun e w3 => e = .returned (.bool true) ∧ Below w''.heap.size w'' w3)
theorem openB_of {w w' : World} {x : Value} {S : Nat → Prop} {most : Int} {D : DS} {e : Ending} (h : OpenP w x S most (findS D) (openS doP D) e w') : OpenB w x S most (findS D) (openS doP D) e w' := by
  obtain ⟨SS, ⟨hd, hss, hc⟩, ⟨h0, rfl⟩ | ⟨h0, bl, ra, rc, X, rfl, hblk, hbl, hns, hrow, hrx, hre⟩⟩ := h
  · refine ⟨SS, none, none, 0, [], rfl, hd, hss, hc, ⟨Reads.nil _ _, by simp⟩, by rw [rrecs_bad h0]; rfl, fun w'' v D' hb => ?_⟩
    exact opened_bad _ h0 v _ w''
  · have hcode := open_code h0
    have hz := fun h => find_zero (D := D) h
    have hl := (findS_last D).1
    obtain ⟨e1, e2, e3⟩ := rlog_of_ok (D' := (openS doP D).1) (most := most) hcode hl (fun h => (hz h).1)
    refine ⟨SS, some ⟨bl, 0, none⟩, ra, rc, X.map slOf, by rw [List.length_map, h0], hd, hss, hc, ?_, ?_, fun w'' v D' hb => ?_⟩
    · rw [List.length_map]; exact sls_rx (B := w.heap.size) hrow (fun x hx => (hrx x hx).mono (fun k hk => hk.1))
    · rw [h0, rrecs_of_ok hcode (fun h => (hz h).2), ← hre, List.map_map]; rfl
    · obtain ⟨g1, g2, -⟩ := rlog_of_ok (D' := D') (most := most) hcode hl (fun h => (hz h).1)
      refine opened_good ⟨max (findS D).last 1, (findS D).front.length, 0, most, (openS doP D).1⟩ _ bl x (fun k => SS k ∨ k = bl) v w'' (LAt.later ⟨hblk, hd.mono (fun k hk => ⟨.inl hk, fun e => hns (e ▸ hk)⟩), .inr rfl⟩ hb) ?_ ?_ rfl _ h0
      · rw [h0]; exact g1.symm
      · rw [h0]; exact g2.symm

end Go.Proofs.YtgdmdbdljmlkkaaGreatDoor
