/- The law's Files: a disk with files, and the reference's.
A list of files that came in, opened.
The openers for an array of two numbers. -/
import Derived.Test.YtgdmdbdljmlkkaaGreatDoorScR2
import Derived.Test.YtgdmdbdljmlkkaaGreatDoorScan5
import Derived.Test.YtgdmdbdljmlkkaaGreatDoorOpenLists
namespace Go.Proofs.YtgdmdbdljmlkkaaGreatDoor
set_option linter.unusedVariables false
set_option linter.unusedSimpArgs false
open Go.RowKit

/-- A file that is given. -/
structure FI where
  n : ByteArray
  a : Option Addr
  l : List UInt8
  c : Nat
  d : Int
def ficells (f : FI) : List Value := [.string f.n, .slice f.a f.l.length f.c, .int .i64 f.d]
theorem ficells_len : ∀ f, (ficells f).length = 3 := fun _ => rfl
structure FIs (w : World) (v : Value) (P : List FI) : Prop where
  rd : Reads w v P.length 3 (P.flatMap ficells)
  each : ∀ f ∈ P, Reads w (.slice f.a f.l.length f.c) f.l.length 1 (byts f.l)
  small : ∀ f ∈ P, f.n.size ≤ 9223372036854775807 ∧ f.l.length ≤ 9223372036854775807
theorem FIs.later {w w' : World} {v : Value} {P : List FI} (h : FIs w v P) (hb : Below w.heap.size w w') : FIs w' v P := ⟨h.rd.later hb, fun f hf => (h.each f hf).later hb, h.small⟩
theorem FIs.head {w : World} {a : Option Addr} {c : Nat} {P : List FI} (h : FIs w (.slice a P.length c) P) {j : Nat} (hj : j < P.length) :
    ∃ b o, a = some ⟨b, o, none⟩ ∧ P.length ≤ c ∧ b < w.heap.size ∧ w.cell? ⟨b, o + j * 3, none⟩ = some (.string P[j].n) ∧ w.cell? ⟨b, o + j * 3 + 1, none⟩ = some (.slice P[j].a P[j].l.length P[j].c) ∧
      w.cell? ⟨b, o + j * 3 + 2, none⟩ = some (.int .i64 P[j].d) := by
  obtain ⟨b, o, rfl, h1, -, h2, h3⟩ := h.rd.atN (by omega) (by decide)
  refine ⟨b, o, rfl, h1, h2, ?_, ?_, ?_⟩
  · exact h3 (j * 3) _ (by simpa using fm_get ficells_len (List.getElem?_eq_getElem hj) 0 _ rfl)
  · rw [Nat.add_assoc]; exact h3 (j * 3 + 1) _ (fm_get ficells_len (List.getElem?_eq_getElem hj) 1 _ rfl)
  · rw [Nat.add_assoc]; exact h3 (j * 3 + 2) _ (fm_get ficells_len (List.getElem?_eq_getElem hj) 2 _ rfl)

def fileOps (n : ByteArray) (l : List UInt8) : List OP := [⟨1, n, ⟨#[]⟩, []⟩, ⟨2, n, ⟨#[]⟩, l⟩, ⟨3, n, ⟨#[]⟩, []⟩]
def filesG (O : DoT) (D : DS) (P : List FI) : DS := P.foldl (fun D f => (stepsG O D (fileOps f.n f.l)).1) D
theorem filesG_succ (O : DoT) (D : DS) {P : List FI} {m : Nat} (h : m < P.length) : filesG O D (P.take (m + 1)) = (stepsG O (filesG O D (P.take m)) (fileOps P[m].n P[m].l)).1 := by
  unfold filesG
  rw [List.take_succ_eq_append_getElem h, List.foldl_append]; rfl
theorem rel_files {D F : DS} (h : Rel D F) (P : List FI) : Rel (filesG doP D P) (filesG doR F P) := by
  induction P generalizing D F with
  | nil => exact h
  | cons f P ih => exact ih (rel_steps _ h).2
def minF (P : List FI) : Nat := (P.map fun f => min f.l.length 2000).sum
theorem minF_succ {P : List FI} {m : Nat} (h : m < P.length) : minF (P.take (m + 1)) = minF (P.take m) + min P[m].l.length 2000 := by
  unfold minF
  rw [List.take_succ_eq_append_getElem h, List.map_append, List.sum_append]; simp
/-- The program's three changes. -/
theorem file_steps (D : DS) (n : ByteArray) (l : List UInt8) : stepsG doP D (fileOps n l) = if (createD D n).2 = 0 then (if (appendD (createD D n).1 n l).2 = 0 then syncD (appendD (createD D n).1 n l).1 n else appendD (createD D n).1 n l) else createD D n := by
  show seqG (createD D n) (fun D1 => seqG (appendD D1 n l) (fun D2 => seqG (syncD D2 n) (fun D3 => (D3, 0)))) = _
  unfold seqG
  by_cases h1 : (createD D n).2 = 0
  · simp only [h1, ne_eq, not_true_eq_false, if_false, if_true]
    by_cases h2 : (appendD (createD D n).1 n l).2 = 0
    · simp only [h2, not_true_eq_false, if_false, if_true]
      by_cases h3 : (syncD (appendD (createD D n).1 n l).1 n).2 = 0
      · simp only [h3, not_true_eq_false, if_false]
        rw [← h3]
      · simp only [h3, not_false_eq_true, if_true]
    · simp only [h2, not_false_eq_true, if_true, if_false]
  · simp only [h1, ne_eq, not_false_eq_true, if_true, if_false]

theorem results_tmp_row_tmp {P : Program} {fn : Func} {p u v : Tmp} {ty : TypeId} (h : fn.results = #[.tmp u, .cell p ty, .tmp v]) (tmps : Array Value) (w : World) (g : Nat) (t : TypeId) (cs : Array Value) (fr : Nat × Nat) (d : TypeDesc)
    (hp : tmps.getD p undef = .pointer (some ⟨g, 0, none⟩)) (hg : w.heap[g]? = some (.cells cs t fr))
    (hu : P.underlying ty = some d) (hd : (match d with | .struct _ | .array _ _ => true | _ => false) = true) (hi : (P.info? ty).map (·.size) = some cs.size) :
    (results fn tmps).run P w = .ok (.tuple #[tmps.getD u undef, .agg cs, tmps.getD v undef]) w := by
  have hl := run_loadVar_row w g t ty cs fr d hg hu hd hi
  simp only [results, h]
  simp [Sem.run_bind, Result.andThen, show tmps[p]?.getD undef = _ from by simpa [Array.getD_eq_getD_getElem?] using hp, asAddr, hl]

/-- Both disks while Files runs: r5 and b8 are the call's own blocks. -/
structure FlI (w w' : World) (b8 : Nat) (bx : Nat) (D : DS) (S : Nat → Prop) (rm : Int) (a : Option Addr) (c : Nat) (R : List RF) (pl : Int) (dn : Bool) (T : Nat → Prop) (s n : Nat) : Prop where
  res : w'.heap[w.heap.size]? = some (.cells #[.int .i64 0, .slice none 0 0, .int .i64 0, .bool false] 32 (0, 0))
  box : w'.heap[b8]? = some (.cells #[.int .i64 rm, .slice a R.length c, .int .i64 pl, .bool dn] 32 (0, 0))
  dsk : DRep w' (.pointer (some ⟨bx, 0, none⟩)) D S
  lst : RLi w' (.slice a R.length c) R T
  sS : ∀ k, S k → w.heap.size < k ∧ k < w'.heap.size ∧ k ≠ b8
  sT : ∀ k, T k → w.heap.size < k ∧ k < w'.heap.size ∧ k ≠ b8 ∧ ¬ S k
  rel : Rel D ⟨rm, R.map RF.f, pl, dn⟩
  bnd : Bnd D s n
  bel : Below w.heap.size w w'
  b8 : w.heap.size < b8

/-- What Files leaves. -/
def FilesP (w : World) (room : Int) (P : List FI) : Ending → World → Prop := fun e w' =>
  ∃ (bx : Nat) (D : DS) (S : Nat → Prop) (rm : Int) (a : Option Addr) (c : Nat) (R : List RF) (pl : Int) (dn : Bool) (T : Nat → Prop) (ok : Bool),
    e = .returned (.tuple #[.pointer (some ⟨bx, 0, none⟩), rdisk rm (.slice a R.length c) pl dn, .bool ok]) ∧ DRep w' (.pointer (some ⟨bx, 0, none⟩)) D S ∧ RLi w' (.slice a R.length c) R T ∧
    (∀ k, S k → w.heap.size ≤ k ∧ k < w'.heap.size) ∧ (∀ k, T k → w.heap.size ≤ k ∧ k < w'.heap.size ∧ ¬ S k) ∧ Rel D ⟨rm, R.map RF.f, pl, dn⟩ ∧ Below w.heap.size w w' ∧
    (ok = true → D = filesG doP ⟨max room 0, [], 0, false⟩ P ∧ (⟨rm, R.map RF.f, pl, dn⟩ : DS) = filesG doR ⟨max room 0, [], 0, false⟩ P ∧ Bnd D 1500 30)

theorem FlI.later {w w' w'' : World} {b8 bx : Nat} {D : DS} {S : Nat → Prop} {rm : Int} {a : Option Addr} {c : Nat} {R : List RF} {pl : Int} {dn : Bool} {T : Nat → Prop} {s n : Nat} (h : FlI w w' b8 bx D S rm a c R pl dn T s n) (hb : Below w'.heap.size w' w'') : FlI w w'' b8 bx D S rm a c R pl dn T s n where
  res := (hb.block _ (lt_of_heap h.res)).trans h.res
  box := (hb.block _ (lt_of_heap h.box)).trans h.box
  dsk := h.dsk.frame (fun k hk hl => hb.block k hl)
  lst := h.lst.frame (fun k hk hl => hb.block k hl)
  sS := fun k hk => ⟨(h.sS k hk).1, Nat.lt_of_lt_of_le (h.sS k hk).2.1 hb.size, (h.sS k hk).2.2⟩
  sT := fun k hk => ⟨(h.sT k hk).1, Nat.lt_of_lt_of_le (h.sT k hk).2.1 hb.size, (h.sT k hk).2.2⟩
  rel := h.rel
  bnd := h.bnd
  bel := h.bel.trans (hb.mono h.bel.size)
  b8 := h.b8
theorem bnd_file {D : DS} {s n : Nat} (h : Bnd D s n) (nm : ByteArray) (hn : nm.size ≤ 300) (l : List UInt8) : Bnd (stepsG doP D (fileOps nm l)).1 (s + l.length) (n + 1) := by
  have b1 := bnd_create h nm hn
  have b2 := bnd_append b1 nm l
  have b3 := bnd_sync b2 nm
  rw [file_steps]
  split
  · split
    · exact b3
    · exact b2
  · exact b1.more (by omega) (by omega)

set_option maxRecDepth 100000 in
theorem files_end {w wz : World} {b8 bx : Nat} {D : DS} {S : Nat → Prop} {rm : Int} {a : Option Addr} {c : Nat} {R : List RF} {pl : Int} {dn : Bool} {T : Nat → Prop} {s n : Nat} {room : Int} {P : List FI} (h : FlI w wz b8 bx D S rm a c R pl dn T s n) (ok : Bool)
    (hok : ok = true → D = filesG doP ⟨max room 0, [], 0, false⟩ P ∧ (⟨rm, R.map RF.f, pl, dn⟩ : DS) = filesG doR ⟨max room 0, [], 0, false⟩ P ∧ Bnd D 1500 30) {tmps : Array Value} (h4 : tmps.getD 4 undef = .pointer (some ⟨bx, 0, none⟩)) (h5 : tmps.getD 5 undef = .pointer (some ⟨w.heap.size, 0, none⟩)) (h6 : tmps.getD 6 undef = .bool ok) :
    bodyPost Tryz.prog Tryz.f24 (FilesP w room P) Exit.ret { tmps := tmps, defers := [] } ((((wz.setCell ⟨w.heap.size, 0, none⟩ (.int .i64 rm)).setCell ⟨w.heap.size, 1, none⟩ (.slice a R.length c)).setCell ⟨w.heap.size, 2, none⟩ (.int .i64 pl)).setCell ⟨w.heap.size, 3, none⟩ (.bool dn)) := by
  have HRF := heap_store (heap_store (heap_store (heap_store h.res 0 (.int .i64 rm)) 1 (.slice a R.length c)) 2 (.int .i64 pl)) 3 (.bool dn)
  refine bodyPost_ret (results_tmp_row_tmp (P := Tryz.prog) Tryz.results24 _ _ w.heap.size 32 #[.int .i64 rm, .slice a R.length c, .int .i64 pl, .bool dn] (0, 0) _ h5 HRF Tryz.underlying32 rfl rfl) rfl ?_
  rw [h4, h6]
  have hne : ∀ k, k ≠ w.heap.size → ((((wz.setCell ⟨w.heap.size, 0, none⟩ (.int .i64 rm)).setCell ⟨w.heap.size, 1, none⟩ (.slice a R.length c)).setCell ⟨w.heap.size, 2, none⟩ (.int .i64 pl)).setCell ⟨w.heap.size, 3, none⟩ (.bool dn)).heap[k]? = wz.heap[k]? := fun k hk => by
    rw [Below.heap_setCell _ ⟨w.heap.size, 3, none⟩ _ _ hk, Below.heap_setCell _ ⟨w.heap.size, 2, none⟩ _ _ hk, Below.heap_setCell _ ⟨w.heap.size, 1, none⟩ _ _ hk, Below.heap_setCell _ ⟨w.heap.size, 0, none⟩ _ _ hk]
  have hsz : ((((wz.setCell ⟨w.heap.size, 0, none⟩ (.int .i64 rm)).setCell ⟨w.heap.size, 1, none⟩ (.slice a R.length c)).setCell ⟨w.heap.size, 2, none⟩ (.int .i64 pl)).setCell ⟨w.heap.size, 3, none⟩ (.bool dn)).heap.size = wz.heap.size := by rw [World.size_setCell, World.size_setCell, World.size_setCell, World.size_setCell]
  refine ⟨bx, D, S, rm, a, c, R, pl, dn, T, ok, rfl, h.dsk.frame (fun k hk _ => hne k (by have := (h.sS k hk).1; omega)), h.lst.frame (fun k hk _ => hne k (by have := (h.sT k hk).1; omega)), fun k hk => ?_, fun k hk => ?_, h.rel, (((h.bel.setCell (p := ⟨w.heap.size, 0, none⟩) (Nat.le_refl _) _).setCell (p := ⟨w.heap.size, 1, none⟩) (Nat.le_refl _) _).setCell (p := ⟨w.heap.size, 2, none⟩) (Nat.le_refl _) _).setCell (p := ⟨w.heap.size, 3, none⟩) (Nat.le_refl _) _, hok⟩
  · have := h.sS k hk
    rw [hsz]; omega
  · have := h.sT k hk
    rw [hsz]
    exact ⟨by omega, this.2.1, this.2.2.2⟩

set_option maxRecDepth 100000 in
set_option maxHeartbeats 8000000 in
theorem files_any (room : Int) (a0 : Option Addr) (c0 : Nat) (P : List FI) (w : World) (h : FIs w (.slice a0 P.length c0) P) (hl : P.length ≤ 3518437208780) :
    Calls Tryz.prog 24 #[.int .i64 room, .slice a0 P.length c0] w (FilesP w room P) := by
  have HP := Lib.hid h
  clear h
  have hb1 : Below w.heap.size w (w.alloc (.cells #[.int .i64 0, .slice none 0 0, .int .i64 0, .bool false] 32)) := (Below.refl _ _).alloc (Nat.le_refl _) _
  have HB1 := Lib.hid hb1
  have HX1 : Hid ((w.alloc (.cells #[.int .i64 0, .slice none 0 0, .int .i64 0, .bool false] 32)).heap[w.heap.size]? = some (.cells #[.int .i64 0, .slice none 0 0, .int .i64 0, .bool false] 32 (0, 0))) := heap_alloc_new w _
  clear hb1
  go_enter Tryz.func24, Tryz.ntmps24
  go_upto_region 1 with fail
  generalize w.alloc (.cells #[.int .i64 0, .slice none 0 0, .int .i64 0, .bool false] 32) = wa at *
  go_wp2_with fail
  refine (new_any room wa).mono ?_
  rintro e w2 ⟨x, rfl, hd2, hb2⟩
  obtain ⟨bx, bm, col, pv, rfl, hd2⟩ := hd2
  have HD2 : Hid (DRep w2 (.pointer (some ⟨bx, 0, none⟩)) ⟨max room 0, [], 0, false⟩ (fun k => wa.heap.size ≤ k ∧ k < w2.heap.size)) := DRep.tight ⟨bx, bm, col, pv, rfl, hd2⟩
  have HB2 := Lib.hid (HB1.out.trans (hb2.mono HB1.out.size))
  have HX2 := Lib.hid ((hb2.block _ (lt_of_heap HX1.out)).trans HX1.out)
  have hwa := lt_of_heap HX1.out
  have hw2 := hb2.size
  clear hd2 hb2 HB1 HX1
  have HFI : Hid (FlI w (w2.alloc (.cells #[.int .i64 (max room 0), .slice none 0 0, .int .i64 0, .bool false] 32)) w2.heap.size bx ⟨max room 0, [], 0, false⟩ (fun k => wa.heap.size ≤ k ∧ k < w2.heap.size) (max room 0) none 0 [] 0 false (fun _ => False) 0 0) := by
    have hb : Below w2.heap.size w2 (w2.alloc (.cells #[.int .i64 (max room 0), .slice none 0 0, .int .i64 0, .bool false] 32)) := (Below.refl _ _).alloc (Nat.le_refl _) _
    refine ⟨(hb.block _ (lt_of_heap HX2.out)).trans HX2.out, heap_alloc_new _ _, HD2.out.frame (fun k hk _ => hb.block k hk.2), ⟨Row.nil _ _ _ _, fun r hr => by cases hr⟩, fun k hk => ⟨by omega, by have := hk.2; simp; omega, by have := hk.2; omega⟩, fun k hk => hk.elim, ⟨rfl, rfl, rfl, List.nodup_nil, List.Pairwise.nil, fun _ => rfl⟩, ⟨Nat.le_refl _, Nat.le_refl _, (fun f hf => by cases hf), List.nodup_nil, (by show (0 : Int) ≤ 0 ∧ (0 : Int) ≤ 9223372036854775807; omega)⟩, HB2.out.alloc HB2.out.size _, by omega⟩
  go_upto_region 3 with fail
  generalize w2.alloc (.cells #[.int .i64 (max room 0), .slice none 0 0, .int .i64 0, .bool false] 32) = w3 at *
  generalize w2.heap.size = b8 at *
  clear HD2 HX2 HB2 hw2 hwa
  go_wp2_with fail
  go_loopw [9, 19] (fun nv iv w' => ∃ (k : Nat) (D : DS) (S : Nat → Prop) (rm : Int) (a : Option Addr) (c : Nat) (R : List RF) (pl : Int) (dn : Bool) (T : Nat → Prop), k ≤ P.length ∧ nv = .int .i64 (minF (P.take k)) ∧ iv = .int .i64 k ∧ minF (P.take k) ≤ 1500 ∧ (0 < k → P.length ≤ 30) ∧ Hid (FlI w w' b8 bx D S rm a c R pl dn T (minF (P.take k)) k) ∧ Hid (D = filesG doP ⟨max room 0, [], 0, false⟩ (P.take k)) ∧ Hid ((⟨rm, R.map RF.f, pl, dn⟩ : DS) = filesG doR ⟨max room 0, [], 0, false⟩ (P.take k))) (fun _ iv _ => P.length - (RowKit.intOf iv).toNat)
  case atStart => exact ⟨0, _, _, _, _, _, _, _, _, _, by omega, rfl, rfl, by simp [minF], by omega, HFI, rfl, rfl⟩
  case round =>
    obtain ⟨k, D, S, rm, a, c, R, pl, dn, T, hk, rfl, rfl, hmn, hk30, HF, HDG, HFG⟩ := hrel
    by_cases hlt : k < P.length
    · obtain ⟨b, o, rfl, hle, hbk, d0, d1, d2⟩ := (HP.out.later HF.out.bel).head hlt
      have hms := minF_succ hlt
      have hmin : min (P[k].l.length : Int) 2000 = ((min P[k].l.length 2000 : Nat) : Int) := by omega
      have hsm := HP.out.small P[k] (List.getElem_mem hlt)
      have HRD := Lib.hid (HP.out.each P[k] (List.getElem_mem hlt))
      have HD2 := Lib.hid (filesG_succ doP ⟨max room 0, [], 0, false⟩ hlt)
      have HF2 := Lib.hid (filesG_succ doR ⟨max room 0, [], 0, false⟩ hlt)
      rw [← HDG.out] at HD2
      rw [← HFG.out] at HF2
      have HBA : Hid (Below wr.heap.size wr (wr.alloc (.cells #[.string P[k].n, .slice P[k].a P[k].l.length P[k].c, .int .i64 P[k].d] 120))) := (Below.refl _ _).alloc (Nat.le_refl _) _
      have HXA : Hid ((wr.alloc (.cells #[.string P[k].n, .slice P[k].a P[k].l.length P[k].c, .int .i64 P[k].d] 120)).heap[wr.heap.size]? = some (.cells #[.string P[k].n, .slice P[k].a P[k].l.length P[k].c, .int .i64 P[k].d] 120 (0, 0))) := heap_alloc_new _ _
      have HFA := Lib.hid (HF.out.later HBA.out)
      have HFR8 := Lib.hid (lt_of_heap HF.out.box)
      have HXW : Hid (∀ k, S k → k < wr.heap.size) := fun k hk => (HF.out.sS k hk).2.1
      generalize P[k].n = fnm at *
      generalize P[k].a = fa at *
      generalize P[k].l = fl at *
      generalize P[k].c = fc at *
      generalize P[k].d = fd at *
      go_upto_region 7 with fail
      generalize wr.alloc (.cells #[.string fnm, .slice fa fl.length fc, .int .i64 fd] 120) = wb at *
      obtain ⟨p0, p1, p2⟩ := cells3 HXA.out
      obtain ⟨mm, hmm⟩ : ∃ mm : Nat, mm = minF (P.take (k + 1)) := ⟨_, rfl⟩
      rw [← hmm] at hms
      obtain ⟨q, hq⟩ : ∃ q : Nat, q = min fl.length 2000 := ⟨_, rfl⟩
      rw [← hq] at hmin hms
      have hq2 : q ≤ 2000 := by omega
      have hq3 : q ≤ 1500 → q = fl.length := by omega
      have HQ3 := Lib.hid hq3
      obtain ⟨mk, hmk⟩ : ∃ mk : Nat, mk = minF (P.take k) := ⟨_, rfl⟩
      have HMK := Lib.hid hmk
      rw [← hmk] at hms hmn HFA ⊢
      have hadd : (mk : Int) + (q : Int) = (mm : Int) := by omega
      have hmm2 : mm ≤ 4000 := by omega
      have HMM := Lib.hid hmm
      have HMS := Lib.hid hms
      clear hmm HF HBA d0 d1 d2 hq hq3 hmk hms
      by_cases h1 : 1500 < mm
      · obtain ⟨x0, x1, x2, x3⟩ := cells4 HFA.out.box
        have HFD := Lib.hid (HFA.out.later ((Below.refl wb.heap.size wb).drew))
        obtain ⟨y0, y1, y2, y3⟩ := cells4 HFD.out.box
        obtain ⟨v0, v1, v2, v3⟩ := cells4 HFA.out.res
        have e0 := freeAt HFA.out.res 0
        have e1 := freeAt HFA.out.res 1
        have e2 := freeAt HFA.out.res 2
        have e3 := freeAt HFA.out.res 3
        obtain ⟨z0, z1, z2, z3⟩ := cells4 HFD.out.res
        have g0 := freeAt HFD.out.res 0
        have g1 := freeAt HFD.out.res 1
        have g2 := freeAt HFD.out.res 2
        have g3 := freeAt HFD.out.res 3
        go_upto_region 9 with fail
        go_region
        go_wp2
        try simp only [Exit.inBlock, Exit.then]
        exact files_end (wz := wb.drew) HFD.out false (fun h => by cases h) rfl rfl rfl
      · by_cases h2 : 30 < P.length
        · obtain ⟨x0, x1, x2, x3⟩ := cells4 HFA.out.box
          have HFD := Lib.hid (HFA.out.later ((Below.refl wb.heap.size wb).drew))
          obtain ⟨y0, y1, y2, y3⟩ := cells4 HFD.out.box
          obtain ⟨v0, v1, v2, v3⟩ := cells4 HFA.out.res
          have e0 := freeAt HFA.out.res 0
          have e1 := freeAt HFA.out.res 1
          have e2 := freeAt HFA.out.res 2
          have e3 := freeAt HFA.out.res 3
          obtain ⟨z0, z1, z2, z3⟩ := cells4 HFD.out.res
          have g0 := freeAt HFD.out.res 0
          have g1 := freeAt HFD.out.res 1
          have g2 := freeAt HFD.out.res 2
          have g3 := freeAt HFD.out.res 3
          go_upto_region 9 with fail
          go_region
          go_wp2
          try simp only [Exit.inBlock, Exit.then]
          exact files_end (wz := wb.drew) HFD.out false (fun h => by cases h) rfl rfl rfl
        · by_cases h3 : 200 < fnm.size
          · obtain ⟨x0, x1, x2, x3⟩ := cells4 HFA.out.box
            have HFD := Lib.hid (HFA.out.later ((Below.refl wb.heap.size wb).drew))
            obtain ⟨y0, y1, y2, y3⟩ := cells4 HFD.out.box
            obtain ⟨v0, v1, v2, v3⟩ := cells4 HFA.out.res
            have e0 := freeAt HFA.out.res 0
            have e1 := freeAt HFA.out.res 1
            have e2 := freeAt HFA.out.res 2
            have e3 := freeAt HFA.out.res 3
            obtain ⟨z0, z1, z2, z3⟩ := cells4 HFD.out.res
            have g0 := freeAt HFD.out.res 0
            have g1 := freeAt HFD.out.res 1
            have g2 := freeAt HFD.out.res 2
            have g3 := freeAt HFD.out.res 3
            go_upto_region 9 with fail
            go_region
            go_wp2
            try simp only [Exit.inBlock, Exit.then]
            exact files_end (wz := wb.drew) HFD.out false (fun h => by cases h) rfl rfl rfl
          · obtain ⟨x0, x1, x2, x3⟩ := cells4 HFA.out.box
            have hqf : q = fl.length := HQ3.out (by have := HMS.out; omega)
            have HBQ : Hid (Below wb.heap.size wb (wb.alloc (.cells #[.int .i64 1, .string fnm, .string ⟨#[]⟩, .slice none 0 0, .int .i64 2, .string fnm, .string ⟨#[]⟩, .slice fa fl.length fc, .int .i64 3, .string fnm, .string ⟨#[]⟩, .slice none 0 0] 112))) := (Below.refl _ _).alloc (Nat.le_refl _) _
            have HXQ : Hid ((wb.alloc (.cells #[.int .i64 1, .string fnm, .string ⟨#[]⟩, .slice none 0 0, .int .i64 2, .string fnm, .string ⟨#[]⟩, .slice fa fl.length fc, .int .i64 3, .string fnm, .string ⟨#[]⟩, .slice none 0 0] 112)).heap[wb.heap.size]? = some (.cells #[.int .i64 1, .string fnm, .string ⟨#[]⟩, .slice none 0 0, .int .i64 2, .string fnm, .string ⟨#[]⟩, .slice fa fl.length fc, .int .i64 3, .string fnm, .string ⟨#[]⟩, .slice none 0 0] 112 (0, 0))) := heap_alloc_new _ _
            have HFQ := Lib.hid (HFA.out.later HBQ.out)
            obtain ⟨wq, hwq⟩ : ∃ wq, wq = wb.alloc (.cells #[.int .i64 1, .string fnm, .string ⟨#[]⟩, .slice none 0 0, .int .i64 2, .string fnm, .string ⟨#[]⟩, .slice fa fl.length fc, .int .i64 3, .string fnm, .string ⟨#[]⟩, .slice none 0 0] 112) := ⟨_, rfl⟩
            rw [← hwq] at HBQ HXQ HFQ
            have hbelq := HFQ.out.bel
            have HST : Hid (Calls Tryz.prog 71 #[rdisk rm (.slice a R.length c) pl dn, .slice (some ⟨wb.heap.size, 0, none⟩) 3 3] wq (RPost wq T (stepsG doR ⟨rm, R.map RF.f, pl, dn⟩ (fileOps fnm fl)))) := by
              have hbn := HFQ.out.bnd
              have hrel := HFQ.out.rel
              refine rsteps_any rm pl dn (.slice a R.length c) R T (some ⟨wb.heap.size, 0, none⟩) 3 [bareO ⟨1, fnm, ⟨#[]⟩, []⟩, ⟨⟨2, fnm, ⟨#[]⟩, fl⟩, fa, fc⟩, bareO ⟨3, fnm, ⟨#[]⟩, []⟩] wq HFQ.out.lst ⟨Reads.block HXQ.out 3 4 rfl, ?_, ?_⟩ (by simp) (s := 1500) (n := 30) ⟨?_, ?_, ?_⟩ (by omega) ?_
              · intro r hr
                simp only [List.mem_cons, List.not_mem_nil, or_false] at hr
                rcases hr with rfl | rfl | rfl
                · exact Reads.nil _ _
                · exact HRD.out.later hbelq
                · exact Reads.nil _ _
              · intro r hr
                simp only [List.mem_cons, List.not_mem_nil, or_false] at hr
                rcases hr with rfl | rfl | rfl <;> exact ⟨by simp, by show fnm.size ≤ 100000; omega, by show (ByteArray.mk #[]).size ≤ 100000; decide⟩
              · rw [← hrel.sum]; have := hbn.sum; omega
              · rw [← hrel.len]; have := hbn.len; omega
              · have h := hbn.plan; rw [hrel.plan] at h; exact h
              · show 1500 + bytsO [bareO ⟨1, fnm, ⟨#[]⟩, []⟩, ⟨⟨2, fnm, ⟨#[]⟩, fl⟩, fa, fc⟩, bareO ⟨3, fnm, ⟨#[]⟩, []⟩] ≤ 1000000
                simp [bytsO]; omega
            have HRS : Hid ((stepsG doP D (fileOps fnm fl)).2 = (stepsG doR ⟨rm, R.map RF.f, pl, dn⟩ (fileOps fnm fl)).2 ∧ Rel (stepsG doP D (fileOps fnm fl)).1 (stepsG doR ⟨rm, R.map RF.f, pl, dn⟩ (fileOps fnm fl)).1) := rel_steps _ HFQ.out.rel
            generalize stepsG doR ⟨rm, R.map RF.f, pl, dn⟩ (fileOps fnm fl) = r at *
            obtain ⟨⟨r1, r2, r3, r4⟩, r5⟩ := r
            have HWQ := Lib.hid hwq
            clear hwq
            go_wp2_with fail
            rw [← HWQ.out]
            refine HST.out.mono ?_
            rintro e w9 he
            obtain ⟨a3, c3, R3, rfl, hf3, hr3, hb3⟩ := dop_of he
            have hf3' : R3.map RF.f = r2 := hf3
            clear he HST
            have HF9 := Lib.hid (HFQ.out.later hb3)
            have HX9 := Lib.hid (((HBQ.out.trans (hb3.mono HBQ.out.size)).block _ (lt_of_heap HXA.out)).trans HXA.out)
            have HBX9 := HF9.out.box
            obtain ⟨y0, y1, y2, y3⟩ := cells4 HBX9
            have g0 := freeAt HBX9 0
            have g1 := freeAt HBX9 1
            have g2 := freeAt HBX9 2
            have g3 := freeAt HBX9 3
            have hb8 := HFQ.out.b8
            have hsS : ∀ k, S k → k < wq.heap.size := fun k hk => (HFQ.out.sS k hk).2.1
            have HT9 := Lib.hid (hr3.tight)
            go_upto_region 11 with fail
            have HX10 : Hid (((((w9.setCell ⟨b8, 0, none⟩ (.int .i64 r1)).setCell ⟨b8, 1, none⟩ (.slice a3 R3.length c3)).setCell ⟨b8, 2, none⟩ (.int .i64 r3)).setCell ⟨b8, 3, none⟩ (.bool r4)).heap[b8]? = some (.cells #[.int .i64 r1, .slice a3 R3.length c3, .int .i64 r3, .bool r4] 32 (0, 0))) := heap_store (heap_store (heap_store (heap_store HBX9 0 (.int .i64 r1)) 1 (.slice a3 R3.length c3)) 2 (.int .i64 r3)) 3 (.bool r4)
            have hne : ∀ k, k ≠ b8 → ((((w9.setCell ⟨b8, 0, none⟩ (.int .i64 r1)).setCell ⟨b8, 1, none⟩ (.slice a3 R3.length c3)).setCell ⟨b8, 2, none⟩ (.int .i64 r3)).setCell ⟨b8, 3, none⟩ (.bool r4)).heap[k]? = w9.heap[k]? := fun k hk => by
              rw [Below.heap_setCell _ ⟨b8, 3, none⟩ _ _ hk, Below.heap_setCell _ ⟨b8, 2, none⟩ _ _ hk, Below.heap_setCell _ ⟨b8, 1, none⟩ _ _ hk, Below.heap_setCell _ ⟨b8, 0, none⟩ _ _ hk]
            have hs10 : ((((w9.setCell ⟨b8, 0, none⟩ (.int .i64 r1)).setCell ⟨b8, 1, none⟩ (.slice a3 R3.length c3)).setCell ⟨b8, 2, none⟩ (.int .i64 r3)).setCell ⟨b8, 3, none⟩ (.bool r4)).heap.size = w9.heap.size := by rw [World.size_setCell, World.size_setCell, World.size_setCell, World.size_setCell]
            have HB10 : Hid (Below w.heap.size w ((((w9.setCell ⟨b8, 0, none⟩ (.int .i64 r1)).setCell ⟨b8, 1, none⟩ (.slice a3 R3.length c3)).setCell ⟨b8, 2, none⟩ (.int .i64 r3)).setCell ⟨b8, 3, none⟩ (.bool r4))) := (((HF9.out.bel.setCell (p := ⟨b8, 0, none⟩) (by show w.heap.size ≤ b8; omega) _).setCell (p := ⟨b8, 1, none⟩) (by show w.heap.size ≤ b8; omega) _).setCell (p := ⟨b8, 2, none⟩) (by show w.heap.size ≤ b8; omega) _).setCell (p := ⟨b8, 3, none⟩) (by show w.heap.size ≤ b8; omega) _
            have HR10 : Hid (((((w9.setCell ⟨b8, 0, none⟩ (.int .i64 r1)).setCell ⟨b8, 1, none⟩ (.slice a3 R3.length c3)).setCell ⟨b8, 2, none⟩ (.int .i64 r3)).setCell ⟨b8, 3, none⟩ (.bool r4)).heap[w.heap.size]? = _) := (hne w.heap.size (by omega)).trans HF9.out.res
            have HXA10 : Hid (((((w9.setCell ⟨b8, 0, none⟩ (.int .i64 r1)).setCell ⟨b8, 1, none⟩ (.slice a3 R3.length c3)).setCell ⟨b8, 2, none⟩ (.int .i64 r3)).setCell ⟨b8, 3, none⟩ (.bool r4)).heap[wr.heap.size]? = _) := (hne wr.heap.size (fun e => by have h1 := lt_of_heap HXA.out; have h2 := HFR8.out; omega)).trans HX9.out
            have HD10 : Hid (DRep ((((w9.setCell ⟨b8, 0, none⟩ (.int .i64 r1)).setCell ⟨b8, 1, none⟩ (.slice a3 R3.length c3)).setCell ⟨b8, 2, none⟩ (.int .i64 r3)).setCell ⟨b8, 3, none⟩ (.bool r4)) (.pointer (some ⟨bx, 0, none⟩)) D S) := HF9.out.dsk.frame (fun k hk _ => hne k (HF9.out.sS k hk).2.2)
            have HL10 : Hid (RLi ((((w9.setCell ⟨b8, 0, none⟩ (.int .i64 r1)).setCell ⟨b8, 1, none⟩ (.slice a3 R3.length c3)).setCell ⟨b8, 2, none⟩ (.int .i64 r3)).setCell ⟨b8, 3, none⟩ (.bool r4)) (.slice a3 R3.length c3) R3 (fun k => (T k ∨ wq.heap.size ≤ k) ∧ k < w9.heap.size)) := HT9.out.frame (fun k hk _ => hne k (fun e => by
              rcases hk.1 with h | h
              · exact (HFQ.out.sT k h).2.2.1 e
              · have := lt_of_heap HFQ.out.box; omega))
            generalize ((((w9.setCell ⟨b8, 0, none⟩ (.int .i64 r1)).setCell ⟨b8, 1, none⟩ (.slice a3 R3.length c3)).setCell ⟨b8, 2, none⟩ (.int .i64 r3)).setCell ⟨b8, 3, none⟩ (.bool r4)) = w10 at *
            have hbp := HFQ.out.bnd
            have HNEXT : Hid (∀ (wN : World) (D' : DS) (SS : Nat → Prop), DRep wN (.pointer (some ⟨bx, 0, none⟩)) D' SS → (∀ k, SS k → (S k ∨ w10.heap.size ≤ k) ∧ k < wN.heap.size) → Chg S w10 wN → D' = (stepsG doP D (fileOps fnm fl)).1 → ∃ T', FlI w wN b8 bx D' SS r1 a3 c3 R3 r3 r4 T' (minF (P.take (k + 1))) (k + 1)) := fun wN D' SS hd hss hc hD => by
              have hszc := hc.size
              have hww : w.heap.size < b8 := hb8
              have hbq : b8 < wq.heap.size := lt_of_heap HFQ.out.box
              have hq9 : wq.heap.size ≤ w9.heap.size := hb3.size
              refine ⟨fun k => (T k ∨ wq.heap.size ≤ k) ∧ k < w9.heap.size, ⟨?_, ?_, hd, ?_, fun j hj => ?_, fun j hj => ?_, ?_, ?_, ?_, hb8⟩⟩
              · exact hc.heap HR10.out (fun h => by have := (HFQ.out.sS _ h).1; omega)
              · exact hc.heap HX10.out (fun h => (HFQ.out.sS _ h).2.2 rfl)
              · refine HL10.out.frame (fun j hj hl => hc.block j hl (fun h => ?_))
                rcases hj.1 with h2 | h2
                · exact (HFQ.out.sT j h2).2.2.2 h
                · have := hsS j h; omega
              · obtain ⟨h1, h2⟩ := hss j hj
                rcases h1 with h1 | h1
                · have := HFQ.out.sS j h1; exact ⟨this.1, h2, this.2.2⟩
                · exact ⟨by omega, h2, by omega⟩
              · have hj2 : j < w9.heap.size := hj.2
                refine ⟨?_, by omega, ?_, fun h => ?_⟩
                · rcases hj.1 with h2 | h2
                  · exact (HFQ.out.sT j h2).1
                  · omega
                · rcases hj.1 with h2 | h2
                  · exact (HFQ.out.sT j h2).2.2.1
                  · omega
                · rcases (hss j h).1 with h3 | h3
                  · rcases hj.1 with h2 | h2
                    · exact (HFQ.out.sT j h2).2.2.2 h3
                    · have := hsS j h3; omega
                  · omega
              · rw [hD, hf3']; exact HRS.out.2
              · rw [hD, ← HMM.out, HMS.out, hqf]
                exact bnd_file hbp fnm (by omega) fl
              · exact HB10.out.trans (hc.toBelow HB10.out.size (fun j hj h => by have := (HFQ.out.sS j h).1; omega))
            have hfs := file_steps D fnm fl
            have HFS := Lib.hid hfs
            have HS10 : Hid (∀ k, S k → k < w10.heap.size) := fun k hk => by have := hsS k hk; have h9 : wq.heap.size ≤ w9.heap.size := hb3.size; omega
            have HSW : Hid (∀ k, S k → w.heap.size < k) := fun k hk => (HFQ.out.sS k hk).1
            obtain ⟨p0, p1, p2⟩ := cells3 HXA10.out
            have hplan := hbp.plan
            have hsum := hbp.sum
            have HCR := Lib.hid (create_any (.pointer (some ⟨bx, 0, none⟩)) fnm D S w10 HD10.out hplan)
            have b1 := bnd_create hbp fnm (by omega)
            have HNM := Lib.hid (show fnm.size ≤ 300 by omega)
            have HWR : Hid (¬ S wr.heap.size) := fun h => by
              have h1 := HXW.out _ h
              omega
            obtain ⟨D1, hD1⟩ : ∃ D1, D1 = (createD D fnm).1 := ⟨_, rfl⟩
            obtain ⟨e1, he1⟩ : ∃ e1, e1 = (createD D fnm).2 := ⟨_, rfl⟩
            have HD1E := Lib.hid hD1
            rw [← hD1] at b1
            rw [← hD1, ← he1] at hfs
            have HCR2 : Hid (Calls Tryz.prog 34 #[.pointer (some ⟨bx, 0, none⟩), .string fnm] w10 (DPost w10 (.pointer (some ⟨bx, 0, none⟩)) S (D1, e1))) := by rw [Hid, hD1, he1]; exact HCR.out
            have HFS1 := Lib.hid hfs
            have HBD1 := Lib.hid b1
            clear hfs HFS HCR hD1 he1 x0 x1 x2 x3 y0 y1 y2 y3 g0 g1 g2 g3 hne hr3 hf3 HBX9 hsS hbp
            go_wp2_with fail
            refine HCR2.out.mono ?_
            rintro e w11 ⟨rfl, hd11, hc11⟩
            have HD11 : Hid (DRep w11 (.pointer (some ⟨bx, 0, none⟩)) D1 (fun k => (S k ∨ w10.heap.size ≤ k) ∧ k < w11.heap.size)) := DRep.tight hd11
            have HC11 := Lib.hid hc11
            have hz11 := hc11.size
            have HXA11 := Lib.hid (hc11.heap HXA10.out HWR.out)
            have HSS11 : Hid (∀ k, ((S k ∨ w10.heap.size ≤ k) ∧ k < w11.heap.size) → (S k ∨ w10.heap.size ≤ k) ∧ k < w11.heap.size) := fun k hk => hk
            obtain ⟨p0, p1, p2⟩ := cells3 HXA11.out
            clear hd11 hc11 HCR2 HD10
            by_cases hc1 : e1 = 0
            · subst hc1
              have hzb : w.heap.size ≤ w10.heap.size := HB10.out.size
              have hblkw : ∀ ad, fa = some ad → 0 < fl.length → ad.block < w.heap.size := fun ad had h0 => by
                obtain ⟨b', o', c'', hv', -, hb', -⟩ := HRD.out.at h0
                cases hv'; cases had; exact hb'
              have HRD11 : Hid (Reads w11 (.slice fa fl.length fc) fl.length 1 (byts fl)) := Reads.chg (HRD.out.later HB10.out) HC11.out (fun ad had h0 hS => by
                have h1 := hblkw ad had (by simpa [byts] using h0)
                have h2 := HSW.out _ hS
                omega)
              have HAP0 := append_any (.pointer (some ⟨bx, 0, none⟩)) fnm fl fa fc D1 (fun k => (S k ∨ w10.heap.size ≤ k) ∧ k < w11.heap.size) w11 HD11.out HBD1.out.plan (by have := HBD1.out.sum; omega) (by omega) HRD11.out (fun ad had h0 hS => by
                have h1 := hblkw ad had h0
                rcases hS.1 with h2 | h2
                · have := HSW.out _ h2; omega
                · omega)
              have b2 := bnd_append HBD1.out fnm fl
              obtain ⟨D2, hD2⟩ : ∃ D2, D2 = (appendD D1 fnm fl).1 := ⟨_, rfl⟩
              obtain ⟨e2, he2⟩ : ∃ e2, e2 = (appendD D1 fnm fl).2 := ⟨_, rfl⟩
              rw [show appendD D1 fnm fl = (D2, e2) by rw [hD2, he2]] at HAP0 HFS1
              rw [← hD2] at b2
              have HAP := Lib.hid HAP0
              have HBD2 := Lib.hid b2
              clear HAP0 b2 hD2 he2 HD11 HRD11 hblkw
              go_wp2_with fail
              refine HAP.out.mono ?_
              rintro e w12 ⟨rfl, hd12, hc12⟩
              have HD12 : Hid (DRep w12 (.pointer (some ⟨bx, 0, none⟩)) D2 (fun k => (((S k ∨ w10.heap.size ≤ k) ∧ k < w11.heap.size) ∨ w11.heap.size ≤ k) ∧ k < w12.heap.size)) := DRep.tight hd12
              have HC12 : Hid (Chg S w10 w12) := HC11.out.trans hc12 (fun k hk => hk.1)
              have HXA12 := Lib.hid (hc12.heap HXA11.out (fun h => by
                rcases h.1 with h2 | h2
                · exact HWR.out h2
                · have := lt_of_heap HXA10.out; omega))
              obtain ⟨p0, p1, p2⟩ := cells3 HXA12.out
              clear hd12 hc12 HAP
              by_cases hc2 : e2 = 0
              · subst hc2
                have HSY := Lib.hid (sync_any (.pointer (some ⟨bx, 0, none⟩)) fnm D2 _ w12 HD12.out HBD2.out.plan)
                have hfs3 : (syncD D2 fnm).1 = (stepsG doP D (fileOps fnm fl)).1 := by rw [HFS1.out]; simp
                generalize hsy : syncD D2 fnm = rs at *
                obtain ⟨D3, e3⟩ := rs
                clear hsy HD12
                go_wp2_with fail
                refine HSY.out.mono ?_
                rintro e w13 ⟨rfl, hd13, hc13⟩
                have hz12 := HC12.out.size
                have hd13' := DRep.tight hd13
                have hc13' : Chg S w10 w13 := HC12.out.trans hc13 (fun k hk => by
                  rcases hk.1 with h | h
                  · exact h.1
                  · exact .inr (by omega))
                have hss13 : ∀ k, (((((S k ∨ w10.heap.size ≤ k) ∧ k < w11.heap.size) ∨ w11.heap.size ≤ k) ∧ k < w12.heap.size) ∨ w12.heap.size ≤ k) ∧ k < w13.heap.size → (S k ∨ w10.heap.size ≤ k) ∧ k < w13.heap.size := fun k hk => ⟨by
                  rcases hk.1 with h | h
                  · rcases h.1 with h | h
                    · exact h.1
                    · exact .inr (by omega)
                  · exact .inr (by omega), hk.2⟩
                have HNX := Lib.hid (HNEXT.out w13 D3 _ hd13' hss13 hc13' hfs3)
                have HDX : Hid (D3 = filesG doP ⟨max room 0, [], 0, false⟩ (P.take (k + 1))) := by rw [Hid, HD2.out]; exact hfs3
                clear HNEXT HFS1 HRS HXA HFQ HF9 HT9 HX9 HFA HXQ HBQ HRD
                go_wp2
                go_roundw
                case rel =>
                  obtain ⟨T', hfl⟩ := HNX.out
                  exact ⟨k + 1, D3, _, r1, a3, c3, R3, r3, r4, T', by omega, by rw [← HMM.out, HMS.out, hqf]; go_num, by go_num, by rw [← HMM.out]; omega, fun _ => by omega, hfl, HDX, by rw [Hid, HF2.out, ← hf3']⟩
                case measure => simp [RowKit.intOf] <;> omega

              · have hb1 : (e2 == 0) = false := by simpa using hc2
                have hb2 : (e2 != 0) = true := by simpa using hc2
                have hfs3 : D2 = (stepsG doP D (fileOps fnm fl)).1 := by rw [HFS1.out]; simp [hc2]
                have hss12 : ∀ k, (((S k ∨ w10.heap.size ≤ k) ∧ k < w11.heap.size) ∨ w11.heap.size ≤ k) ∧ k < w12.heap.size → (S k ∨ w10.heap.size ≤ k) ∧ k < w12.heap.size := fun k hk => ⟨by
                  rcases hk.1 with h | h
                  · exact h.1
                  · exact .inr (by omega), hk.2⟩
                have HNX := Lib.hid (HNEXT.out w12 D2 _ HD12.out hss12 HC12.out hfs3)
                have HDX : Hid (D2 = filesG doP ⟨max room 0, [], 0, false⟩ (P.take (k + 1))) := by rw [Hid, HD2.out]; exact hfs3
                clear HNEXT HFS1 HRS HXA HFQ HF9 HT9 HX9 HFA HXQ HBQ HRD
                go_wp2
                go_roundw
                case rel =>
                  obtain ⟨T', hfl⟩ := HNX.out
                  exact ⟨k + 1, D2, _, r1, a3, c3, R3, r3, r4, T', by omega, by rw [← HMM.out, HMS.out, hqf]; go_num, by go_num, by rw [← HMM.out]; omega, fun _ => by omega, hfl, HDX, by rw [Hid, HF2.out, ← hf3']⟩
                case measure => simp [RowKit.intOf] <;> omega

            · have hb1 : (e1 == 0) = false := by simpa using hc1
              have hb2 : (e1 != 0) = true := by simpa using hc1
              have hfs3 : D1 = (stepsG doP D (fileOps fnm fl)).1 := by rw [HFS1.out, if_neg hc1]; exact HD1E.out
              have HNX := Lib.hid (HNEXT.out w11 D1 _ HD11.out HSS11.out HC11.out hfs3)
              have HDX : Hid (D1 = filesG doP ⟨max room 0, [], 0, false⟩ (P.take (k + 1))) := by rw [Hid, HD2.out]; exact hfs3
              clear HNEXT HFS1 HRS HXA HFQ HF9 HT9 HX9 HFA HXQ HBQ HRD
              go_wp2
              go_roundw
              case rel =>
                obtain ⟨T', hfl⟩ := HNX.out
                exact ⟨k + 1, D1, _, r1, a3, c3, R3, r3, r4, T', by omega, by rw [← HMM.out, HMS.out, hqf]; go_num, by go_num, by rw [← HMM.out]; omega, fun _ => by omega, hfl, HDX, by rw [Hid, HF2.out, ← hf3']⟩
              case measure => simp [RowKit.intOf] <;> omega

    · obtain rfl : k = P.length := by omega
      rw [List.take_length] at HDG HFG
      obtain ⟨x0, x1, x2, x3⟩ := cells4 HF.out.box
      have hxd := fun (w' : World) (hb : Below wr.heap.size wr w') => cells4 ((hb.block _ (lt_of_heap HF.out.box)).trans HF.out.box)
      have HBD : Below wr.heap.size wr wr.drew := (Below.refl _ _).drew
      obtain ⟨y0, y1, y2, y3⟩ := hxd _ HBD
      have HFD := Lib.hid (HF.out.later HBD)
      obtain ⟨z0, z1, z2, z3⟩ := cells4 HFD.out.res
      obtain ⟨v0, v1, v2, v3⟩ := cells4 HF.out.res
      have e0 := freeAt HF.out.res 0
      have e1 := freeAt HF.out.res 1
      have e2 := freeAt HF.out.res 2
      have e3 := freeAt HF.out.res 3
      have g0 := freeAt HFD.out.res 0
      have g1 := freeAt HFD.out.res 1
      have g2 := freeAt HFD.out.res 2
      have g3 := freeAt HFD.out.res 3
      clear hxd HBD
      go_upto_region 14 with fail
      go_region
      go_wp2
      try simp only [Exit.inBlock, Exit.then]
      have hB := HFD.out.bnd
      exact files_end (wz := wr.drew) HFD.out true (fun _ => ⟨HDG.out, HFG.out, hB.more hmn (by
        rcases Nat.eq_zero_or_pos P.length with h0 | h0
        · omega
        · exact hk30 h0)⟩) rfl rfl rfl
end Go.Proofs.YtgdmdbdljmlkkaaGreatDoor
namespace Go.Proofs.YtgdmdbdljmlkkaaGreatDoor
set_option linter.unusedVariables false
set_option linter.unusedSimpArgs false
open Go.RowKit Go.ChangeShapes Go.WideShapes Go.Deep

theorem fmf_at {α : Type} {f : α → List Value} {k : Nat} (hf : ∀ a, (f a).length = k) (l : List α) (i r : Nat) (hr : r < k) : (l.flatMap f)[i * k + r]? = (l[i]?).bind (fun v => (f v)[r]?) := by
  induction l generalizing i with
  | nil => simp
  | cons a vs ih =>
    have hc : (f a).length = k := hf a
    rw [List.flatMap_cons]
    cases i with
    | zero => rw [Nat.zero_mul, Nat.zero_add, List.getElem?_append_left (by omega)]; rfl
    | succ i => rw [List.getElem?_append_right (by rw [hc, Nat.add_mul]; omega), hc, show (i + 1) * k + r - k = i * k + r by rw [Nat.add_mul]; omega, ih]; rfl

set_option maxRecDepth 100000 in
theorem open_file {H : Type} {enc : TypeId × Value → H} {W : World} {base : Nat} {sp : Nat → Bool} {held : Bool} (fuel : Nat) (cs : List Value) (x : DataW H × List MemPlace)
    (h : DataW.trod enc Tryz.prog W base sp held fuel 120 cs = some x) : ∃ o : FI, cs = ficells o ∧ Reads W (.slice o.a o.l.length o.c) o.l.length 1 (byts o.l) ∧ o.l.length ≤ maxLen ∧ o.n.size ≤ maxLen := by
  obtain ⟨xs, n, rfl, rfl, hl, hlen, hf⟩ := DataW.trod_struct Tryz.underlying120 h
  have hC : Tryz.prog.cellsOf 120 = 3 := by kernel_rfl
  rw [hC] at hl
  match cs, hl with
  | [c0, c1, c2], _ =>
    have hn : ∀ i, i < 3 → ∃ y, xs[i]? = some y := fun i hi => ⟨_, List.getElem?_eq_getElem (by rw [hlen]; exact hi)⟩
    have g0 := hf 0 _ rfl
    have g1 := hf 1 _ rfl
    have g2 := hf 2 _ rfl
    obtain ⟨y0, e0⟩ := hn 0 (by omega)
    obtain ⟨y1, e1⟩ := hn 1 (by omega)
    obtain ⟨y2, e2⟩ := hn 2 (by omega)
    rw [e0] at g0
    rw [e1] at g1
    rw [e2] at g2
    obtain ⟨s, hs, -, ws⟩ := DataW.trod_string Tryz.underlying9 g0
    obtain ⟨b, ba, bc, hb, rb, -, lb⟩ := open_bytes (c := c1) g1
    obtain ⟨m, hm, -, wm⟩ := DataW.trod_int Tryz.underlying3 g2
    have hs' : [c0] = [Value.string s] := hs
    have hm' : [c2] = [Value.int .i64 m] := hm
    cases hs'; cases hm'
    subst hb
    exact ⟨⟨s, ba, b, bc, m⟩, rfl, rb, lb, ws⟩

set_option maxRecDepth 100000 in
theorem open_files {H : Type} {enc : TypeId × Value → H} {W : World} {base b0 : Nat} {sp : Nat → Bool} {held : Bool} {v : Value} {d : DataW H} {p : List MemPlace} (hval : Value.okWide Tryz.prog W .any b0 30 v)
    (h : DataW.Trod enc Tryz.prog W base sp held 30 v d p) (hwt : ∀ n ∈ d.weights Tryz.prog 30, n ≤ 140737488351232) : ∃ (P : List FI) (a : Option Addr) (c : Nat), v = .slice a P.length c ∧ FIs W (.slice a P.length c) P ∧ P.length ≤ 3518437208780 := by
  obtain ⟨a0, len0, cap0, rfl⟩ := okWide_slice Tryz.underlying30 hval
  obtain ⟨fuel, hf⟩ := h
  have hC : Tryz.prog.cellsOf 120 = 3 := by kernel_rfl
  rcases DataW.trod_slice Tryz.underlying30 hf with ⟨h4, -⟩ | ⟨a, len, cap, elems, rest, n', rfl, h4, hx, hb, hlc, hcm, hel, hget, -⟩
  · have h4' : [Value.slice a0 len0 cap0] = [Value.slice none 0 0] := h4
    simp only [List.cons.injEq, Value.slice.injEq, and_true] at h4'
    obtain ⟨rfl, rfl, rfl⟩ := h4'
    exact ⟨[], none, 0, rfl, ⟨Reads.nil _ _, by simp, by simp⟩, Nat.zero_le _⟩
  · have h4' : [Value.slice a0 len0 cap0] = [Value.slice (some a) len cap] := h4
    simp only [List.cons.injEq, Value.slice.injEq, and_true] at h4'
    obtain ⟨rfl, rfl, rfl⟩ := h4'
    obtain ⟨hd, -⟩ := Prod.mk.inj hx
    subst hd
    have hB : Tryz.prog.bytesOf 120 = 48 := by kernel_rfl
    have hwu : (DataW.slice (elems.map (·.1)) (rest.map (·.1))).weights Tryz.prog 30 = ((elems.map (·.1)).length + (rest.map (·.1)).length) * Tryz.prog.bytesOf 120 :: (DataW.weightsAll Tryz.prog 120 (elems.map (·.1)) ++ DataW.weightsAll Tryz.prog 120 (rest.map (·.1))) := by
      rw [DataW.weights, Tryz.underlying30]
    have hw0 : len0 * 48 ≤ 140737488351232 := by
      have := hwt _ (by rw [hwu]; exact List.mem_cons_self ..)
      rw [hB, List.length_map, hel] at this
      omega
    obtain ⟨l, l1, hall⟩ := list_of (p := fun i (o : FI) => (Reads W (.slice o.a o.l.length o.c) o.l.length 1 (byts o.l) ∧ o.l.length ≤ maxLen ∧ o.n.size ≤ maxLen) ∧ ∀ r, r < 3 → W.cell? (a.add (i * 3 + r)) = (ficells o)[r]?) len0 (fun i hi => by
      have := hget i hi
      rw [List.getElem?_eq_getElem (by rw [hel]; exact hi), hC] at this
      obtain ⟨cs', h1, h2⟩ := Option.bind_eq_some_iff.1 this
      obtain ⟨o, hcs, ht⟩ := open_file n' cs' _ h2
      obtain ⟨_, _, hcell⟩ := World.cells?_some h1
      refine ⟨o, ht, fun r hr => ?_⟩
      rw [← add_add, hcell r hr, hcs])
    subst l1
    refine ⟨l, some a, cap0, rfl, ⟨⟨by rw [fm_length ficells_len], some a, cap0, rfl, hlc, (fun h => by cases h), fun ad had j u hu => ?_⟩, fun o ho => ?_, fun o ho => ?_⟩, by omega⟩
    · cases had
      have hj : j = (j / 3) * 3 + j % 3 := by omega
      have hr : j % 3 < 3 := Nat.mod_lt _ (by decide)
      rw [hj, fmf_at ficells_len _ _ _ hr] at hu
      obtain ⟨v, hv1, hv2⟩ := Option.bind_eq_some_iff.1 hu
      obtain ⟨hv3, hv4⟩ := List.getElem?_eq_some_iff.1 hv1
      have := (hall (j / 3) hv3).2 (j % 3) hr
      rw [hv4] at this
      rw [hj, this]; exact hv2
    · obtain ⟨i, hi, rfl⟩ := List.mem_iff_getElem.1 ho
      exact (hall i hi).1.1
    · obtain ⟨i, hi, rfl⟩ := List.mem_iff_getElem.1 ho
      have h1 := (hall i hi).1.2
      unfold maxLen at h1
      exact ⟨by have := h1.2; omega, by have := h1.1; omega⟩
end Go.Proofs.YtgdmdbdljmlkkaaGreatDoor
namespace Go.Proofs.YtgdmdbdljmlkkaaGreatDoor
set_option linter.unusedVariables false
open Go.ChangeShapes Go.WideShapes Go.RowKit

set_option maxRecDepth 100000 in
theorem open_two_int {H : Type} {enc : TypeId × Value → H} {W : World} {base b0 : Nat} {sp : Nat → Bool} {held : Bool} {v : Value} {d : DataW H} {p : List MemPlace} (hval : Value.okWide Tryz.prog W .any b0 46 v)
    (h : DataW.Trod enc Tryz.prog W base sp held 46 v d p) :
    ∃ a b : Int, v = .agg #[.int .i64 a, .int .i64 b] ∧ (Lit.int .i64 a).wf = true ∧ (Lit.int .i64 b).wf = true := by
  obtain ⟨cs, rfl, hcs⟩ : ∃ cs, v = .agg cs ∧ cs.size = Tryz.prog.cellsOf 46 := by
    simp only [Value.okWide, Tryz.underlying46] at hval
    obtain ⟨cs, h1, h2, _⟩ := hval
    exact ⟨cs, h1, h2⟩
  have hC : Tryz.prog.cellsOf 46 = 2 := by kernel_rfl
  have hC1 : Tryz.prog.cellsOf 3 = 1 := by kernel_rfl
  rw [hC] at hcs
  obtain ⟨c0, c1, rfl⟩ : ∃ c0 c1, cs = #[c0, c1] := by
    obtain ⟨l⟩ := cs
    match l, hcs with
    | [c0, c1], _ => exact ⟨c0, c1, rfl⟩
  obtain ⟨fuel, hf⟩ := h
  obtain ⟨xs, m, rfl, hx, -, hlen, hget⟩ := DataW.trod_array Tryz.underlying46 hf
  have g0 := hget 0 (by omega)
  have g1 := hget 1 (by omega)
  rw [hC1] at g0 g1
  match xs, hlen, g0, g1 with
  | [(d0, p0), (d1, p1)], _, g0, g1 =>
    obtain ⟨a, h0, -, w0⟩ := DataW.trod_int Tryz.underlying3 (show DataW.trod enc Tryz.prog W base sp held m 3 [c0] = some (d0, p0) from g0)
    obtain ⟨b, h1, -, w1⟩ := DataW.trod_int Tryz.underlying3 (show DataW.trod enc Tryz.prog W base sp held m 3 [c1] = some (d1, p1) from g1)
    simp only [List.cons.injEq, and_true] at h0 h1
    exact ⟨a, b, by rw [h0, h1], w0, w1⟩

set_option maxRecDepth 100000 in
theorem open_two_u8 {H : Type} {enc : TypeId × Value → H} {W : World} {base b0 : Nat} {sp : Nat → Bool} {held : Bool} {v : Value} {d : DataW H} {p : List MemPlace} (hval : Value.okWide Tryz.prog W .any b0 69 v)
    (h : DataW.Trod enc Tryz.prog W base sp held 69 v d p) :
    ∃ a b : Int, v = .agg #[.int .u8 a, .int .u8 b] ∧ (Lit.int .u8 a).wf = true ∧ (Lit.int .u8 b).wf = true := by
  obtain ⟨cs, rfl, hcs⟩ : ∃ cs, v = .agg cs ∧ cs.size = Tryz.prog.cellsOf 69 := by
    simp only [Value.okWide, Tryz.underlying69] at hval
    obtain ⟨cs, h1, h2, _⟩ := hval
    exact ⟨cs, h1, h2⟩
  have hC : Tryz.prog.cellsOf 69 = 2 := by kernel_rfl
  have hC1 : Tryz.prog.cellsOf 5 = 1 := by kernel_rfl
  rw [hC] at hcs
  obtain ⟨c0, c1, rfl⟩ : ∃ c0 c1, cs = #[c0, c1] := by
    obtain ⟨l⟩ := cs
    match l, hcs with
    | [c0, c1], _ => exact ⟨c0, c1, rfl⟩
  obtain ⟨fuel, hf⟩ := h
  obtain ⟨xs, m, rfl, hx, -, hlen, hget⟩ := DataW.trod_array Tryz.underlying69 hf
  have g0 := hget 0 (by omega)
  have g1 := hget 1 (by omega)
  rw [hC1] at g0 g1
  match xs, hlen, g0, g1 with
  | [(d0, p0), (d1, p1)], _, g0, g1 =>
    obtain ⟨a, h0, -, w0⟩ := DataW.trod_int Tryz.underlying5 (show DataW.trod enc Tryz.prog W base sp held m 5 [c0] = some (d0, p0) from g0)
    obtain ⟨b, h1, -, w1⟩ := DataW.trod_int Tryz.underlying5 (show DataW.trod enc Tryz.prog W base sp held m 5 [c1] = some (d1, p1) from g1)
    simp only [List.cons.injEq, and_true] at h0 h1
    exact ⟨a, b, by rw [h0, h1], w0, w1⟩
end Go.Proofs.YtgdmdbdljmlkkaaGreatDoor
