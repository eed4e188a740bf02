/- (*Disk).Used: the sum over the files, in whatever order. -/
import Derived.Test.YtjhhmljebflanaaDoorDisk
namespace Go.Proofs.YtjhhmljebflanaaDoor
set_option linter.unusedVariables false
set_option linter.unusedSimpArgs false
open Go.RowKit

def sumD (l : List DF) : Nat := (l.map fun f => f.b.length).sum
def lenAt (w : World) (v : Value) : Nat := match v with
  | .pointer (some a) => match w.cell? a with
    | some (.slice _ n _) => n
    | _ => 0
  | _ => 0

theorem get_of_mem {κ : Type} [DecidableEq κ] {l : List (κ × Value)} (hn : (l.map (·.1)).Nodup) {p : κ × Value} (h : p ∈ l) : get l p.1 = some p.2 := by
  induction l with
  | nil => cases h
  | cons a l ih =>
    rw [List.map_cons, List.nodup_cons] at hn
    rw [get]
    rcases List.mem_cons.1 h with rfl | h
    · rw [if_pos rfl]
    · rw [if_neg (fun e => hn.1 (by rw [← e]; exact List.mem_map.2 ⟨p, h, rfl⟩))]
      exact ih hn.2 h
theorem sum_perm {l m : List Nat} (h : l.Perm m) : l.sum = m.sum := by
  induction h with
  | nil => rfl
  | cons _ _ ih => simp [ih]
  | swap => simp; omega
  | trans _ _ h1 h2 => exact h1.trans h2

theorem FRep.len {w : World} {bf : Nat} {b : List UInt8} {d : Nat} {S : Nat → Prop} (h : FRep w bf b d S) : lenAt w (.pointer (some ⟨bf, 0, none⟩)) = b.length := by
  obtain ⟨a, c, T, h1, -⟩ := h
  have := cellAt h1 0 (v := .slice a b.length c) rfl
  simp only [lenAt, this]

theorem entries_sum {w : World} {D : DS} {S : Nat → Prop} {bx bm : Nat} {col : Nat → Option ByteArray} {pv : ByteArray → Nat} (h : DAt w D S bx bm col pv) {es : List MapEntry} {l : List (ByteArray × Value)}
    (hl : es.map (fun e => (e.key, e.val)) = l.map fun p => (Value.string p.1, p.2)) (hn : (l.map (·.1)).Nodup) (hF : ∀ k, get l k = fmap D.files pv k) :
    (es.map fun e => lenAt w e.val).sum = sumD D.files ∧ ∀ e ∈ es, ∃ n f, findD D.files n = some f ∧ e.key = .string n ∧ e.val = .pointer (some ⟨pv n, 0, none⟩) := by
  have hp : ∀ p ∈ l, ∃ f, findD D.files p.1 = some f ∧ p.2 = .pointer (some ⟨pv p.1, 0, none⟩) := by
    intro p hp
    have h1 := get_of_mem hn hp
    rw [hF] at h1
    unfold fmap at h1
    cases hf : findD D.files p.1 with
    | none => rw [hf] at h1; cases h1
    | some f => rw [hf] at h1; exact ⟨f, rfl, (Option.some.inj h1).symm⟩
  constructor
  · have e1 : (es.map fun e => lenAt w e.val) = l.map fun p => lenAt w p.2 := by
      have := congrArg (List.map fun q : Value × Value => lenAt w q.2) hl
      simpa [List.map_map, Function.comp_def] using this
    have e2 : (l.map fun p => lenAt w p.2) = (l.map (·.1)).map fun n => match findD D.files n with | some f => f.b.length | none => 0 := by
      rw [List.map_map]
      refine List.map_congr_left (fun p hm => ?_)
      obtain ⟨f, hf, hv⟩ := hp p hm
      have hfr := h.fl f (findD_name hf).2
      rw [(findD_name hf).1] at hfr
      simp only [Function.comp, hf, hv, hfr.len]
    have hperm : (l.map (·.1)).Perm (D.files.map DF.name) := by
      rw [List.perm_ext_iff_of_nodup hn h.nd]
      intro k
      have h1 := get_mem l k
      have h2 := findD_none (l := D.files) (n := k)
      have h3 : get l k = none ↔ findD D.files k = none := by rw [hF]; unfold fmap; simp
      rw [h1, h2] at h3
      exact ⟨fun a => Classical.byContradiction (fun b => h3.2 b a), fun a => Classical.byContradiction (fun b => h3.1 b a)⟩
    rw [e1, e2, sum_perm (hperm.map _), List.map_map]
    unfold sumD
    congr 1
    refine List.map_congr_left (fun f hm => ?_)
    simp only [Function.comp, findD_mem h.nd hm]
  · intro e he
    have : (e.key, e.val) ∈ es.map (fun e => (e.key, e.val)) := List.mem_map.2 ⟨e, he, rfl⟩
    rw [hl] at this
    obtain ⟨p, hm, hq⟩ := List.mem_map.1 this
    obtain ⟨f, hf, hv⟩ := hp p hm
    have q1 : Value.string p.1 = e.key := congrArg Prod.fst hq
    have q2 : p.2 = e.val := congrArg Prod.snd hq
    exact ⟨p.1, f, hf, q1.symm, q2.symm.trans hv⟩

set_option maxRecDepth 100000 in
set_option maxHeartbeats 1000000 in
theorem used_any (x : Value) (D : DS) (S : Nat → Prop) (w : World) (h : DRep w x D S) (hs : sumD D.files ≤ 1000000000) :
    Calls Tryd.prog 15 #[x] w fun e w' => e = .returned (.int .i64 (sumD D.files)) ∧ Below w.heap.size w w' := by
  obtain ⟨bx, bm, col, pv, rfl, h⟩ := h
  have H := Lib.hid h
  obtain ⟨es, clock, l, hb, hl, hn, hborn, hbn, hF⟩ := h.mp
  have HS := Lib.hid (entries_sum h hl hn hF)
  have HN := Lib.hid hbn
  have HBO := Lib.hid hborn
  have HB := Lib.hid hb
  have hx1 := cellAt h.blk 1 (v := .map (some bm)) rfl
  have hrg := run_range_map (P := Tryd.prog) w 61 _ _ bm es clock Tryd.underlying61 hb
  clear h hl hn hF hbn hborn hb
  go_enter Tryd.func15, Tryd.ntmps15
  go_wp2_with fail
  go_loopw [3] (fun s w' => ∃ (w1 : World) (seen : Array Nat), Hid (Below w.heap.size w w1 ∧ w1.heap = w.heap) ∧ w' = w1.alloc (.mapIter (some bm) clock seen clock) ∧ s = .int .i64 (seenW (lenAt w) es.toList seen : Nat)) (fun _ w' => (leftOf es (w'.iterSeen w.heap.size)).size)
  case atStart => exact ⟨w, #[], ⟨Below.refl _ _, rfl⟩, rfl, by rw [seenW_none]; rfl⟩
  case round =>
    obtain ⟨w1, seen, HA, rfl, rfl⟩ := hrel
    have hsz : w1.heap.size = w.heap.size := by rw [HA.out.2]
    have HB1 : Hid (w1.heap[bm]? = some (.map es clock)) := by rw [Hid, HA.out.2]; exact HB.out
    have law := run_next_map_t (P := Tryd.prog) w1 0 bm clock clock seen es clock HB1.out HBO.out (Nat.le_refl _)
    rw [hsz] at law
    rcases law with ⟨h0, hrun⟩ | ⟨e, he, w2, hal2, hrun⟩
    · have hnx : ∀ ty, (Instr.next (.pointer (some ⟨w.heap.size, 0, none⟩)) false ty).run Tryd.prog (w1.alloc (.mapIter (some bm) clock seen clock)) = _ := fun _ => hrun
      clear HB1
      go_wp2
      go_ret
      rw [seenW_full (lenAt w) seen es.toList (all_seen es seen h0), HS.out.1]
      exact ⟨rfl, HA.out.1.alloc (by rw [HA.out.2]; exact Nat.le_refl _) _⟩
    · have hmem := mem_left he
      obtain ⟨n, f, hf, hkey, hval⟩ := HS.out.2 e hmem.1
      have hfr := H.out.fl f (findD_name hf).2
      rw [(findD_name hf).1] at hfr
      have hlen := hfr.len
      obtain ⟨a, c, T, hfb, -⟩ := hfr
      have hcf := cellAt hfb 0 (v := .slice a f.b.length c) rfl
      have HA2 : Hid (Below w.heap.size w w2 ∧ w2.heap = w.heap) := by
        rcases hal2 with h | h
        · rw [h]; exact HA
        · rw [h]; exact ⟨HA.out.1.drew, HA.out.2⟩
      have hcf1 : w2.cell? ⟨pv n, 0, none⟩ = some (.slice a f.b.length c) := by
        rw [show w2.cell? ⟨pv n, 0, none⟩ = w.cell? ⟨pv n, 0, none⟩ from World.cell?_of_block (by rw [HA2.out.2])]
        exact hcf
      have hpvlt : pv n < w2.heap.size := by
        have := lt_of_heap hfb
        rw [HA2.out.2]; exact this
      have hcf2 : (w2.alloc (.mapIter (some bm) clock (seen.push e.born) clock)).cell? ⟨pv n, 0, none⟩ = some (.slice a f.b.length c) := by
        rw [World.cell?_of_block (Below.heap_alloc _ _ _ hpvlt)]; exact hcf1
      rw [hkey, hval] at hrun
      have hnx : ∀ ty, (Instr.next (.pointer (some ⟨w.heap.size, 0, none⟩)) false ty).run Tryd.prog (w1.alloc (.mapIter (some bm) clock seen clock)) = _ := fun _ => hrun
      have hsz2 : w2.heap.size = w.heap.size := by rw [HA2.out.2]
      have hb2 : w2.heap[bm]? = some (.map es clock) := by rw [HA2.out.2]; exact HB.out
      have hen := run_entry_map (P := Tryd.prog) w2 bm clock seen es clock e hb2 hmem.1 HN.out
      rw [hsz2, hkey, hval] at hen
      have hpush := seenW_push (lenAt w) seen e hmem.2 es.toList HN.out hmem.1
      rw [hval, hlen] at hpush
      have hle := seenW_le (lenAt w) (seen.push e.born) es.toList
      rw [HS.out.1] at hle
      have hw : IntKind.i64.wrap ((seenW (lenAt w) es.toList seen : Nat) + (f.b.length : Int)) = (seenW (lenAt w) es.toList (seen.push e.born) : Nat) := by
        rw [IntWalk.i64_in _ (by omega)]; omega
      have HPU := Lib.hid hpush
      have HLE := Lib.hid hle
      have HSH := Lib.hid (left_shrinks es seen e he)
      have HSZ := Lib.hid hsz
      have HSZ2 := Lib.hid hsz2
      clear hal2 hb2 hcf1 hcf hfb hlen hpush hle hmem hkey hval hf he hsz hsz2 HB1
      go_wp2_with fail
      go_roundw
      case rel => exact ⟨w2, seen.push e.born, HA2, rfl, rfl⟩
      case measure =>
        rw [← HSZ2.out, World.iterSeen_alloc, HSZ2.out, ← HSZ.out, World.iterSeen_alloc]
        exact HSH.out
end Go.Proofs.YtjhhmljebflanaaDoor
