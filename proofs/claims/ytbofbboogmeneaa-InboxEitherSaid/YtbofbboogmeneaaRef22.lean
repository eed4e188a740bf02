/- The reference of an inbox: two lists. -/
import Derived.Test.YtbofbboogmeneaaRows2
import Derived.Test.YtbofbboogmeneaaVV
import Derived.Test.YtbofbboogmeneaaQueue
import Derived.Deep.RegionLaw
import Derived.Deep.RegionHeld3
import Derived.StillTailTactics
namespace Go.Proofs.Ytbofbboogmeneaa
set_option linter.unusedVariables false
set_option linter.unusedSimpArgs false
open Go.RowKit

abbrev lcells (x : ByteArray × VV) : List Value := .string x.1 :: x.2.cells
abbrev wcells (x : ByteArray × Nat) : List Value := [.string x.1, .int .u64 x.2]
theorem lcells_len (x : ByteArray × VV) : (lcells x).length = 6 := rfl
theorem wcells_len (x : ByteArray × Nat) : (wcells x).length = 2 := rfl
theorem lcells_one (l : List (ByteArray × VV)) : ∀ u ∈ l.flatMap lcells, u.oneCell' = true := by
  intro u hu
  obtain ⟨x, -, hx⟩ := List.mem_flatMap.1 hu
  rcases List.mem_cons.1 hx with rfl | hx
  · rfl
  · exact x.2.one u hx
theorem wcells_one (l : List (ByteArray × Nat)) : ∀ u ∈ l.flatMap wcells, u.oneCell' = true := by
  intro u hu
  obtain ⟨x, -, hx⟩ := List.mem_flatMap.1 hu
  simp only [wcells, List.mem_cons, List.not_mem_nil, or_false] at hx
  rcases hx with rfl | rfl <;> rfl
theorem elemL : ElemOf Try.prog 50 102 (.agg #[.string ⟨#[]⟩, .int .i64 0, .int .i64 0, .float .f64 0, .string ⟨#[]⟩, .slice none 0 0]) 6 80 := ⟨Try.underlying50, by kernel_rfl, rfl, by decide⟩
theorem elemW : ElemOf Try.prog 51 104 (.agg #[.string ⟨#[]⟩, .int .u64 0]) 2 24 := ⟨Try.underlying51, by kernel_rfl, rfl, by decide⟩

/-- The two lists of the reference in memory. -/
abbrev LRow (w : World) (lv : Value) (L : List (ByteArray × VV)) (R : Nat → Prop) : Prop := Row w 102 6 lv L.length (L.flatMap lcells) R
abbrev WRow (w : World) (wv : Value) (Ws : List (ByteArray × Nat)) (R : Nat → Prop) : Prop := Row w 104 2 wv Ws.length (Ws.flatMap wcells) R

theorem WRow.cells {w : World} {wv : Value} {Ws : List (ByteArray × Nat)} {R : Nat → Prop} (h : WRow w wv Ws R) (hn : 0 < Ws.length) :
    ∃ b o c, wv = .slice (some ⟨b, o, none⟩) Ws.length c ∧ Ws.length ≤ c ∧ b < w.heap.size ∧ ∀ j (hj : j < Ws.length), w.cell? ⟨b, o + j * 2, none⟩ = some (.string Ws[j].1) ∧ w.cell? ⟨b, o + j * 2 + 1, none⟩ = some (.int .u64 Ws[j].2) := by
  have hr := h.reads
  obtain ⟨-, ao, c, rfl, -⟩ := id hr
  obtain ⟨b, o, rfl, h1, -, h2, h3⟩ := hr.atN hn (by decide)
  refine ⟨b, o, c, rfl, h1, h2, fun j hj => ⟨?_, ?_⟩⟩
  · exact h3 (j * 2) _ (by simpa using fm_get wcells_len (List.getElem?_eq_getElem hj) 0 _ rfl)
  · rw [Nat.add_assoc]; exact h3 (j * 2 + 1) _ (fm_get wcells_len (List.getElem?_eq_getElem hj) 1 _ rfl)

theorem LRow.cells {w : World} {lv : Value} {L : List (ByteArray × VV)} {R : Nat → Prop} (h : LRow w lv L R) (hn : 0 < L.length) :
    ∃ b o c, lv = .slice (some ⟨b, o, none⟩) L.length c ∧ L.length ≤ c ∧ b < w.heap.size ∧ ∀ j (hj : j < L.length), w.cell? ⟨b, o + j * 6, none⟩ = some (.string L[j].1) ∧ w.cell? ⟨b, o + j * 6 + 1, none⟩ = some (.int .i64 L[j].2.k) ∧
      w.cell? ⟨b, o + j * 6 + 2, none⟩ = some (.int .i64 L[j].2.n) ∧ w.cell? ⟨b, o + j * 6 + 3, none⟩ = some (.float .f64 L[j].2.f) ∧ w.cell? ⟨b, o + j * 6 + 4, none⟩ = some (.string L[j].2.s) ∧ w.cell? ⟨b, o + j * 6 + 5, none⟩ = some (.slice L[j].2.a L[j].2.l L[j].2.c) := by
  have hr := h.reads
  obtain ⟨-, ao, c, rfl, -⟩ := id hr
  obtain ⟨b, o, rfl, h1, -, h2, h3⟩ := hr.atN hn (by decide)
  refine ⟨b, o, c, rfl, h1, h2, fun j hj => ⟨?_, ?_, ?_, ?_, ?_, ?_⟩⟩
  · exact h3 (j * 6) _ (by simpa using fm_get lcells_len (List.getElem?_eq_getElem hj) 0 _ rfl)
  · rw [Nat.add_assoc]; exact h3 (j * 6 + 1) _ (fm_get lcells_len (List.getElem?_eq_getElem hj) 1 _ rfl)
  · rw [Nat.add_assoc]; exact h3 (j * 6 + 2) _ (fm_get lcells_len (List.getElem?_eq_getElem hj) 2 _ rfl)
  · rw [Nat.add_assoc]; exact h3 (j * 6 + 3) _ (fm_get lcells_len (List.getElem?_eq_getElem hj) 3 _ rfl)
  · rw [Nat.add_assoc]; exact h3 (j * 6 + 4) _ (fm_get lcells_len (List.getElem?_eq_getElem hj) 4 _ rfl)
  · rw [Nat.add_assoc]; exact h3 (j * 6 + 5) _ (fm_get lcells_len (List.getElem?_eq_getElem hj) 5 _ rfl)

theorem slice_form {w : World} {e : TypeId} {size : Nat} {v : Value} {n : Nat} {xs : List Value} {R : Nat → Prop} (h : Row w e size v n xs R) : ∃ a c, v = .slice a n c := by
  obtain ⟨-, a, c, h, -⟩ := h.reads; exact ⟨a, c, h⟩

theorem cells2 {w : World} {b : Nat} {x0 x1 : Value} {t : TypeId} {fr : Nat × Nat} (h : w.heap[b]? = some (.cells #[x0, x1] t fr)) : w.cell? ⟨b, 0, none⟩ = some x0 ∧ w.cell? ⟨b, 1, none⟩ = some x1 :=
  ⟨cellAt h 0 rfl, cellAt h 1 rfl⟩

set_option maxRecDepth 100000 in
set_option maxHeartbeats 1000000 in
/-- How many values have a name. -/
theorem rcount_any (lv wv : Value) (L : List (ByteArray × VV)) (R : Nat → Prop) (name : ByteArray) (w : World) (h : LRow w lv L R) (hL : L.length ≤ 1000) (hw : ∃ a n c, wv = .slice a n c) :
    Calls Try.prog 50 #[.agg #[lv, wv], .string name] w fun e w' => e = .returned (.int .i64 (L.filter (fun x => decide (x.1 = name))).length) ∧ Below w.heap.size w w' := by
  obtain ⟨wa, wn, wc, rfl⟩ := hw
  obtain ⟨la, lc, rfl⟩ := slice_form h
  have H := Lib.hid h
  clear h
  have HBX : Hid ((w.alloc (.cells #[.slice la L.length lc, .slice wa wn wc] 53)).heap[w.heap.size]? = some (.cells #[.slice la L.length lc, .slice wa wn wc] 53 (0, 0))) := heap_alloc_new w _
  have HBel : Hid (Below w.heap.size w (w.alloc (.cells #[.slice la L.length lc, .slice wa wn wc] 53))) := (Below.refl _ _).alloc (Nat.le_refl _) _
  have HF : Hid (∀ m, m ≤ L.length → ((L.take m).filter (fun x => decide (x.1 = name))).length ≤ m) := fun m hm => Nat.le_trans (List.length_filter_le _ _) (by rw [List.length_take]; omega)
  go_enter Try.func50, Try.ntmps50
  go_wp2
  generalize w.alloc (.cells #[.slice la L.length lc, .slice wa wn wc] 53) = wd at *
  go_loop [5, 6] (fun n i => ∃ m : Nat, m ≤ L.length ∧ i = .int .i64 m ∧ n = .int .i64 ((L.take m).filter (fun x => decide (x.1 = name))).length) (fun _ i => L.length - (RowKit.intOf i).toNat)
  case atStart => exact ⟨0, by omega, rfl, rfl⟩
  case round =>
    obtain ⟨m, hm, rfl, rfl⟩ := hrel
    have hx0 := (cells2 HBX.out).1
    by_cases hlt : m < L.length
    · obtain ⟨b, o, c, he, hcap, hb, hcell⟩ := LRow.cells (H.out.frame (w' := wd) (fun k _ hk => HBel.out.block k hk)) (by omega)
      obtain ⟨rfl, rfl⟩ : la = some ⟨b, o, none⟩ ∧ lc = c := by cases he; exact ⟨rfl, rfl⟩
      have hc := (hcell m hlt).1
      have hle := HF.out m hm
      have HTK : Hid (((L.take (m + 1)).filter (fun x => decide (x.1 = name))).length = ((L.take m).filter (fun x => decide (x.1 = name))).length + if L[m].1 = name then 1 else 0) := by
        rw [Hid, List.take_succ_eq_append_getElem hlt, List.filter_append, List.length_append]
        congr 1
        by_cases hk : L[m].1 = name <;> simp [List.filter_cons, hk]
      clear hcell he
      generalize ((L.take m).filter (fun x => decide (x.1 = name))).length = q at *
      generalize L[m].1 = key at *
      by_cases hk : key = name
      · subst hk
        go_wp2
        go_round
        case rel => exact ⟨m + 1, by omega, by go_num, by rw [HTK.out, if_pos rfl]; go_num⟩
        case measure => simp [RowKit.intOf]; omega
      · have hne : ¬ key.toList = name.toList := fun e => hk (by
          have h2 := ba_beq key name
          rw [beq_toListBytes, e] at h2
          simpa using h2)
        have hne2 : (key.toList == name.toList) = false := by simpa using hne
        have HK := Lib.hid hk
        clear hk
        go_wp2
        go_round
        case rel => exact ⟨m + 1, by omega, by go_num, by rw [HTK.out, if_neg HK.out]; go_num⟩
        case measure => simp [RowKit.intOf]; omega
    · obtain rfl : m = L.length := by omega
      have HT : Hid (L.take L.length = L) := List.take_length
      go_wp2
      go_ret
      exact ⟨rfl, HBel.out⟩
end Go.Proofs.Ytbofbboogmeneaa
