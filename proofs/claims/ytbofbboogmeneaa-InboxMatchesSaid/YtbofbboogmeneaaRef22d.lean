/- The reference of an inbox: all names. -/
import Derived.Test.YtbofbboogmeneaaRef22c
namespace Go.Proofs.Ytbofbboogmeneaa
set_option linter.unusedVariables false
set_option linter.unusedSimpArgs false
open Go.RowKit

theorem mk_toList (b : ByteArray) : (⟨b.toList.toArray⟩ : ByteArray) = b := ba_toList2 (toList_mk b.toList)

theorem rinsert_b (lv : Value) (ss : List Str) (sb : ByteArray) (B : Nat) (w : World) (h0 : Row w 9 1 lv ss.length (strV ss) (fun k => B ≤ k)) (hB0 : B ≤ w.heap.size) (hL : ss.length ≤ 1000) :
    Calls Try.prog 53 #[lv, .string sb] w fun e w' => ∃ v, e = .returned v ∧ Row w' 9 1 v (insS ss sb.toList).length (strV (insS ss sb.toList)) (fun k => B ≤ k) ∧ Below w.heap.size w w' := by
  have := rinsert_any lv ss sb.toList B w h0 hB0 hL
  rwa [mk_toList] at this

/-- Names, put into a sorted list one by one. -/
def addN (ss : List Str) (l : List ByteArray) : List Str := l.foldl (fun a n => insS a n.toList) ss
theorem addN_len (l : List ByteArray) : ∀ ss : List Str, (addN ss l).length ≤ ss.length + l.length := by
  induction l with
  | nil => intro ss; exact Nat.le_refl _
  | cons a l ih => intro ss; have h1 := ih (insS ss a.toList); have h2 := insS_len ss a.toList; show (addN (insS ss a.toList) l).length ≤ _; simp only [List.length_cons]; omega
theorem addN_sorted (l : List ByteArray) : ∀ ss : List Str, ss.Pairwise (· < ·) → (addN ss l).Pairwise (· < ·) := by
  induction l with
  | nil => intro ss h; exact h
  | cons a l ih => intro ss h; exact ih _ (insS_sorted ss a.toList h)
theorem addN_mem (l : List ByteArray) : ∀ (ss : List Str) (x : Str), x ∈ addN ss l ↔ x ∈ ss ∨ ∃ n ∈ l, n.toList = x := by
  induction l with
  | nil => intro ss x; simp [addN]
  | cons a l ih =>
    intro ss x
    show x ∈ addN (insS ss a.toList) l ↔ _
    rw [ih, insS_mem]
    constructor
    · rintro ((h | h) | ⟨n, h1, h2⟩)
      · exact .inl h
      · exact .inr ⟨a, List.mem_cons_self, h.symm⟩
      · exact .inr ⟨n, List.mem_cons_of_mem _ h1, h2⟩
    · rintro (h | ⟨n, h1, h2⟩)
      · exact .inl (.inl h)
      · rcases List.mem_cons.1 h1 with e | e
        · exact .inl (.inr (by rw [← h2, e]))
        · exact .inr ⟨n, e, h2⟩
theorem addN_snoc (ss : List Str) (l : List ByteArray) (n : ByteArray) : addN ss (l ++ [n]) = insS (addN ss l) n.toList := by
  unfold addN; rw [List.foldl_append]; rfl
theorem addN_take {α : Type} (ss : List Str) (l : List α) (f : α → ByteArray) (m : Nat) (hm : m < l.length) : addN ss ((l.take (m + 1)).map f) = insS (addN ss ((l.take m).map f)) (f l[m]).toList := by
  rw [List.take_succ_eq_append_getElem hm, List.map_append]
  exact addN_snoc _ _ _

def namesOf (L : List (ByteArray × VV)) (Ws : List (ByteArray × Nat)) : List Str := addN (addN [] (L.map (·.1))) (Ws.map (·.1))

set_option maxRecDepth 100000 in
set_option maxHeartbeats 1000000 in
theorem rnames_any (lv wv : Value) (L : List (ByteArray × VV)) (Ws : List (ByteArray × Nat)) (R : Nat → Prop) (w : World) (h : LRow w lv L R) (h' : WRow w wv Ws R) (hL : L.length ≤ 300) (hWs : Ws.length ≤ 300) :
    Calls Try.prog 27 #[.agg #[lv, wv]] w fun e w' => ∃ v, e = .returned v ∧ Reads w' v (namesOf L Ws).length 1 (strV (namesOf L Ws)) ∧ Below w.heap.size w w' := by
  obtain ⟨la, lc, rfl⟩ := slice_form h
  obtain ⟨wa, wc, rfl⟩ := slice_form h'
  have H := Lib.hid h
  have H' := Lib.hid h'
  clear h h'
  have HBX : Hid ((w.alloc (.cells #[.slice la L.length lc, .slice wa Ws.length wc] 53)).heap[w.heap.size]? = some (.cells #[.slice la L.length lc, .slice wa Ws.length wc] 53 (0, 0))) := heap_alloc_new w _
  have HBel : Hid (Below w.heap.size w (w.alloc (.cells #[.slice la L.length lc, .slice wa Ws.length wc] 53))) := (Below.refl _ _).alloc (Nat.le_refl _) _
  have HSZ : Hid (w.heap.size + 1 ≤ (w.alloc (.cells #[.slice la L.length lc, .slice wa Ws.length wc] 53)).heap.size) := by simp [Hid]
  have HL1 : Hid (∀ m, m ≤ L.length → (addN [] ((L.take m).map (·.1))).length ≤ 300) := fun m hm => by
    have := addN_len ((L.take m).map (·.1)) []
    simp only [List.length_map, List.length_take, List.length_nil] at this
    omega
  have HL2 : Hid (∀ m, m ≤ Ws.length → (addN (addN [] (L.map (·.1))) ((Ws.take m).map (·.1))).length ≤ 600) := fun m hm => by
    have h1 := addN_len ((Ws.take m).map (·.1)) (addN [] (L.map (·.1)))
    have h2 := addN_len (L.map (·.1)) []
    simp only [List.length_map, List.length_take, List.length_nil] at h1 h2
    omega
  go_enter Try.func27, Try.ntmps27
  go_wp2
  generalize w.alloc (.cells #[.slice la L.length lc, .slice wa Ws.length wc] 53) = wd at *
  go_loopw [3, 4] (fun out i w' => ∃ m : Nat, m ≤ L.length ∧ i = .int .i64 m ∧ Hid (Row w' 9 1 out (addN [] ((L.take m).map (·.1))).length (strV (addN [] ((L.take m).map (·.1)))) (fun b => w.heap.size + 1 ≤ b)) ∧ Hid (Below (w.heap.size + 1) wd w')) (fun _ i _ => L.length - (RowKit.intOf i).toNat)
  case atStart => exact ⟨0, by omega, rfl, Row.nil _ _ _ _, Below.refl _ _⟩
  case round =>
    obtain ⟨m, hm, rfl, HROW, HB2⟩ := hrel
    have HBX2 := Lib.hid ((HB2.out.block _ (by omega)).trans HBX.out)
    have HBW := Lib.hid (HBel.out.trans (HB2.out.mono (by omega)))
    have hx0 := (cells2 HBX2.out).1
    have hx1 := (cells2 HBX2.out).2
    obtain ⟨oa, oc, rfl⟩ := slice_form HROW.out
    by_cases hlt : m < L.length
    · obtain ⟨b, o, c, he, hcap, hb, hcell⟩ := LRow.cells (H.out.frame (w' := wr) (fun k _ hk => HBW.out.block k hk)) (by omega)
      obtain ⟨rfl, rfl⟩ : la = some ⟨b, o, none⟩ ∧ lc = c := by cases he; exact ⟨rfl, rfl⟩
      have hc0 := (hcell m hlt).1
      have HT := Lib.hid (addN_take [] L (·.1) m hlt)
      have HLE := Lib.hid (HL1.out m hm)
      clear hcell he
      generalize addN [] ((L.take m).map (·.1)) = ss at *
      generalize L[m].1 = key at *
      go_wp2_with fail
      refine (rinsert_b _ ss key (w.heap.size + 1) _ HROW.out (by have := HB2.out.size; have := HSZ.out; omega) (by have := HLE.out; omega)).mono ?_
      rintro e w2 ⟨v, rfl, hr, hb2⟩
      have HR2 := Lib.hid hr
      have HB3 := Lib.hid (HB2.out.trans (hb2.mono (by have := HB2.out.size; have := HSZ.out; omega)))
      clear hr hb2
      go_wp2_with fail
      go_roundw
      case rel => exact ⟨m + 1, by omega, by go_num, by rw [HT.out]; exact HR2.out, HB3.out⟩
      case measure => simp [RowKit.intOf]; omega
    · obtain rfl : m = L.length := by omega
      rw [List.take_length] at HROW ⊢
      go_wp2_with fail
      go_loopw [3, 5] (fun out i w' => ∃ m : Nat, m ≤ Ws.length ∧ i = .int .i64 m ∧ Hid (Row w' 9 1 out (addN (addN [] (L.map (·.1))) ((Ws.take m).map (·.1))).length (strV (addN (addN [] (L.map (·.1))) ((Ws.take m).map (·.1)))) (fun b => w.heap.size + 1 ≤ b)) ∧ Hid (Below (w.heap.size + 1) wd w')) (fun _ i _ => Ws.length - (RowKit.intOf i).toNat)
      case atStart => exact ⟨0, by omega, rfl, HROW.out, HB2.out⟩
      case round =>
        clear HROW HB2 HBX2 HBW hx0 hx1
        obtain ⟨m, hm, rfl, HROW, HB2⟩ := hrel
        have HBX2 := Lib.hid ((HB2.out.block _ (by omega)).trans HBX.out)
        have HBW := Lib.hid (HBel.out.trans (HB2.out.mono (by omega)))
        have hx1 := (cells2 HBX2.out).2
        obtain ⟨oa, oc, rfl⟩ := slice_form HROW.out
        by_cases hlt : m < Ws.length
        · obtain ⟨b, o, c, he, hcap, hb, hcell⟩ := WRow.cells (H'.out.frame (w' := wr) (fun k _ hk => HBW.out.block k hk)) (by omega)
          obtain ⟨rfl, rfl⟩ : wa = some ⟨b, o, none⟩ ∧ wc = c := by cases he; exact ⟨rfl, rfl⟩
          have hc0 := (hcell m hlt).1
          have HT := Lib.hid (addN_take (addN [] (L.map (·.1))) Ws (·.1) m hlt)
          have HLE := Lib.hid (HL2.out m hm)
          clear hcell he
          generalize addN (addN [] (L.map (·.1))) ((Ws.take m).map (·.1)) = ss at *
          generalize Ws[m].1 = key at *
          go_wp2_with fail
          refine (rinsert_b _ ss key (w.heap.size + 1) _ HROW.out (by have := HB2.out.size; have := HSZ.out; omega) (by have := HLE.out; omega)).mono ?_
          rintro e w2 ⟨v, rfl, hr, hb2⟩
          have HR2 := Lib.hid hr
          have HB3 := Lib.hid (HB2.out.trans (hb2.mono (by have := HB2.out.size; have := HSZ.out; omega)))
          clear hr hb2
          go_wp2_with fail
          go_roundw
          case rel => exact ⟨m + 1, by omega, by go_num, by rw [HT.out]; exact HR2.out, HB3.out⟩
          case measure => simp [RowKit.intOf]; omega
        · obtain rfl : m = Ws.length := by omega
          have HRR := Lib.hid HROW.out.reads
          clear HROW
          rw [List.take_length] at HRR ⊢
          go_wp2_with fail
          go_ret
          exact ⟨_, rfl, HRR.out, HBW.out⟩
end Go.Proofs.Ytbofbboogmeneaa
