/- One operation on an inbox and on the reference. -/
import Derived.Test.YtbofbboogmeneaaInInv
namespace Go.Proofs.Ytbofbboogmeneaa
set_option linter.unusedVariables false
set_option linter.unusedSimpArgs false
open Go.RowKit

/-- What reads as a tree lies in blocks that there are. -/
theorem TRead.tight {w : World} (t : VT) : ∀ {S : Nat → Prop} {v : VV}, TRead w S t v → TRead w (fun k => S k ∧ k < w.heap.size) t v := by
  induction t using VT.ind with
  | _ k n f s l ih =>
    intro S v h
    rw [TRead] at h ⊢
    obtain ⟨h1, h2, h3, h4, h5, h55, vs, h6, h7, h8⟩ := h
    refine ⟨h1, h2, h3, h4, h5, h55, vs, h6, fun hn ad had => ⟨h7 hn ad had, ?_⟩, TReads.mk h8.length (fun i hi => ?_)⟩
    · obtain ⟨b, o, ha, -, -, hb, -⟩ := h6.at5 (List.length_pos_iff.2 hn)
      rw [ha] at had
      cases had
      exact hb
    · obtain ⟨u, h9, h10⟩ := h8.get i hi
      exact ⟨u, h9, ih _ (List.getElem_mem hi) h10⟩

/-- The rows of the reference, apart from the inbox. -/
structure Rows22 (w0 w : World) (lv wv : Value) (M : List Let) (Ws : List (ByteArray × Nat)) (S R : Nat → Prop) : Prop where
  lrow : LRow w lv (M.map ltr) R
  wrow : WRow w wv Ws R
  low : ∀ k, R k → w0.heap.size ≤ k ∧ k < w.heap.size
  apart : ∀ k, R k → ¬ S k

/-- What is said of the values and of those who wait. -/
structure Good (w00 : World) (M : List Let) (Ws : List (ByteArray × Nat)) : Prop where
  vals : ∀ y ∈ M, TRead w00 (fun _ => True) y.2.1 y.2.2 ∧ costT y.2.1 ≤ 900 ∧ y.1.size ≤ 300
  waits : ∀ y ∈ Ws, y.1.size ≤ 300
  once : (Ws.map (·.2)).Nodup
  either : ∀ n, trOf M n = [] ∨ idsOf Ws n = []

/-- Blocks that were there and belonged to nobody belong to nobody still. -/
def Fresh (n : Nat) (S T R S' T' R' : Nat → Prop) : Prop := ∀ k, k < n → ¬ S k → ¬ T k → ¬ R k → ¬ S' k ∧ ¬ T' k ∧ ¬ R' k

section
variable {w00 w0 w w' : World} {x lv wv : Value} {M : List Let} {Ws : List (ByteArray × Nat)} {V : ByteArray → List VV} {W : Nat → Option ByteArray} {S T R : Nat → Prop}

theorem Inv.rows (h : Inv w00 w0 w x lv wv M Ws V W S T R) : Rows22 w0 w lv wv M Ws S R := ⟨h.lrow, h.wrow, h.low, h.apart⟩
theorem Inv.good (h : Inv w00 w0 w x lv wv M Ws V W S T R) : Good w00 M Ws := ⟨h.vals, h.waits, h.once, h.either⟩
theorem Inv.mk' (hb : TBox w0 w x V (trOf M) (idsOf Ws) W S T) (hr : Rows22 w0 w lv wv M Ws S R) (hg : Good w00 M Ws) (h0 : Below w00.heap.size w00 w0) : Inv w00 w0 w x lv wv M Ws V W S T R :=
  ⟨hb, hr.lrow, hr.wrow, hr.low, hr.apart, h0, hg.vals, hg.waits, hg.once, hg.either⟩

theorem Rows22.after {S' : Nat → Prop} (h : Rows22 w0 w lv wv M Ws S R) (hc : Chg S w w') (hS : ∀ k, S' k → S k ∨ w.heap.size ≤ k) : Rows22 w0 w' lv wv M Ws S' R where
  lrow := h.lrow.frame (fun k hk hl => hc.block k hl (h.apart k hk))
  wrow := h.wrow.frame (fun k hk hl => hc.block k hl (h.apart k hk))
  low := fun k hk => ⟨(h.low k hk).1, Nat.lt_of_lt_of_le (h.low k hk).2 hc.size⟩
  apart := fun k hk hs => by
    rcases hS k hs with h1 | h1
    · exact h.apart k hk h1
    · have := (h.low k hk).2; omega

theorem Rows22.later (h : Rows22 w0 w lv wv M Ws S R) (hb : Below w.heap.size w w') : Rows22 w0 w' lv wv M Ws S R where
  lrow := h.lrow.frame (fun k _ hk => hb.block k hk)
  wrow := h.wrow.frame (fun k _ hk => hb.block k hk)
  low := fun k hk => ⟨(h.low k hk).1, Nat.lt_of_lt_of_le (h.low k hk).2 hb.size⟩
  apart := h.apart

theorem Rows22.other {P : Nat → Prop} (h : Rows22 w0 w lv wv M Ws S R) (hc : Chg P w w') (hP : ∀ k, P k → ¬ R k) : Rows22 w0 w' lv wv M Ws S R where
  lrow := h.lrow.frame (fun k hk hl => hc.block k hl (fun hp => hP k hp hk))
  wrow := h.wrow.frame (fun k hk hl => hc.block k hl (fun hp => hP k hp hk))
  low := fun k hk => ⟨(h.low k hk).1, Nat.lt_of_lt_of_le (h.low k hk).2 hc.size⟩
  apart := h.apart

/-- New rows in new blocks. -/
theorem Rows22.renew {lv' wv' : Value} {M' : List Let} {Ws' : List (ByteArray × Nat)} (h : Rows22 w0 w lv wv M Ws S R) (hS : ∀ k, S k → k < w.heap.size) (hw0 : w0.heap.size ≤ w.heap.size) (hb : Below w.heap.size w w')
    (hl : LRow w' lv' (M'.map ltr) (fun k => R k ∨ w.heap.size ≤ k)) (hw : WRow w' wv' Ws' (fun k => R k ∨ w.heap.size ≤ k)) :
    Rows22 w0 w' lv' wv' M' Ws' S (fun k => (R k ∨ w.heap.size ≤ k) ∧ k < w'.heap.size) where
  lrow := hl.tight
  wrow := hw.tight
  low := fun k hk => ⟨by rcases hk.1 with h1 | h1; exact (h.low k h1).1; omega, hk.2⟩
  apart := fun k hk hs => by
    rcases hk.1 with h1 | h1
    · exact h.apart k h1 hs
    · have := hS k hs; omega

theorem Rows22.slices (h : Rows22 w0 w lv wv M Ws S R) : (∃ a n c, lv = .slice a n c) ∧ ∃ a n c, wv = .slice a n c := by
  obtain ⟨a, c, e⟩ := slice_form h.lrow
  obtain ⟨a', c', e'⟩ := slice_form h.wrow
  exact ⟨⟨a, _, c, e⟩, ⟨a', _, c', e'⟩⟩

/-- What a step of the reference leaves. -/
def RefDone (w00 w0 w1 w2 : World) (x : Value) (V' : ByteArray → List VV) (W' : Nat → Option ByteArray) (S' T' R : Nat → Prop) (Mb : List Let) (Wb : List (ByteArray × Nat)) (lv' wv' : Value) (w3 : World) : Prop :=
  ∃ R', Below w2.heap.size w2 w3 ∧ Inv w00 w0 w3 x lv' wv' Mb Wb V' W' S' T' R' ∧ ∀ k, R' k → R k ∨ w2.heap.size ≤ k

theorem put_step (h : Inv w00 w0 w x lv wv M Ws V W S T R) (name : ByteArray) (t : VT) (v : VV) (hv : TRead w00 (fun _ => True) t v) (hc : costT t ≤ 900) (hn : name.size ≤ 300) (hM : M.length < 200) (hW : Ws.length < 200) :
    Calls Try.prog 15 #[x, .string name, v.val] w fun e w1 => ∃ (a : Nat) (p : Bool) (Mb : List Let) (Wb : List (ByteArray × Nat)) (V' : ByteArray → List VV) (W' : Nat → Option ByteArray) (S' T' : Nat → Prop),
      e = .returned (.tuple #[.int .u64 a, .bool p]) ∧ Chg S w w1 ∧ (∀ k, S' k → S k ∨ w.heap.size ≤ k) ∧ (∀ k, T' k → T k ∨ w.heap.size ≤ k) ∧ Mb.length ≤ M.length + 1 ∧ Wb.length ≤ Ws.length + 1 ∧
      ∀ w2, Below w1.heap.size w1 w2 → Calls Try.prog 47 #[.agg #[lv, wv], .string name, v.val] w2 fun e w3 => ∃ lv' wv', e = .returned (.tuple #[.agg #[lv', wv'], .int .u64 a, .bool p]) ∧ RefDone w00 w0 w1 w2 x V' W' S' T' R Mb Wb lv' wv' w3 := by
  have hrows := h.rows
  have hgood := h.good
  have hslow : ∀ k, S k → k < w.heap.size := fun k hk => (h.box.box.low k hk).2
  rcases first_hit Ws (fun y => decide (y.1 = name)) with hno | ⟨i, hi, hin, hlow⟩
  · have hno' : ∀ j (hj : j < Ws.length), Ws[j].1 ≠ name := fun j hj => by simpa using hno _ (List.getElem_mem hj)
    refine (h.box.keep name (t := t) (v := v) (R := fun k => k < w00.heap.size) ?_ (fun k hk hs => by have := (h.box.box.low k hs).1; have := h.bel.size; omega) (by omega) (idsOf_none hno') (by unfold trOf; rw [List.length_map]; have := List.length_filter_le (fun x : Let => decide (x.1 = name)) M; omega)).mono ?_
    · exact (hv.tight.later h.total).mono (fun k hk => hk.2)
    · rintro e w1 ⟨u, he, S', T', hbox, hS', hT', -, hch⟩
      refine ⟨0, false, M ++ [(name, t, v)], Ws, upd V name (V name ++ [u]), W, S', T', he, hch, hS', hT', by simp, by omega, fun w2 hb2 => ?_⟩
      rw [← trOf_snoc M name t v] at hbox
      have hr2 := (hrows.after hch hS').later hb2
      refine (rput_miss lv wv (M.map ltr) Ws R name v w2 hr2.lrow hr2.wrow (by rw [List.length_map]; omega) (by omega) hno').mono ?_
      rintro e w3 ⟨lv', he3, hl3, hb3⟩
      have hw2 : w0.heap.size ≤ w2.heap.size := Nat.le_trans hbox.box.bel.size hb2.size
      have hl3' : LRow w3 lv' ((M ++ [(name, t, v)]).map ltr) (fun k => R k ∨ w2.heap.size ≤ k) := by
        rw [List.map_append]; exact hl3.mono (fun k hk => .inr hk)
      refine ⟨lv', wv, he3, _, hb3, Inv.mk' ((hbox.later hb2).later hb3) (hr2.renew (fun k hk => Nat.lt_of_lt_of_le (hbox.box.low k hk).2 hb2.size) hw2 hb3 hl3' ((hr2.wrow.frame (fun k _ hk => hb3.block k hk)).mono (fun k hk => .inl hk))) ⟨fun y hy => ?_, hgood.waits, hgood.once, fun n => ?_⟩ h.bel, fun k hk => hk.1⟩
      · rcases List.mem_append.1 hy with h1 | h1
        · exact hgood.vals y h1
        · rw [List.mem_singleton.1 h1]; exact ⟨hv, hc, hn⟩
      · by_cases hnn : n = name
        · subst hnn; exact .inr (idsOf_none hno')
        · rw [trOf_snoc, upd_other _ _ hnn]; exact hgood.either n
  · have hin' : Ws[i].1 = name := by simpa using hin
    have hlow' : ∀ j (hj : j < i), (Ws[j]'(by omega)).1 ≠ name := fun j hj => by simpa using hlow j hj
    obtain ⟨hq1, hq2⟩ := idsOf_hit hi hin' hlow'
    refine (h.box.wake name v hq1).mono ?_
    rintro e w1 ⟨he, S', T', hbox, hS', hT', -, hch⟩
    refine ⟨Ws[i].2, true, M, Ws.eraseIdx i, V, (fun k => if k = Ws[i].2 then none else W k), S', T', he, hch, hS', hT', by omega, by rw [List.length_eraseIdx_of_lt hi]; omega, fun w2 hb2 => ?_⟩
    rw [← hq2] at hbox
    have hr2 := (hrows.after hch hS').later hb2
    refine (rput_hit lv wv Ws R name v w2 hr2.wrow (by omega) hr2.slices.1 i hi hin' hlow').mono ?_
    rintro e w3 ⟨wv', he3, hw3, hb3⟩
    have hw2 : w0.heap.size ≤ w2.heap.size := Nat.le_trans hbox.box.bel.size hb2.size
    refine ⟨lv, wv', he3, _, hb3, Inv.mk' ((hbox.later hb2).later hb3) (hr2.renew (fun k hk => Nat.lt_of_lt_of_le (hbox.box.low k hk).2 hb2.size) hw2 hb3 ((hr2.lrow.frame (fun k _ hk => hb3.block k hk)).mono (fun k hk => .inl hk)) (hw3.mono (fun k hk => .inr hk))) ⟨hgood.vals, fun y hy => hgood.waits y ((List.eraseIdx_sublist _ _).subset hy), nodup_erase hgood.once i, fun n => (hgood.either n).imp_right (idsOf_erase_nil i)⟩ h.bel, fun k hk => hk.1⟩

def zeroVV' : VV := ⟨0, 0, 0, ⟨#[]⟩, none, 0, 0⟩
theorem zero_read (w : World) (S : Nat → Prop) : TRead w S (.node 0 0 0 ⟨#[]⟩ []) zeroVV' := by
  rw [TRead]
  exact ⟨rfl, rfl, rfl, rfl, rfl, Nat.zero_le _, [], Reads.nil _ _, fun h => absurd rfl h, by rw [TReads]⟩

theorem take_step (h : Inv w00 w0 w x lv wv M Ws V W S T R) (name : ByteArray) (id : Nat) (hn : name.size ≤ 300) (hM : M.length < 200) (hW : Ws.length < 200) :
    Calls Try.prog 11 #[x, .string name, .int .u64 id] w fun e w1 => ∃ (p : Bool) (vg : VV) (tt : VT) (Mb : List Let) (Wb : List (ByteArray × Nat)) (V' : ByteArray → List VV) (W' : Nat → Option ByteArray) (S' T' : Nat → Prop),
      e = .returned (.tuple #[vg.val, .bool p]) ∧ TRead w1 T' tt vg ∧ Chg S w w1 ∧ (∀ k, S' k → S k ∨ w.heap.size ≤ k) ∧ (∀ k, T' k → T k ∨ w.heap.size ≤ k) ∧ Mb.length ≤ M.length + 1 ∧ Wb.length ≤ Ws.length + 1 ∧
      ∀ (w2 : World) (P : Nat → Prop), Chg P w1 w2 → (∀ k, P k → w0.heap.size ≤ k ∧ ¬ S' k ∧ ¬ T' k ∧ ¬ R k) → Calls Try.prog 48 #[.agg #[lv, wv], .string name, .int .u64 id] w2 fun e w3 => ∃ lv' wv' vw, e = .returned (.tuple #[.agg #[lv', wv'], VV.val vw, .bool p]) ∧ TRead w00 (fun _ => True) tt vw ∧ RefDone w00 w0 w1 w2 x V' W' S' T' R Mb Wb lv' wv' w3 := by
  have hrows := h.rows
  have hgood := h.good
  rcases first_hit M (fun y => decide (y.1 = name)) with hno | ⟨i, hi, hin, hlow⟩
  · have hno' : ∀ j (hj : j < M.length), M[j].1 ≠ name := fun j hj => by simpa using hno _ (List.getElem_mem hj)
    have hV : V name = [] := (h.empty name).2 (trOf_none hno')
    have hno2 : ∀ j (hj : j < (M.map ltr).length), (M.map ltr)[j].1 ≠ name := fun j hj => by simpa using hno' j (by simpa using hj)
    have hQl : (idsOf Ws name).length < 1000 := by have := idsOf_len Ws name; omega
    by_cases hid : id = 0 ∨ id ∈ Ws.map (·.2)
    · refine (h.box.idle name id hV (by rcases hid with h1 | h1; exact .inr h1; exact .inl (fun e => (h.free id).1 e h1))).mono ?_
      rintro e w1 ⟨he, S', T', hbox, hS', hT', -, hch⟩
      refine ⟨false, zeroVV', .node 0 0 0 ⟨#[]⟩ [], M, Ws, V, W, S', T', he, zero_read _ _, hch, hS', hT', by omega, by omega, fun w2 P hc2 hP => ?_⟩
      have hr2 := (hrows.after hch hS').other hc2 (fun k hk => (hP k hk).2.2.2)
      have hbox2 := hbox.other hc2 (fun k hk => ⟨(hP k hk).1, (hP k hk).2.1, (hP k hk).2.2.1⟩)
      have key : Calls Try.prog 48 #[.agg #[lv, wv], .string name, .int .u64 id] w2 fun e w' => e = .returned (.tuple #[.agg #[lv, wv], .agg #[.int .i64 0, .int .i64 0, .float .f64 0, .string ⟨#[]⟩, .slice none 0 0], .bool false]) ∧ Below w2.heap.size w2 w' := by
        by_cases h0 : id = 0
        · exact rtake_zero lv wv (M.map ltr) Ws R name id w2 hr2.lrow hr2.wrow (by rw [List.length_map]; omega) (by omega) hno2 h0
        · exact rtake_again lv wv (M.map ltr) Ws R name id w2 hr2.lrow hr2.wrow (by rw [List.length_map]; omega) (by omega) hno2 h0 (hid.resolve_left h0)
      refine key.mono ?_
      rintro e w3 ⟨he3, hb3⟩
      refine ⟨lv, wv, zeroVV', he3, zero_read _ _, R, hb3, Inv.mk' (hbox2.later hb3) (hr2.later hb3) hgood h.bel, fun k hk => .inl hk⟩
    · have h0 : id ≠ 0 := fun e => hid (.inl e)
      have hnin : id ∉ Ws.map (·.2) := fun e => hid (.inr e)
      refine (h.box.wait name id hV h0 ((h.free id).2 hnin) hQl).mono ?_
      rintro e w1 ⟨he, S', T', hbox, hS', hT', -, hch⟩
      rw [← idsOf_snoc] at hbox
      refine ⟨false, zeroVV', .node 0 0 0 ⟨#[]⟩ [], M, Ws ++ [(name, id)], V, (fun k => if k = id then some name else W k), S', T', he, zero_read _ _, hch, hS', hT', by omega, by simp, fun w2 P hc2 hP => ?_⟩
      have hr2 := (hrows.after hch hS').other hc2 (fun k hk => (hP k hk).2.2.2)
      have hbox2 := hbox.other hc2 (fun k hk => ⟨(hP k hk).1, (hP k hk).2.1, (hP k hk).2.2.1⟩)
      refine (rtake_wait lv wv (M.map ltr) Ws R name id w2 hr2.lrow hr2.wrow (by rw [List.length_map]; omega) (by omega) hno2 h0 hnin).mono ?_
      rintro e w3 ⟨wv', he3, hw3, hb3⟩
      have hw2 : w0.heap.size ≤ w2.heap.size := Nat.le_trans hbox.box.bel.size hc2.size
      refine ⟨lv, wv', zeroVV', he3, zero_read _ _, _, hb3, Inv.mk' (hbox2.later hb3) (hr2.renew (fun k hk => Nat.lt_of_lt_of_le (hbox.box.low k hk).2 hc2.size) hw2 hb3 ((hr2.lrow.frame (fun k _ hk => hb3.block k hk)).mono (fun k hk => .inl hk)) (hw3.mono (fun k hk => .inr hk))) ⟨hgood.vals, fun y hy => ?_, ?_, fun n => ?_⟩ h.bel, fun k hk => hk.1⟩
      · rcases List.mem_append.1 hy with h1 | h1
        · exact hgood.waits y h1
        · rw [List.mem_singleton.1 h1]; exact hn
      · rw [List.map_append]
        refine List.nodup_append.2 ⟨hgood.once, by simp, fun a ha b hb e => ?_⟩
        simp only [List.map_cons, List.map_nil, List.mem_singleton] at hb
        subst hb; subst e; exact hnin ha
      · by_cases hnn : n = name
        · subst hnn; exact .inl (trOf_none hno')
        · rw [idsOf_snoc, upd_other _ _ hnn]; exact hgood.either n
  · have hin' : M[i].1 = name := by simpa using hin
    have hlow' : ∀ j (hj : j < i), (M[j]'(by omega)).1 ≠ name := fun j hj => by simpa using hlow j hj
    obtain ⟨hq1, hq2⟩ := trOf_hit hi hin' hlow'
    refine (h.box.take name id hq1).mono ?_
    rintro e w1 ⟨vg, l, he, -, hvg, -, S', T', hbox, hS', hT', hTT, hch⟩
    rw [← hq2] at hbox
    refine ⟨true, vg, M[i].2.1, M.eraseIdx i, Ws, upd V name l, W, S', T', he, hvg.mono hTT, hch, hS', hT', by rw [List.length_eraseIdx_of_lt hi]; omega, by omega, fun w2 P hc2 hP => ?_⟩
    have hr2 := (hrows.after hch hS').other hc2 (fun k hk => (hP k hk).2.2.2)
    have hbox2 := hbox.other hc2 (fun k hk => ⟨(hP k hk).1, (hP k hk).2.1, (hP k hk).2.2.1⟩)
    refine (rtake_hit lv wv (M.map ltr) R name id w2 hr2.lrow (by rw [List.length_map]; omega) hr2.slices.2 i (by simpa using hi) (by simpa using hin') (fun j hj => by simpa using hlow' j hj)).mono ?_
    rintro e w3 ⟨lv', he3, hl3, hb3⟩
    have hw2 : w0.heap.size ≤ w2.heap.size := Nat.le_trans hbox.box.bel.size hc2.size
    have hl3' : LRow w3 lv' ((M.eraseIdx i).map ltr) (fun k => R k ∨ w2.heap.size ≤ k) := by
      rw [← map_erase]; exact hl3.mono (fun k hk => .inr hk)
    refine ⟨lv', wv, M[i].2.2, by rw [he3]; simp, (hgood.vals _ (List.getElem_mem hi)).1, _, hb3, Inv.mk' (hbox2.later hb3) (hr2.renew (fun k hk => Nat.lt_of_lt_of_le (hbox.box.low k hk).2 hc2.size) hw2 hb3 hl3' ((hr2.wrow.frame (fun k _ hk => hb3.block k hk)).mono (fun k hk => .inl hk))) ⟨fun y hy => hgood.vals y ((List.eraseIdx_sublist _ _).subset hy), hgood.waits, hgood.once, fun n => (hgood.either n).imp_left (trOf_erase_nil i)⟩ h.bel, fun k hk => hk.1⟩

theorem forget_step (h : Inv w00 w0 w x lv wv M Ws V W S T R) (id : Nat) (hW : Ws.length < 200) :
    Calls Try.prog 28 #[x, .int .u64 id] w fun e w1 => ∃ (p : Bool) (Wb : List (ByteArray × Nat)) (W' : Nat → Option ByteArray) (S' T' : Nat → Prop),
      e = .returned (.bool p) ∧ Chg S w w1 ∧ (∀ k, S' k → S k ∨ w.heap.size ≤ k) ∧ (∀ k, T' k → T k ∨ w.heap.size ≤ k) ∧ Wb.length ≤ Ws.length + 1 ∧
      ∀ w2, Below w1.heap.size w1 w2 → Calls Try.prog 49 #[.agg #[lv, wv], .int .u64 id] w2 fun e w3 => ∃ wv', e = .returned (.tuple #[.agg #[lv, wv'], .bool p]) ∧ RefDone w00 w0 w1 w2 x V W' S' T' R M Wb lv wv' w3 := by
  have hrows := h.rows
  have hgood := h.good
  rcases first_hit Ws (fun y => decide (y.2 = id)) with hno | ⟨i, hi, hin, hlow⟩
  · have hnin : id ∉ Ws.map (·.2) := fun hm => by
      obtain ⟨y, hy, rfl⟩ := List.mem_map.1 hm
      simpa using hno y hy
    refine (iforget_none x id _ _ _ _ w h.box.box.rep ((h.free id).2 hnin)).mono ?_
    rintro e w1 ⟨he, rfl⟩
    refine ⟨false, Ws, W, S, T, he, Chg.refl _ _, fun k hk => .inl hk, fun k hk => .inl hk, by omega, fun w2 hb2 => ?_⟩
    have hr2 := hrows.later hb2
    refine (rforget_miss lv wv Ws R id w2 hr2.wrow (by omega) hr2.slices.1 hnin).mono ?_
    rintro e w3 ⟨he3, hb3⟩
    exact ⟨wv, he3, R, hb3, Inv.mk' ((h.box.later hb2).later hb3) (hr2.later hb3) hgood h.bel, fun k hk => .inl hk⟩
  · have hin' : Ws[i].2 = id := by simpa using hin
    have hlow' : ∀ j (hj : j < i), (Ws[j]'(by omega)).2 ≠ id := fun j hj => by simpa using hlow j hj
    obtain ⟨a, b, hab, hcut⟩ := idsOf_cut hi
    rw [hin'] at hab
    refine (iforget_any x id Ws[i].1 a b _ _ _ _ w h.box.box.rep hab).mono ?_
    rintro e w1 ⟨he, hi1, hch⟩
    rw [← hcut] at hi1
    obtain ⟨S', T', hbox, hS', hT', -, -⟩ := h.box.same (h.box.box.step hi1 hch) h.box.trees
    refine ⟨true, Ws.eraseIdx i, (fun k => if k = id then none else W k), S', T', he, hch, hS', hT', by rw [List.length_eraseIdx_of_lt hi]; omega, fun w2 hb2 => ?_⟩
    have hr2 := (hrows.after hch hS').later hb2
    refine (rforget_hit lv wv Ws R id w2 hr2.wrow (by omega) hr2.slices.1 i hi hin' hlow').mono ?_
    rintro e w3 ⟨wv', he3, hw3, hb3⟩
    have hw2 : w0.heap.size ≤ w2.heap.size := Nat.le_trans hbox.box.bel.size hb2.size
    exact ⟨wv', he3, _, hb3, Inv.mk' ((hbox.later hb2).later hb3) (hr2.renew (fun k hk => Nat.lt_of_lt_of_le (hbox.box.low k hk).2 hb2.size) hw2 hb3 ((hr2.lrow.frame (fun k _ hk => hb3.block k hk)).mono (fun k hk => .inl hk)) (hw3.mono (fun k hk => .inr hk))) ⟨hgood.vals, fun y hy => hgood.waits y ((List.eraseIdx_sublist _ _).subset hy), nodup_erase hgood.once i, fun n => (hgood.either n).imp_right (idsOf_erase_nil i)⟩ h.bel, fun k hk => hk.1⟩
end
end Go.Proofs.Ytbofbboogmeneaa
