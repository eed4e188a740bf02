/- An inbox whose payloads read as trees. -/
import Derived.Test.YtbofbboogmeneaaInAlive
import Derived.Test.YtbofbboogmeneaaVClone
namespace Go.Proofs.Ytbofbboogmeneaa
set_option linter.unusedVariables false
set_option linter.unusedSimpArgs false
open Go.RowKit

theorem TReads.frame {w w' : World} {S : Nat → Prop} (hb : ∀ k, S k → k < w.heap.size → w'.heap[k]? = w.heap[k]?) {ts : List VT} {vs : List VV} (h : TReads w S ts vs) : TReads w' S ts vs :=
  TReads.mk h.length (fun i hi => by obtain ⟨u, h1, h2⟩ := h.get i hi; exact ⟨u, h1, h2.frame hb⟩)
theorem TReads.mono {w : World} {S T : Nat → Prop} (hS : ∀ k, S k → T k) {ts : List VT} {vs : List VV} (h : TReads w S ts vs) : TReads w T ts vs :=
  TReads.mk h.length (fun i hi => by obtain ⟨u, h1, h2⟩ := h.get i hi; exact ⟨u, h1, h2.mono hS⟩)
theorem TReads.snoc {w : World} {S : Nat → Prop} {ts : List VT} {vs : List VV} {t : VT} {v : VV} (h : TReads w S ts vs) (hv : TRead w S t v) : TReads w S (ts ++ [t]) (vs ++ [v]) := by
  refine TReads.mk (by simp [h.length]) (fun i hi => ?_)
  rcases Nat.lt_or_ge i ts.length with hlt | hge
  · obtain ⟨u, h1, h2⟩ := h.get i hlt
    exact ⟨u, by rw [List.getElem?_append_left (by rw [h.length]; exact hlt)]; exact h1, by rw [List.getElem_append_left hlt]; exact h2⟩
  · have : i = ts.length := by simp at hi; omega
    subst this
    refine ⟨v, by rw [List.getElem?_append_right (by rw [h.length]; exact Nat.le_refl _), h.length]; simp, ?_⟩
    simp only [List.getElem_append_right (Nat.le_refl _), Nat.sub_self, List.getElem_cons_zero]
    exact hv

/-- An inbox that was made behind w0, its blocks S, and the payloads in it, in blocks T. -/
structure TBox (w0 w : World) (x : Value) (V : ByteArray → List VV) (Tr : ByteArray → List VT) (Q : ByteArray → List Nat) (W : Nat → Option ByteArray) (S T : Nat → Prop) : Prop where
  box : Box w0 w x V Q W S
  trees : ∀ n, TReads w T (Tr n) (V n)
  low : ∀ k, T k → w0.heap.size ≤ k ∧ k < w.heap.size
  apart : ∀ k, T k → ¬ S k

def TAfter (w0 w w' : World) (x : Value) (V : ByteArray → List VV) (Tr : ByteArray → List VT) (Q : ByteArray → List Nat) (W : Nat → Option ByteArray) (S T : Nat → Prop) : Prop :=
  ∃ S' T', TBox w0 w' x V Tr Q W S' T' ∧ (∀ k, S' k → S k ∨ w.heap.size ≤ k) ∧ (∀ k, T' k → T k ∨ w.heap.size ≤ k) ∧ (∀ k, T k → T' k) ∧ Chg S w w'

section
variable {w0 w w' : World} {x : Value} {V : ByteArray → List VV} {Tr : ByteArray → List VT} {Q : ByteArray → List Nat} {W : Nat → Option ByteArray} {S T : Nat → Prop}

/-- Other blocks have changed. -/
theorem TBox.other (h : TBox w0 w x V Tr Q W S T) {R : Nat → Prop} (hc : Chg R w w') (hR : ∀ k, R k → w0.heap.size ≤ k ∧ ¬ S k ∧ ¬ T k) : TBox w0 w' x V Tr Q W S T where
  box := ⟨h.box.rep.frame (fun k hk hl => hc.block k hl (fun hr => (hR k hr).2.1 hk)), h.box.bel.trans (hc.toBelow h.box.bel.size (fun n hn hr => by have := (hR n hr).1; omega)), fun k hk => ⟨(h.box.low k hk).1, Nat.lt_of_lt_of_le (h.box.low k hk).2 hc.size⟩⟩
  trees := fun n => (h.trees n).frame (fun k hk hl => hc.block k hl (fun hr => (hR k hr).2.2 hk))
  low := fun k hk => ⟨(h.low k hk).1, Nat.lt_of_lt_of_le (h.low k hk).2 hc.size⟩
  apart := h.apart

theorem TBox.later (h : TBox w0 w x V Tr Q W S T) (hb : Below w.heap.size w w') : TBox w0 w' x V Tr Q W S T :=
  h.other (R := fun _ => False) (Chg.ofBelow hb) (fun _ hk => hk.elim)

theorem TBox.new (w0 : World) : Calls Try.prog 9 #[] w0 fun e w' => ∃ x S, e = .returned x ∧ TBox w0 w' x (fun _ => []) (fun _ => []) (fun _ => []) (fun _ => none) S (fun _ => False) :=
  (Box.new w0).mono fun e w' ⟨x, S, he, hb⟩ => ⟨x, S, he, hb, fun n => by rw [TReads], fun k hk => hk.elim, fun k hk => hk.elim⟩

/-- The trees are as they were, the lists perhaps shorter. -/
theorem TBox.same {V' : ByteArray → List VV} {Tr' : ByteArray → List VT} {Q' : ByteArray → List Nat} {W' : Nat → Option ByteArray} (h : TBox w0 w x V Tr Q W S T) (ha : After w0 w w' x V' Q' W' S) (ht : ∀ n, TReads w T (Tr' n) (V' n)) : TAfter w0 w w' x V' Tr' Q' W' S T := by
  obtain ⟨S', h1, h2, h3⟩ := ha
  refine ⟨S', T, ⟨h1, fun n => (ht n).frame (fun k hk hl => h3.block k hl (h.apart k hk)), fun k hk => ⟨(h.low k hk).1, Nat.lt_of_lt_of_le (h.low k hk).2 h3.size⟩, fun k hk hs => ?_⟩, h2, fun k hk => .inl hk, fun k hk => hk, h3⟩
  rcases h2 k hs with h4 | h4
  · exact h.apart k hk h4
  · have := (h.low k hk).2; omega

theorem TBox.wake (h : TBox w0 w x V Tr Q W S T) (name : ByteArray) (v : VV) {a : Nat} {r : List Nat} (hQ : Q name = a :: r) :
    Calls Try.prog 15 #[x, .string name, v.val] w fun e w' => e = .returned (.tuple #[.int .u64 a, .bool true]) ∧ TAfter w0 w w' x V Tr (upd Q name r) (fun k => if k = a then none else W k) S T :=
  (h.box.wake name v hQ).mono fun e w' ⟨he, ha⟩ => ⟨he, h.same ha h.trees⟩

theorem TBox.idle (h : TBox w0 w x V Tr Q W S T) (name : ByteArray) (id : Nat) (hV : V name = []) (hid : W id ≠ none ∨ id = 0) :
    Calls Try.prog 11 #[x, .string name, .int .u64 id] w fun e w' => e = .returned (.tuple #[zeroV, .bool false]) ∧ TAfter w0 w w' x V Tr Q W S T :=
  (h.box.idle name id hV hid).mono fun e w' ⟨he, ha⟩ => ⟨he, h.same ha h.trees⟩

theorem TBox.wait (h : TBox w0 w x V Tr Q W S T) (name : ByteArray) (id : Nat) (hV : V name = []) (hid : id ≠ 0) (hW : W id = none) (hlen : (Q name).length < 1000) :
    Calls Try.prog 11 #[x, .string name, .int .u64 id] w fun e w' => e = .returned (.tuple #[zeroV, .bool false]) ∧ TAfter w0 w w' x V Tr (upd Q name (Q name ++ [id])) (fun k => if k = id then some name else W k) S T :=
  (h.box.wait name id hV hid hW hlen).mono fun e w' ⟨he, ha⟩ => ⟨he, h.same ha h.trees⟩

theorem TBox.take (h : TBox w0 w x V Tr Q W S T) (name : ByteArray) (id : Nat) {t : VT} {ts : List VT} (hT : Tr name = t :: ts) :
    Calls Try.prog 11 #[x, .string name, .int .u64 id] w fun e w' => ∃ v l, e = .returned (.tuple #[v.val, .bool true]) ∧ TRead w T t v ∧ TRead w' T t v ∧ V name = v :: l ∧ TAfter w0 w w' x (upd V name l) (upd Tr name ts) Q W S T := by
  have ht := h.trees name
  rw [hT, TReads] at ht
  obtain ⟨v, l, hV, h1, h2⟩ := ht
  refine (h.box.take name id hV).mono fun e w' ⟨he, ha⟩ => ⟨v, l, he, h1, ?_, hV, h.same ha (fun n => ?_)⟩
  · obtain ⟨S', -, -, h3⟩ := ha
    exact h1.frame (fun k hk hl => h3.block k hl (h.apart k hk))
  · by_cases hn : n = name
    · subst hn; rw [upd_same, upd_same]; exact h2
    · rw [upd_other _ _ hn, upd_other _ _ hn]; exact h.trees n

theorem TBox.keep (h : TBox w0 w x V Tr Q W S T) (name : ByteArray) {t : VT} {v : VV} {R : Nat → Prop} (hv : TRead w R t v) (hR : ∀ k, R k → ¬ S k) (hc : costT t ≤ 100000) (hQ : Q name = []) (hlen : (Tr name).length < 1000) :
    Calls Try.prog 15 #[x, .string name, v.val] w fun e w' => ∃ u, e = .returned (.tuple #[.int .u64 0, .bool false]) ∧ TAfter w0 w w' x (upd V name (V name ++ [u])) (upd Tr name (Tr name ++ [t])) Q W S T := by
  have hl := (h.trees name).length
  refine (iput_keep x name v (fun w1 w2 u => TOwn w2 t u (fun b => w1.heap.size ≤ b ∧ b < w2.heap.size)) V Q W _ w h.box.rep hQ (by omega) (fun w1 h1 => ?_)).mono ?_
  · exact vclone_any t v R w1 (hv.frame (fun k hk hl => h1.block k hl (hR k hk))) hc
  · rintro e w' ⟨he, u, w1, w2, h1, hu, h2, h3, hi, hch⟩
    have s0 := h.box.bel.size
    have s1 := h1.size
    have s2 := h2.size
    have s3 := h3.size
    refine ⟨u, he, _, fun k => T k ∨ (w1.heap.size ≤ k ∧ k < w2.heap.size), ⟨⟨hi.tight, h.box.bel.trans (hch.toBelow h.box.bel.size (fun n hn hS => by have := (h.box.low n hS).1; omega)), fun k hk => ⟨?_, hk.2⟩⟩, fun n => ?_, fun k hk => ?_, fun k hk hs => ?_⟩, fun k hk => ?_, fun k hk => ?_, fun k hk => .inl hk, hch⟩
    · rcases hk.1 with h4 | h4 | h4
      · exact (h.box.low k h4).1
      · omega
      · omega
    · by_cases hn : n = name
      · subst hn
        rw [upd_same, upd_same]
        refine (((h.trees n).frame (w' := w') (fun k hk hl => hch.block k hl (h.apart k hk))).mono (fun k hk => .inl hk)).snoc ((hu.read.frame (w' := w') (fun k hk hl => h3.block k hl (fun hs => ?_))).mono (fun k hk => .inr hk))
        rcases hs with h4 | h4
        · have := (h.box.low k h4).2; omega
        · omega
      · rw [upd_other _ _ hn, upd_other _ _ hn]
        exact ((h.trees n).frame (w' := w') (fun k hk hl => hch.block k hl (h.apart k hk))).mono (fun k hk => .inl hk)
    · rcases hk with h4 | h4
      · have := h.low k h4; omega
      · omega
    · rcases hk with h4 | h4
      · have h5 := h.low k h4
        rcases hs.1 with h6 | h6 | h6
        · exact h.apart k h4 h6
        · omega
        · omega
      · rcases hs.1 with h6 | h6 | h6
        · have := (h.box.low k h6).2; omega
        · omega
        · omega
    · rcases hk.1 with h4 | h4 | h4
      · exact .inl h4
      · exact .inr h4.1
      · exact .inr (by omega)
    · rcases hk with h4 | h4
      · exact .inl h4
      · exact .inr (by omega)
end
end Go.Proofs.Ytbofbboogmeneaa
