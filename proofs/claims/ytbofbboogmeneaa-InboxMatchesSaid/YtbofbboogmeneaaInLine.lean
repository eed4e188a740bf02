/- Those who wait for one name, as a list. -/
import Derived.Test.YtbofbboogmeneaaInAlive
namespace Go.Proofs.Ytbofbboogmeneaa
set_option linter.unusedVariables false
set_option linter.unusedSimpArgs false
open Go.RowKit

/-- Who waits, if only the name a is waited for. -/
def lineA (l : List Nat) : ByteArray → List Nat := upd (fun _ => []) nameA l
def whoA (l : List Nat) : Nat → Option ByteArray := fun k => if l.elem k then some nameA else none
/-- The line behind one more Take. -/
def join (l : List Nat) (id : Nat) : List Nat := if id = 0 ∨ id ∈ l then l else l ++ [id]

theorem lineA_at (l : List Nat) : lineA l nameA = l := upd_same _ _ _
theorem lineA_upd (l r : List Nat) : upd (lineA l) nameA r = lineA r := by
  funext y; unfold lineA upd; split <;> rfl
theorem whoA_none {l : List Nat} {k : Nat} : whoA l k = none ↔ k ∉ l := by
  unfold whoA; simp
theorem whoA_join (l : List Nat) (id : Nat) : (fun k => if k = id then some nameA else whoA l k) = whoA (l ++ [id]) := by
  funext k
  unfold whoA
  by_cases h : k = id
  · subst h; simp
  · simp [h]
theorem whoA_del {a : Nat} {r : List Nat} (h : a ∉ r) : (fun k => if k = a then none else whoA (a :: r) k) = whoA r := by
  funext k
  unfold whoA
  by_cases hk : k = a
  · subst hk; simp [h]
  · simp [hk]
theorem join_len (l : List Nat) (id : Nat) : (join l id).length ≤ l.length + 1 := by
  unfold join; split <;> simp
theorem join_nodup {l : List Nat} (h : l.Nodup) (id : Nat) : (join l id).Nodup := by
  unfold join
  split
  · exact h
  · rename_i hn
    rw [List.nodup_append]
    exact ⟨h, by simp, fun a ha b hb e => hn (.inr (by rw [List.mem_singleton.1 hb] at e; exact e ▸ ha))⟩

section
variable {w0 w : World} {x : Value} {V : ByteArray → List VV} {S : Nat → Prop} {l : List Nat}

theorem Box.line (h : Box w0 w x V (lineA l) (whoA l) S) (hV : V nameA = []) (id : Nat) (hlen : l.length < 1000) :
    Calls Try.prog 11 #[x, .string nameA, .int .u64 id] w fun e w' => e = .returned (.tuple #[zeroV, .bool false]) ∧ After w0 w w' x V (lineA (join l id)) (whoA (join l id)) S := by
  by_cases hid : id = 0 ∨ id ∈ l
  · have e : join l id = l := if_pos hid
    rw [e]
    refine h.idle nameA id hV ?_
    rcases hid with h1 | h1
    · exact .inr h1
    · exact .inl (fun h2 => whoA_none.1 h2 h1)
  · have e : join l id = l ++ [id] := if_neg hid
    rw [e]
    have h1 := h.wait nameA id hV (fun h2 => hid (.inl h2)) (whoA_none.2 (fun h2 => hid (.inr h2))) (by rw [lineA_at]; exact hlen)
    rw [lineA_at, lineA_upd, whoA_join] at h1
    exact h1

theorem Box.called {a : Nat} {r : List Nat} (h : Box w0 w x V (lineA (a :: r)) (whoA (a :: r)) S) (hn : (a :: r).Nodup) (v : VV) :
    Calls Try.prog 15 #[x, .string nameA, v.val] w fun e w' => e = .returned (.tuple #[.int .u64 a, .bool true]) ∧ After w0 w w' x V (lineA r) (whoA r) S := by
  have h1 := h.wake nameA v (lineA_at (a :: r))
  rw [lineA_upd, whoA_del (List.nodup_cons.1 hn).1] at h1
  exact h1
end

theorem lineA_nil : (fun _ => []) = lineA [] := by
  funext y; unfold lineA upd; split <;> rfl
theorem whoA_nil : (fun _ => none) = whoA [] := by
  funext y; unfold whoA; simp
end Go.Proofs.Ytbofbboogmeneaa
