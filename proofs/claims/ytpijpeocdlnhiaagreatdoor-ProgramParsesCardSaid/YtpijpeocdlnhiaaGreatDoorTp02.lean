/- Texts for programTexts_holds, joined: Own, Arms, VClone, Kind, Blank, OpenVal. -/
import Derived.Test.YtpijpeocdlnhiaaGreatDoorTp01
import Derived.Deep.RegionLaw
import Derived.Deep.RegionHeld3
import Derived.StillTailTactics
import Derived.Deep.Cut
import Derived.BigQuiet
import Derived.IntWalk
import Derived.ChangeArms
import Derived.Deep.Slices
import Derived.OpenShut
set_option linter.unusedVariables false
set_option linter.unusedSimpArgs false
namespace Go.Proofs.YtpijpeocdlnhiaaGreatDoor
open Go.RowKit
mutual
def TOwn (w : World) : VT → VV → (Nat → Prop) → Prop
  | .node k n f s l, v, S => v.k = k ∧ v.n = n ∧ v.f = f ∧ v.s = s ∧ v.l = l.length ∧ l.length ≤ maxLen ∧
      ((l = [] ∧ Reads w (.slice v.a v.l v.c) 0 5 []) ∨ ∃ vs col, Row w 26 5 (.slice v.a l.length v.c) l.length (flat vs) (fun b => S b ∧ col b = 0) ∧ TOwns w col S 1 l vs)
def TOwns (w : World) (col : Nat → Nat) (S : Nat → Prop) : Nat → List VT → List VV → Prop
  | _, [], vs => vs = []
  | i, t :: ts, vs => ∃ v r, vs = v :: r ∧ TOwn w t v (fun b => S b ∧ col b = i) ∧ TOwns w col S (i + 1) ts r
end
section
variable {w w' : World} {col : Nat → Nat} {S T : Nat → Prop}
theorem TOwns.length : ∀ {i : Nat} {ts : List VT} {vs : List VV}, TOwns w col S i ts vs → vs.length = ts.length
  | _, [], vs, h => by rw [TOwns] at h; rw [h]; rfl
  | i, t :: ts, vs, h => by
    rw [TOwns] at h
    obtain ⟨v, r, rfl, _, h2⟩ := h
    simp [TOwns.length h2]
theorem TOwns.get : ∀ {i : Nat} {ts : List VT} {vs : List VV}, TOwns w col S i ts vs → ∀ j (hj : j < ts.length), ∃ v, vs[j]? = some v ∧ TOwn w ts[j] v (fun b => S b ∧ col b = i + j)
  | _, [], vs, h, j, hj => by simp at hj
  | i, t :: ts, vs, h, j, hj => by
    rw [TOwns] at h
    obtain ⟨v, r, rfl, h1, h2⟩ := h
    cases j with
    | zero => exact ⟨v, rfl, by simpa using h1⟩
    | succ j =>
      obtain ⟨u, h3, h4⟩ := TOwns.get h2 j (by simpa using hj)
      exact ⟨u, by simpa using h3, by simpa [Nat.add_assoc, Nat.add_comm 1 j] using h4⟩
theorem TOwns.mk : ∀ {i : Nat} {ts : List VT} {vs : List VV}, vs.length = ts.length → (∀ j (hj : j < ts.length), ∃ v, vs[j]? = some v ∧ TOwn w ts[j] v (fun b => S b ∧ col b = i + j)) → TOwns w col S i ts vs
  | _, [], vs, hl, h => by rw [TOwns]; exact List.eq_nil_of_length_eq_zero hl
  | i, t :: ts, [], hl, h => by simp at hl
  | i, t :: ts, v :: vs, hl, h => by
    rw [TOwns]
    refine ⟨v, vs, rfl, ?_, TOwns.mk (by simpa using hl) (fun j hj => ?_)⟩
    · obtain ⟨u, h1, h2⟩ := h 0 (by simp)
      cases h1; simpa using h2
    · obtain ⟨u, h1, h2⟩ := h (j + 1) (by simpa using hj)
      exact ⟨u, by simpa using h1, by simpa [Nat.add_assoc, Nat.add_comm 1 j] using h2⟩
theorem TOwn.frame (t : VT) : ∀ {S : Nat → Prop} {v : VV}, (∀ k, S k → k < w.heap.size → w'.heap[k]? = w.heap[k]?) → TOwn w t v S → TOwn w' t v S := by
  induction t using VT.ind with
  | _ k n f s l ih =>
    intro S v hb h
    rw [TOwn] at h ⊢
    obtain ⟨h1, h2, h3, h4, h5, h55, h6⟩ := h
    refine ⟨h1, h2, h3, h4, h5, h55, ?_⟩
    rcases h6 with ⟨h7, h8⟩ | ⟨vs, col, h7, h8⟩
    · exact .inl ⟨h7, h8.frame5 (S := S) (fun hn => absurd hn (by simp)) hb⟩
    · refine .inr ⟨vs, col, h7.frame (fun b hb1 hb2 => hb b hb1.1 hb2), TOwns.mk h8.length (fun j hj => ?_)⟩
      obtain ⟨u, h9, h10⟩ := h8.get j hj
      exact ⟨u, h9, ih _ (List.getElem_mem hj) (fun b hb1 hb2 => hb b hb1.1 hb2) h10⟩
theorem TOwn.mono (t : VT) : ∀ {S T : Nat → Prop} {v : VV}, (∀ k, S k → T k) → TOwn w t v S → TOwn w t v T := by
  induction t using VT.ind with
  | _ k n f s l ih =>
    intro S T v hS h
    rw [TOwn] at h ⊢
    obtain ⟨h1, h2, h3, h4, h5, h55, h6⟩ := h
    refine ⟨h1, h2, h3, h4, h5, h55, ?_⟩
    rcases h6 with h7 | ⟨vs, col, h7, h8⟩
    · exact .inl h7
    · refine .inr ⟨vs, col, h7.mono (fun b hb => ⟨hS b hb.1, hb.2⟩), TOwns.mk h8.length (fun j hj => ?_)⟩
      obtain ⟨u, h9, h10⟩ := h8.get j hj
      exact ⟨u, h9, ih _ (List.getElem_mem hj) (fun b hb => ⟨hS b hb.1, hb.2⟩) h10⟩
theorem TOwn.read (t : VT) : ∀ {S : Nat → Prop} {v : VV}, TOwn w t v S → TRead w S t v := by
  induction t using VT.ind with
  | _ k n f s l ih =>
    intro S v h
    rw [TOwn] at h
    rw [TRead]
    obtain ⟨h1, h2, h3, h4, h5, h55, h6⟩ := h
    refine ⟨h1, h2, h3, h4, h5, h55, ?_⟩
    rcases h6 with ⟨rfl, h8⟩ | ⟨vs, col, h7, h8⟩
    · exact ⟨[], h8, fun h => absurd rfl h, by rw [TReads]⟩
    · refine ⟨vs, by rw [h5]; exact h7.reads, fun hn ad had => ?_, TReads.mk h8.length (fun j hj => ?_)⟩
      · obtain ⟨g, off, cap, cur, hv, hg, -⟩ := h7.open (List.length_pos_iff.2 hn)
        rw [had] at hv
        cases hv
        exact hg.1
      · obtain ⟨u, h9, h10⟩ := h8.get j hj
        exact ⟨u, h9, (ih _ (List.getElem_mem hj) h10).mono (fun b hb => hb.1) _⟩
end
def Cl (w : World) (B : Nat) (sl : Value) (ts : List VT) (vs : List VV) (col : Nat → Nat) : Prop :=
  Row w 26 5 sl ts.length (flat vs) (fun b => (B ≤ b ∧ b < w.heap.size) ∧ col b = 0) ∧ TOwns w col (fun b => B ≤ b ∧ b < w.heap.size) 1 ts vs
theorem Cl.nil (w : World) (B : Nat) : Cl w B (.slice none 0 0) [] [] (fun _ => 0) := ⟨Row.nil _ _ _ _, by rw [TOwns]⟩
theorem Cl.step {w0 w1 w2 w3 : World} {B : Nat} {sl sl' : Value} {ts : List VT} {vs : List VV} {col : Nat → Nat} {t : VT} {u : VV} (h : Cl w0 B sl ts vs col) (hB : B ≤ w0.heap.size)
    (hu : TOwn w1 t u (fun b => w0.heap.size ≤ b ∧ b < w1.heap.size)) (h01 : Below w0.heap.size w0 w1) (h12 : Below w1.heap.size w1 w2)
    (hrow : Row w3 26 5 sl' (ts.length + 1) (flat vs ++ u.cells) (fun b => ((B ≤ b ∧ b < w0.heap.size) ∧ col b = 0) ∨ w1.heap.size ≤ b)) (hch : Chg (fun b => (B ≤ b ∧ b < w0.heap.size) ∧ col b = 0) w2 w3) :
    Cl w3 B sl' (ts ++ [t]) (vs ++ [u]) (fun b => if b < w0.heap.size then col b else if b < w1.heap.size then ts.length + 1 else 0) := by
  have s1 := h01.size
  have s2 := h12.size
  have s3 := hch.size
  constructor
  · have e : flat (vs ++ [u]) = flat vs ++ u.cells := by simp [flat]
    rw [e, show (ts ++ [t]).length = ts.length + 1 by simp]
    have hrow2 : Row w3 26 5 sl' (ts.length + 1) (flat vs ++ u.cells) (fun b => (((B ≤ b ∧ b < w0.heap.size) ∧ col b = 0) ∨ w1.heap.size ≤ b) ∧ b < w3.heap.size) := by
      refine ⟨hrow.1, ?_⟩
      rcases hrow.2 with h | ⟨g, off, cap, cur, hv, hg, hh, r⟩
      · exact .inl h
      · exact .inr ⟨g, off, cap, cur, hv, ⟨hg, lt_of_heap hh⟩, hh, r⟩
    refine hrow2.mono (fun b hb => ?_)
    obtain ⟨hb1, hb2⟩ := hb
    rcases hb1 with ⟨⟨h1, h2⟩, h3⟩ | h1
    · exact ⟨⟨h1, hb2⟩, by show (if b < w0.heap.size then _ else _) = 0; rw [if_pos h2]; exact h3⟩
    · exact ⟨⟨by omega, hb2⟩, by show (if b < w0.heap.size then _ else _) = 0; rw [if_neg (by omega), if_neg (by omega)]⟩
  · refine TOwns.mk (by simp [h.2.length]) (fun j hj => ?_)
    have hj' : j < ts.length + 1 := by simpa using hj
    rcases Nat.lt_or_ge j ts.length with hlt | hge
    · obtain ⟨p, h1, h2⟩ := h.2.get j hlt
      refine ⟨p, by rw [List.getElem?_append_left (by rw [h.2.length]; exact hlt)]; exact h1, ?_⟩
      rw [List.getElem_append_left hlt]
      refine (h2.frame _ (w' := w3) (fun k hk hl => ?_)).mono _ (fun b hb => ⟨⟨hb.1.1, by omega⟩, by rw [if_pos hb.1.2]; exact hb.2⟩)
      rw [hch.block k (by omega) (fun hS => by have := hS.2; have := hk.2; omega), h12.block k (by omega), h01.block k hl]
    · have : j = ts.length := by omega
      subst this
      refine ⟨u, by rw [List.getElem?_append_right (by rw [h.2.length]; exact Nat.le_refl _), h.2.length]; simp, ?_⟩
      rw [List.getElem_append_right (Nat.le_refl _)]
      simp only [Nat.sub_self, List.getElem_cons_zero]
      refine (hu.frame _ (w' := w3) (fun k hk hl => ?_)).mono _ (fun b hb => ⟨⟨by omega, by omega⟩, by rw [if_neg (by omega), if_pos hb.2]; omega⟩)
      rw [hch.block k (by omega) (fun hS => by have := hS.1.2; have := hk.1; omega), h12.block k hl]
theorem Cl.own {w : World} {B : Nat} {f : Nat} {s : ByteArray} {a : Option Addr} {c : Nat} {ts : List VT} {vs : List VV} {col : Nat → Nat} {kk nn : Int} (h : Cl w B (.slice a ts.length c) ts vs col) (hm : ts.length ≤ maxLen) :
    TOwn w (.node kk nn f s ts) ⟨kk, nn, f, s, a, ts.length, c⟩ (fun b => B ≤ b ∧ b < w.heap.size) := by
  rw [TOwn]
  exact ⟨rfl, rfl, rfl, rfl, rfl, hm, .inr ⟨vs, col, h.1, h.2⟩⟩
theorem fm_length {α : Type} {f : α → List Value} {k : Nat} (hf : ∀ a, (f a).length = k) : ∀ l : List α, (l.flatMap f).length = l.length * k
  | [] => by simp
  | a :: l => by rw [List.flatMap_cons, List.length_append, fm_length hf l, hf, List.length_cons, Nat.add_mul, Nat.one_mul, Nat.add_comm]
theorem fm_get {α : Type} {f : α → List Value} {k : Nat} (hf : ∀ a, (f a).length = k) {l : List α} {i : Nat} {a : α} (h : l[i]? = some a) (j : Nat) (u : Value) (hu : (f a)[j]? = some u) : (l.flatMap f)[i * k + j]? = some u := by
  induction l generalizing i with
  | nil => simp at h
  | cons b l ih =>
    rw [List.flatMap_cons]
    cases i with
    | zero =>
      simp only [List.getElem?_cons_zero, Option.some.injEq] at h
      subst h
      have := (List.getElem?_eq_some_iff.1 hu).1
      rw [List.getElem?_append_left (by omega), Nat.zero_mul, Nat.zero_add]; exact hu
    | succ i =>
      simp only [List.getElem?_cons_succ] at h
      rw [List.getElem?_append_right (by rw [hf, Nat.add_mul]; omega), hf, show (i + 1) * k + j - k = i * k + j by rw [Nat.add_mul]; omega]
      exact ih h
theorem Reads.atN {w : World} {size : Nat} {ao : Option Addr} {n m c : Nat} {xs : List Value} (h : Reads w (.slice ao m c) n size xs) (hn : 0 < n) (hs : 0 < size) :
    ∃ b o, ao = some ⟨b, o, none⟩ ∧ n ≤ c ∧ m = n ∧ b < w.heap.size ∧ ∀ j u, xs[j]? = some u → w.cell? ⟨b, o + j, none⟩ = some u := by
  obtain ⟨hl, ao', c', hv, hnc, hnone, hcells⟩ := h
  cases hv
  cases ao with
  | none => have := (hnone rfl).1; omega
  | some ad =>
    obtain ⟨b, o, spot⟩ := ad
    have hp : 0 < n * size := Nat.mul_pos hn hs
    have h0 := hcells _ rfl 0 (xs[0]'(by omega)) (List.getElem?_eq_getElem (by omega))
    have hspot : spot = none := by simpa [Addr.add] using World.cell?_spot h0
    subst hspot
    refine ⟨b, o, rfl, hnc, rfl, ?_, fun j u hu => ?_⟩
    · have := World.block_lt_of_cell? w _ h0
      simpa [Addr.add] using this
    · have := hcells _ rfl j u hu
      rwa [Addr.add_lit] at this
theorem alloc2_low (w : World) (a b : Obj) : ((w.alloc a).alloc b).heap[w.heap.size]? = (w.alloc a).heap[w.heap.size]? := Below.heap_alloc _ _ _ (by simp)
theorem alloc2_high (w : World) (a b : Obj) {c : Obj} (h : ((w.alloc a).alloc b).heap[(w.alloc a).heap.size]? = some c) : ((w.alloc a).alloc b).heap[w.heap.size + 1]? = some c := by
  rwa [World.size_alloc] at h
section
variable {wd w1 w2 : World} {T : TypeId} {sz n m : Nat} {v1 v2 : Value} {xs ys : List Value} {E O : Obj}
end
theorem Reads.single {w : World} {b : Nat} {cs : Array Value} {t : TypeId} {f : Nat × Nat} (h : w.heap[b]? = some (.cells cs t f)) : Reads w (.slice (some ⟨b, 0, none⟩) 1 1) 1 cs.size cs.toList := Reads.block h 1 cs.size (by rw [Nat.one_mul])
theorem cells5 {w : World} {b : Nat} {x0 x1 x2 x3 x4 : Value} {t : TypeId} {fr : Nat × Nat} (h : w.heap[b]? = some (.cells #[x0, x1, x2, x3, x4] t fr)) :
    w.cell? ⟨b, 0, none⟩ = some x0 ∧ w.cell? ⟨b, 1, none⟩ = some x1 ∧ w.cell? ⟨b, 2, none⟩ = some x2 ∧ w.cell? ⟨b, 3, none⟩ = some x3 ∧ w.cell? ⟨b, 4, none⟩ = some x4 :=
  ⟨cellAt h 0 rfl, cellAt h 1 rfl, cellAt h 2 rfl, cellAt h 3 rfl, cellAt h 4 rfl⟩
theorem free5 {w : World} {b : Nat} {cs : Array Value} {t : TypeId} (h : w.heap[b]? = some (.cells cs t (0, 0))) :
    w.frozen? ⟨b, 0, none⟩ = false ∧ w.frozen? ⟨b, 1, none⟩ = false ∧ w.frozen? ⟨b, 2, none⟩ = false ∧ w.frozen? ⟨b, 3, none⟩ = false ∧ w.frozen? ⟨b, 4, none⟩ = false :=
  ⟨freeAt h 0, freeAt h 1, freeAt h 2, freeAt h 3, freeAt h 4⟩
set_option maxRecDepth 100000 in
set_option maxHeartbeats 1000000 in
theorem canon_any (f : Nat) (hf : f < 18446744073709551616) (w : World) :
    Calls Tryz.prog 74 #[.float .f64 f] w fun e w' => e = .returned (.float .f64 (canonB f)) ∧ w = w' := by
  have hb : ∀ (w : World), (callFunc 110 #[.int .u64 9221120237041090561]).run Tryz.prog w = .ok (.value (.float .f64 9221120237041090561)) w := fun w => call_bits2 9221120237041090561 w
  have HO := order_self f hf
  have HC : Hid (canonB f = if nanB f then 9221120237041090561 else f) := rfl
  clear hf
  generalize canonB f = c at *
  generalize nanB f = x at *
  go_enter Tryz.func74, Tryz.ntmps74
  cases x
  · go_wp2
    go_ret
    exact ⟨by rw [HC.out]; rfl, rfl⟩
  · go_wp2
    go_ret
    exact ⟨by rw [HC.out]; rfl, rfl⟩
set_option maxRecDepth 100000 in
set_option maxHeartbeats 1000000 in
theorem nbits_any (f : Nat) (hf : f < 18446744073709551616) (w : World) :
    Calls Tryz.prog 46 #[.float .f64 f] w fun e w' => e = .returned (.int .u64 (canonB f)) ∧ w = w' := by
  have hb : ∀ (f : Nat) (w : World), (callFunc 73 #[.float .f64 f]).run Tryz.prog w = .ok (.value (.int .u64 f)) w := call_bits
  go_enter Tryz.func46, Tryz.ntmps46
  go_wp2_with fail
  refine (canon_any f hf _).mono ?_
  rintro e w1 ⟨rfl, rfl⟩
  go_wp2
  go_ret
  exact ⟨rfl, rfl⟩
def kindV (k : Int) : Value :=
  if k = 0 then .iface 103 (.agg #[]) else if k = 1 then .iface 104 (.agg #[]) else if k = 2 then .iface 105 (.agg #[])
  else if k = 3 then .iface 106 (.agg #[]) else if k = 4 then .iface 107 (.agg #[]) else .nilIface
set_option maxRecDepth 100000 in
set_option maxHeartbeats 1000000 in
theorem of_any (k : Int) (w : World) :
    Calls Tryz.prog 39 #[.int .i64 k] w fun e w' => e = .returned (kindV k) ∧ w = w' := by
  by_cases h : k < 0 ∨ 4 < k
  · have hk : kindV k = .nilIface := by unfold kindV; rw [if_neg (by omega), if_neg (by omega), if_neg (by omega), if_neg (by omega), if_neg (by omega)]
    rw [hk]
    clear hk
    rcases h with h | h
    · have h1 : decide (k < 0) = true := by simpa using h
      go_enter Tryz.func39, Tryz.ntmps39
      go_wp2
      go_ret
      exact ⟨rfl, rfl⟩
    · have h0 : decide (k < 0) = false := by simp; omega
      have h1 : decide (4 < k) = true := by simpa using h
      go_enter Tryz.func39, Tryz.ntmps39
      go_wp2
      go_ret
      exact ⟨rfl, rfl⟩
  · have h5 : k = 0 ∨ k = 1 ∨ k = 2 ∨ k = 3 ∨ k = 4 := by omega
    clear h
    have hix0 : ∀ w, (Instr.index 108 (.agg #[.iface 103 (.agg #[]), .iface 104 (.agg #[]), .iface 105 (.agg #[]), .iface 106 (.agg #[]), .iface 107 (.agg #[])]) (.int .i64 0)).run Tryz.prog w = .ok (.iface 103 (.agg #[])) w := fun _ => by kernel_rfl
    have hix1 : ∀ w, (Instr.index 108 (.agg #[.iface 103 (.agg #[]), .iface 104 (.agg #[]), .iface 105 (.agg #[]), .iface 106 (.agg #[]), .iface 107 (.agg #[])]) (.int .i64 1)).run Tryz.prog w = .ok (.iface 104 (.agg #[])) w := fun _ => by kernel_rfl
    have hix2 : ∀ w, (Instr.index 108 (.agg #[.iface 103 (.agg #[]), .iface 104 (.agg #[]), .iface 105 (.agg #[]), .iface 106 (.agg #[]), .iface 107 (.agg #[])]) (.int .i64 2)).run Tryz.prog w = .ok (.iface 105 (.agg #[])) w := fun _ => by kernel_rfl
    have hix3 : ∀ w, (Instr.index 108 (.agg #[.iface 103 (.agg #[]), .iface 104 (.agg #[]), .iface 105 (.agg #[]), .iface 106 (.agg #[]), .iface 107 (.agg #[])]) (.int .i64 3)).run Tryz.prog w = .ok (.iface 106 (.agg #[])) w := fun _ => by kernel_rfl
    have hix4 : ∀ w, (Instr.index 108 (.agg #[.iface 103 (.agg #[]), .iface 104 (.agg #[]), .iface 105 (.agg #[]), .iface 106 (.agg #[]), .iface 107 (.agg #[])]) (.int .i64 4)).run Tryz.prog w = .ok (.iface 107 (.agg #[])) w := fun _ => by kernel_rfl
    rcases h5 with rfl | rfl | rfl | rfl | rfl
    all_goals
      go_enter Tryz.func39, Tryz.ntmps39
      go_wp2
      go_ret
      exact ⟨rfl, rfl⟩
def blankV (v : VV) : VV :=
  if v.k = 1 then ⟨v.k, 0, v.f, v.s, v.a, v.l, v.c⟩ else if v.k = 2 then ⟨v.k, v.n, 0, v.s, v.a, v.l, v.c⟩ else if v.k = 3 then ⟨v.k, v.n, v.f, ⟨#[]⟩, v.a, v.l, v.c⟩ else if v.k = 4 then ⟨v.k, v.n, v.f, v.s, none, 0, 0⟩ else v
theorem kind_other {k : Int} (h : k < 0 ∨ 4 < k) : kindV k = .nilIface := by
  unfold kindV; rw [if_neg (by omega), if_neg (by omega), if_neg (by omega), if_neg (by omega), if_neg (by omega)]
theorem mem2 (w : World) (a b : Array Value) (s t : TypeId) : (((w.alloc (.cells a s)).alloc (.cells b t)).heap[w.heap.size]? = some (.cells a s (0, 0))) ∧ (((w.alloc (.cells a s)).alloc (.cells b t)).heap[w.heap.size + 1]? = some (.cells b t (0, 0))) ∧
    Below w.heap.size w ((w.alloc (.cells a s)).alloc (.cells b t)) ∧ ((w.alloc (.cells a s)).alloc (.cells b t)).heap.size = w.heap.size + 2 := by
  refine ⟨(Below.heap_alloc _ _ _ (by simp)).trans (heap_alloc_new w _), ?_, ((Below.refl _ _).alloc (Nat.le_refl _) _).alloc (by simp) _, by simp⟩
  have := heap_alloc_new (w.alloc (.cells a s)) (.cells b t)
  rwa [World.size_alloc] at this
set_option maxRecDepth 100000 in
set_option maxHeartbeats 1000000 in
theorem blank_any (v : VV) (w : World) :
    Calls Tryz.prog 45 #[v.val] w fun e w' => e = .returned (blankV v).val ∧ Below w.heap.size w w' := by
  obtain ⟨k, n, f, s, a, l, c⟩ := v
  have HM := Lib.hid (mem2 w #[.int .i64 k, .int .i64 n, .float .f64 f, .string s, .slice a l c] #[.int .i64 0, .int .i64 0, .float .f64 0, .string ⟨#[]⟩, .slice none 0 0] 26 26)
  have HO := Lib.hid (of_any k)
  have h6 : (k < 0 ∨ 4 < k) ∨ k = 0 ∨ k = 1 ∨ k = 2 ∨ k = 3 ∨ k = 4 := by omega
  rcases h6 with h | rfl | rfl | rfl | rfl | rfl
  · have hb : blankV ⟨k, n, f, s, a, l, c⟩ = ⟨k, n, f, s, a, l, c⟩ := by unfold blankV; simp only; rw [if_neg (by omega), if_neg (by omega), if_neg (by omega), if_neg (by omega)]
    rw [hb]
    rw [kind_other h] at HO
    clear hb h
    have ta1 : ∀ w, (Instr.typeAssert (.nilIface) 64 104 true).run Tryz.prog w = .ok (.tuple #[.agg #[], .bool false]) w := fun _ => by kernel_rfl
    have ta2 : ∀ w, (Instr.typeAssert (.nilIface) 64 105 true).run Tryz.prog w = .ok (.tuple #[.agg #[], .bool false]) w := fun _ => by kernel_rfl
    have ta3 : ∀ w, (Instr.typeAssert (.nilIface) 64 106 true).run Tryz.prog w = .ok (.tuple #[.agg #[], .bool false]) w := fun _ => by kernel_rfl
    have ta4 : ∀ w, (Instr.typeAssert (.nilIface) 64 107 true).run Tryz.prog w = .ok (.tuple #[.agg #[], .bool false]) w := fun _ => by kernel_rfl
    simp only [VV.val]
    obtain ⟨hx0, hx1, hx2, hx3, hx4⟩ := cells5 HM.out.1
    obtain ⟨hy0, hy1, hy2, hy3, hy4⟩ := cells5 HM.out.2.1
    obtain ⟨hf0, hf1, hf2, hf3, hf4⟩ := free5 HM.out.1
    obtain ⟨hg0, hg1, hg2, hg3, hg4⟩ := free5 HM.out.2.1
    go_enter Tryz.func45, Tryz.ntmps45
    go_wp2_with fail
    generalize (w.alloc (.cells #[.int .i64 k, .int .i64 n, .float .f64 f, .string s, .slice a l c] 26)).alloc (.cells #[.int .i64 0, .int .i64 0, .float .f64 0, .string ⟨#[]⟩, .slice none 0 0] 26) = wd at *
    refine (HO.out _).mono ?_
    rintro e w1 ⟨rfl, rfl⟩
    go_wp2
    have hW := HM.out.2.1
    have hB := HM.out.2.2.1
    have hS := heap_store (heap_store (heap_store (heap_store (heap_store hW 0 (.int .i64 k)) 1 (.int .i64 n)) 2 (.float .f64 f)) 3 (.string s)) 4 (.slice a l c)
    have hF := (((((hB.setCell (p := ⟨w.heap.size + 1, 0, none⟩) (by show w.heap.size ≤ w.heap.size + 1; omega) (.int .i64 k)).setCell (p := ⟨w.heap.size + 1, 1, none⟩) (by show w.heap.size ≤ w.heap.size + 1; omega) (.int .i64 n)).setCell (p := ⟨w.heap.size + 1, 2, none⟩) (by show w.heap.size ≤ w.heap.size + 1; omega) (.float .f64 f)).setCell (p := ⟨w.heap.size + 1, 3, none⟩) (by show w.heap.size ≤ w.heap.size + 1; omega) (.string s)).setCell (p := ⟨w.heap.size + 1, 4, none⟩) (by show w.heap.size ≤ w.heap.size + 1; omega) (.slice a l c))
    try simp only [Exit.inBlock, Exit.then]
    generalize (((((wd.setCell ⟨w.heap.size + 1, 0, none⟩ (.int .i64 k)).setCell ⟨w.heap.size + 1, 1, none⟩ (.int .i64 n)).setCell ⟨w.heap.size + 1, 2, none⟩ (.float .f64 f)).setCell ⟨w.heap.size + 1, 3, none⟩ (.string s)).setCell ⟨w.heap.size + 1, 4, none⟩ (.slice a l c)) = wf at hS hF ⊢
    refine bodyPost_ret (results_cell_row (P := Tryz.prog) rfl _ _ (w.heap.size + 1) 26 #[.int .i64 k, .int .i64 n, .float .f64 f, .string s, .slice a l c] (0, 0) _ rfl hS Tryz.underlying26 rfl rfl) rfl ?_
    exact ⟨rfl, hF⟩
  · have hb : blankV ⟨0, n, f, s, a, l, c⟩ = ⟨0, n, f, s, a, l, c⟩ := by unfold blankV; simp
    rw [hb]
    have hk : kindV 0 = .iface 103 (.agg #[]) := rfl
    rw [hk] at HO
    clear hb hk
    have ta1 : ∀ w, (Instr.typeAssert (.iface 103 (.agg #[])) 64 104 true).run Tryz.prog w = .ok (.tuple #[.agg #[], .bool false]) w := fun _ => by kernel_rfl
    have ta2 : ∀ w, (Instr.typeAssert (.iface 103 (.agg #[])) 64 105 true).run Tryz.prog w = .ok (.tuple #[.agg #[], .bool false]) w := fun _ => by kernel_rfl
    have ta3 : ∀ w, (Instr.typeAssert (.iface 103 (.agg #[])) 64 106 true).run Tryz.prog w = .ok (.tuple #[.agg #[], .bool false]) w := fun _ => by kernel_rfl
    have ta4 : ∀ w, (Instr.typeAssert (.iface 103 (.agg #[])) 64 107 true).run Tryz.prog w = .ok (.tuple #[.agg #[], .bool false]) w := fun _ => by kernel_rfl
    simp only [VV.val]
    obtain ⟨hx0, hx1, hx2, hx3, hx4⟩ := cells5 HM.out.1
    obtain ⟨hy0, hy1, hy2, hy3, hy4⟩ := cells5 HM.out.2.1
    obtain ⟨hf0, hf1, hf2, hf3, hf4⟩ := free5 HM.out.1
    obtain ⟨hg0, hg1, hg2, hg3, hg4⟩ := free5 HM.out.2.1
    go_enter Tryz.func45, Tryz.ntmps45
    go_wp2_with fail
    generalize (w.alloc (.cells #[.int .i64 0, .int .i64 n, .float .f64 f, .string s, .slice a l c] 26)).alloc (.cells #[.int .i64 0, .int .i64 0, .float .f64 0, .string ⟨#[]⟩, .slice none 0 0] 26) = wd at *
    refine (HO.out _).mono ?_
    rintro e w1 ⟨rfl, rfl⟩
    go_wp2
    have hW := HM.out.2.1
    have hB := HM.out.2.2.1
    have hS := heap_store (heap_store (heap_store (heap_store (heap_store hW 0 (.int .i64 0)) 1 (.int .i64 n)) 2 (.float .f64 f)) 3 (.string s)) 4 (.slice a l c)
    have hF := (((((hB.setCell (p := ⟨w.heap.size + 1, 0, none⟩) (by show w.heap.size ≤ w.heap.size + 1; omega) (.int .i64 0)).setCell (p := ⟨w.heap.size + 1, 1, none⟩) (by show w.heap.size ≤ w.heap.size + 1; omega) (.int .i64 n)).setCell (p := ⟨w.heap.size + 1, 2, none⟩) (by show w.heap.size ≤ w.heap.size + 1; omega) (.float .f64 f)).setCell (p := ⟨w.heap.size + 1, 3, none⟩) (by show w.heap.size ≤ w.heap.size + 1; omega) (.string s)).setCell (p := ⟨w.heap.size + 1, 4, none⟩) (by show w.heap.size ≤ w.heap.size + 1; omega) (.slice a l c))
    try simp only [Exit.inBlock, Exit.then]
    generalize (((((wd.setCell ⟨w.heap.size + 1, 0, none⟩ (.int .i64 0)).setCell ⟨w.heap.size + 1, 1, none⟩ (.int .i64 n)).setCell ⟨w.heap.size + 1, 2, none⟩ (.float .f64 f)).setCell ⟨w.heap.size + 1, 3, none⟩ (.string s)).setCell ⟨w.heap.size + 1, 4, none⟩ (.slice a l c)) = wf at hS hF ⊢
    refine bodyPost_ret (results_cell_row (P := Tryz.prog) rfl _ _ (w.heap.size + 1) 26 #[.int .i64 0, .int .i64 n, .float .f64 f, .string s, .slice a l c] (0, 0) _ rfl hS Tryz.underlying26 rfl rfl) rfl ?_
    exact ⟨rfl, hF⟩
  · have hb : blankV ⟨1, n, f, s, a, l, c⟩ = ⟨1, 0, f, s, a, l, c⟩ := by unfold blankV; simp
    rw [hb]
    have hk : kindV 1 = .iface 104 (.agg #[]) := rfl
    rw [hk] at HO
    clear hb hk
    have ta1 : ∀ w, (Instr.typeAssert (.iface 104 (.agg #[])) 64 104 true).run Tryz.prog w = .ok (.tuple #[.agg #[], .bool true]) w := fun _ => by kernel_rfl
    have ta2 : ∀ w, (Instr.typeAssert (.iface 104 (.agg #[])) 64 105 true).run Tryz.prog w = .ok (.tuple #[.agg #[], .bool false]) w := fun _ => by kernel_rfl
    have ta3 : ∀ w, (Instr.typeAssert (.iface 104 (.agg #[])) 64 106 true).run Tryz.prog w = .ok (.tuple #[.agg #[], .bool false]) w := fun _ => by kernel_rfl
    have ta4 : ∀ w, (Instr.typeAssert (.iface 104 (.agg #[])) 64 107 true).run Tryz.prog w = .ok (.tuple #[.agg #[], .bool false]) w := fun _ => by kernel_rfl
    simp only [VV.val]
    obtain ⟨hx0, hx1, hx2, hx3, hx4⟩ := cells5 HM.out.1
    obtain ⟨hy0, hy1, hy2, hy3, hy4⟩ := cells5 HM.out.2.1
    obtain ⟨hf0, hf1, hf2, hf3, hf4⟩ := free5 HM.out.1
    obtain ⟨hg0, hg1, hg2, hg3, hg4⟩ := free5 HM.out.2.1
    go_enter Tryz.func45, Tryz.ntmps45
    go_wp2_with fail
    generalize (w.alloc (.cells #[.int .i64 1, .int .i64 n, .float .f64 f, .string s, .slice a l c] 26)).alloc (.cells #[.int .i64 0, .int .i64 0, .float .f64 0, .string ⟨#[]⟩, .slice none 0 0] 26) = wd at *
    refine (HO.out _).mono ?_
    rintro e w1 ⟨rfl, rfl⟩
    go_wp2
    have hW : (wd.setCell ⟨w.heap.size, 1, none⟩ (.int .i64 0)).heap[w.heap.size + 1]? = _ := (Below.heap_setCell _ _ _ _ (by show w.heap.size + 1 ≠ w.heap.size; omega)).trans HM.out.2.1
    have hB : Below w.heap.size w (wd.setCell ⟨w.heap.size, 1, none⟩ (.int .i64 0)) := HM.out.2.2.1.setCell (Nat.le_refl _) _
    have hS := heap_store (heap_store (heap_store (heap_store (heap_store hW 0 (.int .i64 1)) 1 (.int .i64 0)) 2 (.float .f64 f)) 3 (.string s)) 4 (.slice a l c)
    have hF := (((((hB.setCell (p := ⟨w.heap.size + 1, 0, none⟩) (by show w.heap.size ≤ w.heap.size + 1; omega) (.int .i64 1)).setCell (p := ⟨w.heap.size + 1, 1, none⟩) (by show w.heap.size ≤ w.heap.size + 1; omega) (.int .i64 0)).setCell (p := ⟨w.heap.size + 1, 2, none⟩) (by show w.heap.size ≤ w.heap.size + 1; omega) (.float .f64 f)).setCell (p := ⟨w.heap.size + 1, 3, none⟩) (by show w.heap.size ≤ w.heap.size + 1; omega) (.string s)).setCell (p := ⟨w.heap.size + 1, 4, none⟩) (by show w.heap.size ≤ w.heap.size + 1; omega) (.slice a l c))
    try simp only [Exit.inBlock, Exit.then]
    generalize ((((((wd.setCell ⟨w.heap.size, 1, none⟩ (.int .i64 0)).setCell ⟨w.heap.size + 1, 0, none⟩ (.int .i64 1)).setCell ⟨w.heap.size + 1, 1, none⟩ (.int .i64 0)).setCell ⟨w.heap.size + 1, 2, none⟩ (.float .f64 f)).setCell ⟨w.heap.size + 1, 3, none⟩ (.string s)).setCell ⟨w.heap.size + 1, 4, none⟩ (.slice a l c)) = wf at hS hF ⊢
    refine bodyPost_ret (results_cell_row (P := Tryz.prog) rfl _ _ (w.heap.size + 1) 26 #[.int .i64 1, .int .i64 0, .float .f64 f, .string s, .slice a l c] (0, 0) _ rfl hS Tryz.underlying26 rfl rfl) rfl ?_
    exact ⟨rfl, hF⟩
  · have hb : blankV ⟨2, n, f, s, a, l, c⟩ = ⟨2, n, 0, s, a, l, c⟩ := by unfold blankV; simp
    rw [hb]
    have hk : kindV 2 = .iface 105 (.agg #[]) := rfl
    rw [hk] at HO
    clear hb hk
    have ta1 : ∀ w, (Instr.typeAssert (.iface 105 (.agg #[])) 64 104 true).run Tryz.prog w = .ok (.tuple #[.agg #[], .bool false]) w := fun _ => by kernel_rfl
    have ta2 : ∀ w, (Instr.typeAssert (.iface 105 (.agg #[])) 64 105 true).run Tryz.prog w = .ok (.tuple #[.agg #[], .bool true]) w := fun _ => by kernel_rfl
    have ta3 : ∀ w, (Instr.typeAssert (.iface 105 (.agg #[])) 64 106 true).run Tryz.prog w = .ok (.tuple #[.agg #[], .bool false]) w := fun _ => by kernel_rfl
    have ta4 : ∀ w, (Instr.typeAssert (.iface 105 (.agg #[])) 64 107 true).run Tryz.prog w = .ok (.tuple #[.agg #[], .bool false]) w := fun _ => by kernel_rfl
    simp only [VV.val]
    obtain ⟨hx0, hx1, hx2, hx3, hx4⟩ := cells5 HM.out.1
    obtain ⟨hy0, hy1, hy2, hy3, hy4⟩ := cells5 HM.out.2.1
    obtain ⟨hf0, hf1, hf2, hf3, hf4⟩ := free5 HM.out.1
    obtain ⟨hg0, hg1, hg2, hg3, hg4⟩ := free5 HM.out.2.1
    go_enter Tryz.func45, Tryz.ntmps45
    go_wp2_with fail
    generalize (w.alloc (.cells #[.int .i64 2, .int .i64 n, .float .f64 f, .string s, .slice a l c] 26)).alloc (.cells #[.int .i64 0, .int .i64 0, .float .f64 0, .string ⟨#[]⟩, .slice none 0 0] 26) = wd at *
    refine (HO.out _).mono ?_
    rintro e w1 ⟨rfl, rfl⟩
    go_wp2
    have hW : (wd.setCell ⟨w.heap.size, 2, none⟩ (.float .f64 0)).heap[w.heap.size + 1]? = _ := (Below.heap_setCell _ _ _ _ (by show w.heap.size + 1 ≠ w.heap.size; omega)).trans HM.out.2.1
    have hB : Below w.heap.size w (wd.setCell ⟨w.heap.size, 2, none⟩ (.float .f64 0)) := HM.out.2.2.1.setCell (Nat.le_refl _) _
    have hS := heap_store (heap_store (heap_store (heap_store (heap_store hW 0 (.int .i64 2)) 1 (.int .i64 n)) 2 (.float .f64 0)) 3 (.string s)) 4 (.slice a l c)
    have hF := (((((hB.setCell (p := ⟨w.heap.size + 1, 0, none⟩) (by show w.heap.size ≤ w.heap.size + 1; omega) (.int .i64 2)).setCell (p := ⟨w.heap.size + 1, 1, none⟩) (by show w.heap.size ≤ w.heap.size + 1; omega) (.int .i64 n)).setCell (p := ⟨w.heap.size + 1, 2, none⟩) (by show w.heap.size ≤ w.heap.size + 1; omega) (.float .f64 0)).setCell (p := ⟨w.heap.size + 1, 3, none⟩) (by show w.heap.size ≤ w.heap.size + 1; omega) (.string s)).setCell (p := ⟨w.heap.size + 1, 4, none⟩) (by show w.heap.size ≤ w.heap.size + 1; omega) (.slice a l c))
    try simp only [Exit.inBlock, Exit.then]
    generalize ((((((wd.setCell ⟨w.heap.size, 2, none⟩ (.float .f64 0)).setCell ⟨w.heap.size + 1, 0, none⟩ (.int .i64 2)).setCell ⟨w.heap.size + 1, 1, none⟩ (.int .i64 n)).setCell ⟨w.heap.size + 1, 2, none⟩ (.float .f64 0)).setCell ⟨w.heap.size + 1, 3, none⟩ (.string s)).setCell ⟨w.heap.size + 1, 4, none⟩ (.slice a l c)) = wf at hS hF ⊢
    refine bodyPost_ret (results_cell_row (P := Tryz.prog) rfl _ _ (w.heap.size + 1) 26 #[.int .i64 2, .int .i64 n, .float .f64 0, .string s, .slice a l c] (0, 0) _ rfl hS Tryz.underlying26 rfl rfl) rfl ?_
    exact ⟨rfl, hF⟩
  · have hb : blankV ⟨3, n, f, s, a, l, c⟩ = ⟨3, n, f, ⟨#[]⟩, a, l, c⟩ := by unfold blankV; simp
    rw [hb]
    have hk : kindV 3 = .iface 106 (.agg #[]) := rfl
    rw [hk] at HO
    clear hb hk
    have ta1 : ∀ w, (Instr.typeAssert (.iface 106 (.agg #[])) 64 104 true).run Tryz.prog w = .ok (.tuple #[.agg #[], .bool false]) w := fun _ => by kernel_rfl
    have ta2 : ∀ w, (Instr.typeAssert (.iface 106 (.agg #[])) 64 105 true).run Tryz.prog w = .ok (.tuple #[.agg #[], .bool false]) w := fun _ => by kernel_rfl
    have ta3 : ∀ w, (Instr.typeAssert (.iface 106 (.agg #[])) 64 106 true).run Tryz.prog w = .ok (.tuple #[.agg #[], .bool true]) w := fun _ => by kernel_rfl
    have ta4 : ∀ w, (Instr.typeAssert (.iface 106 (.agg #[])) 64 107 true).run Tryz.prog w = .ok (.tuple #[.agg #[], .bool false]) w := fun _ => by kernel_rfl
    simp only [VV.val]
    obtain ⟨hx0, hx1, hx2, hx3, hx4⟩ := cells5 HM.out.1
    obtain ⟨hy0, hy1, hy2, hy3, hy4⟩ := cells5 HM.out.2.1
    obtain ⟨hf0, hf1, hf2, hf3, hf4⟩ := free5 HM.out.1
    obtain ⟨hg0, hg1, hg2, hg3, hg4⟩ := free5 HM.out.2.1
    go_enter Tryz.func45, Tryz.ntmps45
    go_wp2_with fail
    generalize (w.alloc (.cells #[.int .i64 3, .int .i64 n, .float .f64 f, .string s, .slice a l c] 26)).alloc (.cells #[.int .i64 0, .int .i64 0, .float .f64 0, .string ⟨#[]⟩, .slice none 0 0] 26) = wd at *
    refine (HO.out _).mono ?_
    rintro e w1 ⟨rfl, rfl⟩
    go_wp2
    have hW : (wd.setCell ⟨w.heap.size, 3, none⟩ (.string ⟨#[]⟩)).heap[w.heap.size + 1]? = _ := (Below.heap_setCell _ _ _ _ (by show w.heap.size + 1 ≠ w.heap.size; omega)).trans HM.out.2.1
    have hB : Below w.heap.size w (wd.setCell ⟨w.heap.size, 3, none⟩ (.string ⟨#[]⟩)) := HM.out.2.2.1.setCell (Nat.le_refl _) _
    have hS := heap_store (heap_store (heap_store (heap_store (heap_store hW 0 (.int .i64 3)) 1 (.int .i64 n)) 2 (.float .f64 f)) 3 (.string ⟨#[]⟩)) 4 (.slice a l c)
    have hF := (((((hB.setCell (p := ⟨w.heap.size + 1, 0, none⟩) (by show w.heap.size ≤ w.heap.size + 1; omega) (.int .i64 3)).setCell (p := ⟨w.heap.size + 1, 1, none⟩) (by show w.heap.size ≤ w.heap.size + 1; omega) (.int .i64 n)).setCell (p := ⟨w.heap.size + 1, 2, none⟩) (by show w.heap.size ≤ w.heap.size + 1; omega) (.float .f64 f)).setCell (p := ⟨w.heap.size + 1, 3, none⟩) (by show w.heap.size ≤ w.heap.size + 1; omega) (.string ⟨#[]⟩)).setCell (p := ⟨w.heap.size + 1, 4, none⟩) (by show w.heap.size ≤ w.heap.size + 1; omega) (.slice a l c))
    try simp only [Exit.inBlock, Exit.then]
    generalize ((((((wd.setCell ⟨w.heap.size, 3, none⟩ (.string ⟨#[]⟩)).setCell ⟨w.heap.size + 1, 0, none⟩ (.int .i64 3)).setCell ⟨w.heap.size + 1, 1, none⟩ (.int .i64 n)).setCell ⟨w.heap.size + 1, 2, none⟩ (.float .f64 f)).setCell ⟨w.heap.size + 1, 3, none⟩ (.string ⟨#[]⟩)).setCell ⟨w.heap.size + 1, 4, none⟩ (.slice a l c)) = wf at hS hF ⊢
    refine bodyPost_ret (results_cell_row (P := Tryz.prog) rfl _ _ (w.heap.size + 1) 26 #[.int .i64 3, .int .i64 n, .float .f64 f, .string ⟨#[]⟩, .slice a l c] (0, 0) _ rfl hS Tryz.underlying26 rfl rfl) rfl ?_
    exact ⟨rfl, hF⟩
  · have hb : blankV ⟨4, n, f, s, a, l, c⟩ = ⟨4, n, f, s, none, 0, 0⟩ := by unfold blankV; simp
    rw [hb]
    have hk : kindV 4 = .iface 107 (.agg #[]) := rfl
    rw [hk] at HO
    clear hb hk
    have ta1 : ∀ w, (Instr.typeAssert (.iface 107 (.agg #[])) 64 104 true).run Tryz.prog w = .ok (.tuple #[.agg #[], .bool false]) w := fun _ => by kernel_rfl
    have ta2 : ∀ w, (Instr.typeAssert (.iface 107 (.agg #[])) 64 105 true).run Tryz.prog w = .ok (.tuple #[.agg #[], .bool false]) w := fun _ => by kernel_rfl
    have ta3 : ∀ w, (Instr.typeAssert (.iface 107 (.agg #[])) 64 106 true).run Tryz.prog w = .ok (.tuple #[.agg #[], .bool false]) w := fun _ => by kernel_rfl
    have ta4 : ∀ w, (Instr.typeAssert (.iface 107 (.agg #[])) 64 107 true).run Tryz.prog w = .ok (.tuple #[.agg #[], .bool true]) w := fun _ => by kernel_rfl
    simp only [VV.val]
    obtain ⟨hx0, hx1, hx2, hx3, hx4⟩ := cells5 HM.out.1
    obtain ⟨hy0, hy1, hy2, hy3, hy4⟩ := cells5 HM.out.2.1
    obtain ⟨hf0, hf1, hf2, hf3, hf4⟩ := free5 HM.out.1
    obtain ⟨hg0, hg1, hg2, hg3, hg4⟩ := free5 HM.out.2.1
    go_enter Tryz.func45, Tryz.ntmps45
    go_wp2_with fail
    generalize (w.alloc (.cells #[.int .i64 4, .int .i64 n, .float .f64 f, .string s, .slice a l c] 26)).alloc (.cells #[.int .i64 0, .int .i64 0, .float .f64 0, .string ⟨#[]⟩, .slice none 0 0] 26) = wd at *
    refine (HO.out _).mono ?_
    rintro e w1 ⟨rfl, rfl⟩
    go_wp2
    have hW : (wd.setCell ⟨w.heap.size, 4, none⟩ (.slice none 0 0)).heap[w.heap.size + 1]? = _ := (Below.heap_setCell _ _ _ _ (by show w.heap.size + 1 ≠ w.heap.size; omega)).trans HM.out.2.1
    have hB : Below w.heap.size w (wd.setCell ⟨w.heap.size, 4, none⟩ (.slice none 0 0)) := HM.out.2.2.1.setCell (Nat.le_refl _) _
    have hS := heap_store (heap_store (heap_store (heap_store (heap_store hW 0 (.int .i64 4)) 1 (.int .i64 n)) 2 (.float .f64 f)) 3 (.string s)) 4 (.slice none 0 0)
    have hF := (((((hB.setCell (p := ⟨w.heap.size + 1, 0, none⟩) (by show w.heap.size ≤ w.heap.size + 1; omega) (.int .i64 4)).setCell (p := ⟨w.heap.size + 1, 1, none⟩) (by show w.heap.size ≤ w.heap.size + 1; omega) (.int .i64 n)).setCell (p := ⟨w.heap.size + 1, 2, none⟩) (by show w.heap.size ≤ w.heap.size + 1; omega) (.float .f64 f)).setCell (p := ⟨w.heap.size + 1, 3, none⟩) (by show w.heap.size ≤ w.heap.size + 1; omega) (.string s)).setCell (p := ⟨w.heap.size + 1, 4, none⟩) (by show w.heap.size ≤ w.heap.size + 1; omega) (.slice none 0 0))
    try simp only [Exit.inBlock, Exit.then]
    generalize ((((((wd.setCell ⟨w.heap.size, 4, none⟩ (.slice none 0 0)).setCell ⟨w.heap.size + 1, 0, none⟩ (.int .i64 4)).setCell ⟨w.heap.size + 1, 1, none⟩ (.int .i64 n)).setCell ⟨w.heap.size + 1, 2, none⟩ (.float .f64 f)).setCell ⟨w.heap.size + 1, 3, none⟩ (.string s)).setCell ⟨w.heap.size + 1, 4, none⟩ (.slice none 0 0)) = wf at hS hF ⊢
    refine bodyPost_ret (results_cell_row (P := Tryz.prog) rfl _ _ (w.heap.size + 1) 26 #[.int .i64 4, .int .i64 n, .float .f64 f, .string s, .slice none 0 0] (0, 0) _ rfl hS Tryz.underlying26 rfl rfl) rfl ?_
    exact ⟨rfl, hF⟩
end Go.Proofs.YtpijpeocdlnhiaaGreatDoor
namespace Go.Proofs.YtpijpeocdlnhiaaGreatDoor
open Go.RowKit Go.ChangeShapes Go.WideShapes Go.Deep
mutual
def wfT : VT → Prop
  | .node k n f s l => (-9223372036854775808 ≤ k ∧ k ≤ 9223372036854775807) ∧ (-9223372036854775808 ≤ n ∧ n ≤ 9223372036854775807) ∧ f < 18446744073709551616 ∧ s.size ≤ maxLen ∧ wfL l
def wfL : List VT → Prop
  | [] => True
  | t :: ts => wfT t ∧ wfL ts
end
theorem wfL_iff : ∀ l : List VT, wfL l ↔ ∀ t ∈ l, wfT t
  | [] => by rw [wfL]; simp
  | t :: ts => by rw [wfL, wfL_iff ts]; simp
end Go.Proofs.YtpijpeocdlnhiaaGreatDoor
