/- Texts for programTexts_holds, joined: Base, Float, FBits, Heap, VV, Val. -/
import Derived.WalkKit
import Derived.WalkLawsBesides
import Derived.WalkSpells
import Derived.Lib.Hide
import Derived.Lib.Strings
import Derived.Deep.RegionLaw
import Derived.Deep.QuietTactic
import Derived.BigQuiet
import Derived.Deep.LoopGhost
import Derived.Test.YtpijpeocdlnhiaaGreatDoorChecked
import Derived.Laws.Externs
import Derived.Laws.BitsAllLaws
import Derived.ArgAppend
import Derived.Carry
import Derived.MapKept
import Derived.WideKeyMaps
set_option linter.unusedVariables false
set_option linter.unusedSimpArgs false
namespace Go.Proofs.YtpijpeocdlnhiaaGreatDoor
open Go.RowKit
abbrev bs (l : List UInt8) : Value := .string ⟨l.toArray⟩
theorem ba_app (l m : List UInt8) : ((⟨l.toArray⟩ : ByteArray) ++ ⟨m.toArray⟩) = ⟨(l ++ m).toArray⟩ := by
  apply ByteArray.ext; simp
structure ElemOf (P : Program) (t e : TypeId) (z : Value) (size bytes : Nat) : Prop where
  und : P.underlying t = some (.slice e)
  info : (P.info? e).map (fun i => (i.zero, i.size, i.bytes)) = some (some z, size, bytes)
  zsize : z.cells.size = size
  pos : 0 < size
def Reads (w : World) (v : Value) (n size : Nat) (xs : List Value) : Prop :=
  xs.length = n * size ∧ ∃ ao c, v = .slice ao n c ∧ n ≤ c ∧ (ao = none → n = 0 ∧ c = 0) ∧ ∀ ad, ao = some ad → ∀ j u, xs[j]? = some u → w.cell? (ad.add j) = some u
theorem Reads.nil (w : World) (size : Nat) : Reads w (.slice none 0 0) 0 size [] :=
  ⟨by simp, none, 0, rfl, Nat.le_refl _, fun _ => ⟨rfl, rfl⟩, fun _ h => by cases h⟩
theorem run_append_any {P : Program} {t e : TypeId} {z : Value} {size bytes : Nat} (hE : ElemOf P t e z size bytes) (ty : TypeId) (w : World) (base : Nat)
    (v : Value) (n : Nat) (xs : List Value) (hown : w.ownsRow base e size v n xs)
    (x : Value) (m : Nat) (news : List Value) (hx : Reads w x m size news) (h1 : ∀ u ∈ news, u.oneCell' = true)
    (h63 : n + m ≤ maxLen) (hbytes : (n + m) * bytes ≤ 140737488355328) (hbase : base ≤ w.heap.size) :
    ∃ v' w', (Builtin.append_ #[t, t] ty #[v, x]).run P w = .ok v' w' ∧ w'.ownsRow base e size v' (n + m) (xs ++ news) ∧ w.grownBy w' v.ownBlock ∧
      (v' = .slice none 0 0 ↔ v = .slice none 0 0 ∧ m = 0) := by
  obtain ⟨i, hi, hz, hs, hb⟩ := info_parts hE.info
  obtain ⟨hl, ao, c, rfl, hmc, hnone, hcells⟩ := hx
  cases ao with
  | some ad => exact run_append_own w base t ty e i z size bytes hE.und hi hz hs hb hE.zsize hE.pos v n xs hown ad m c news hl (hcells ad rfl) h1 h63 hbytes hbase
  | none =>
    obtain ⟨rfl, rfl⟩ := hnone rfl
    have hnews : news = [] := List.eq_nil_of_length_eq_zero (by simpa using hl)
    subst hnews
    exact ⟨v, w, run_append_owned_none w base t ty e i size hE.und hi v n xs hown, by simpa using hown, World.grownBy.refl _ _, by simp⟩
theorem Reads.later {w w' : World} {v : Value} {n size : Nat} {xs : List Value} (h : Reads w v n size xs) (hb : Below w.heap.size w w') : Reads w' v n size xs := by
  obtain ⟨hl, ao, c, rfl, hnc, hnone, hcells⟩ := h
  refine ⟨hl, ao, c, rfl, hnc, hnone, fun ad had j u hu => ?_⟩
  have hc := hcells ad had j u hu
  rw [hb.cell (World.block_lt_of_cell? w _ hc)]
  exact hc
theorem reads_one (w : World) (e : TypeId) (u : Value) : Reads (w.alloc (.cells #[u] e)) (.slice (some ⟨w.heap.size, 0, none⟩) 1 1) 1 1 [u] := by
  refine ⟨rfl, _, 1, rfl, Nat.le_refl _, (fun h => by cases h), fun ad had j x hx => ?_⟩
  cases had
  cases j with
  | zero =>
    simp only [List.getElem?_cons_zero, Option.some.injEq] at hx
    subst hx
    rw [Addr.add_lit]; exact World.cell?_alloc_new _ _ _ _
  | succ j => simp at hx
theorem Reads.at {w : World} {v : Value} {n : Nat} {xs : List Value} (h : Reads w v n 1 xs) (hn : 0 < n) :
    ∃ b o c, v = .slice (some ⟨b, o, none⟩) n c ∧ n ≤ c ∧ b < w.heap.size ∧ ∀ j u, xs[j]? = some u → w.cell? ⟨b, o + j, none⟩ = some u := by
  obtain ⟨hl, ao, c, rfl, hnc, hnone, hcells⟩ := h
  cases ao with
  | none => have := (hnone rfl).1; omega
  | some ad =>
    obtain ⟨b, o, spot⟩ := ad
    have h0 := hcells _ rfl 0 (xs[0]'(by omega)) (List.getElem?_eq_getElem (by omega))
    have hspot : spot = none := by simpa [Addr.add] using World.cell?_spot h0
    subst hspot
    refine ⟨b, o, c, rfl, hnc, ?_, fun j u hu => ?_⟩
    · have := World.block_lt_of_cell? w _ h0
      simpa [Addr.add] using this
    · have := hcells _ rfl j u hu
      rwa [Addr.add_lit] at this
theorem one_of {u : Value} (h : u.oneCell' = true) : ∀ x ∈ [u], x.oneCell' = true := by
  intro x hx
  rw [List.mem_singleton.1 hx]; exact h
theorem call_bits (f : Nat) (w : World) : (callFunc 73 #[.float .f64 f]).run Tryz.prog w = .ok (.value (.int .u64 f)) w := by
  rw [run_callFunc_extern (e := Extern.MathFloatBits.float64bits) Tryz.func73 (by kernel_rfl) (by kernel_rfl) (by kernel_rfl) (by kernel_rfl)]
  rfl
def nanB (b : Nat) : Bool := decide (9218868437227405312 < bits BinOp.and IntKind.u64 (b : Int) 9223372036854775807)
def canonB (f : Nat) : Nat := if nanB f then 9221120237041090561 else f
theorem nanB_mod {b : Nat} (hb : b < 18446744073709551616) : nanB b = decide (9218868437227405312 < b % 9223372036854775808) := by
  unfold nanB
  have h := u64_and_nat b 9223372036854775807 hb (by decide)
  have e : b &&& 9223372036854775807 = b % 9223372036854775808 := Nat.and_two_pow_sub_one_eq_mod b 63
  rw [e] at h
  rw [show ((9223372036854775807 : Nat) : Int) = 9223372036854775807 from rfl] at h
  rw [h]
  exact decide_eq_decide.2 (by omega)
set_option maxRecDepth 100000 in
set_option maxHeartbeats 1000000 in
theorem rnan_any (b : Nat) (w : World) :
    Calls Tryz.prog 108 #[.int .u64 b] w fun e w' => e = .returned (.bool (nanB b)) ∧ w = w' := by
  unfold nanB
  go_enter Tryz.func108, Tryz.ntmps108
  go_wp2
  go_ret
  exact ⟨rfl, rfl⟩
set_option maxRecDepth 100000 in
set_option maxHeartbeats 1000000 in
theorem rbits_any (f : Nat) (w : World) :
    Calls Tryz.prog 71 #[.float .f64 f] w fun e w' => e = .returned (.int .u64 (canonB f)) ∧ w = w' := by
  have hb : ∀ (f : Nat) (w : World), (callFunc 73 #[.float .f64 f]).run Tryz.prog w = .ok (.value (.int .u64 f)) w := call_bits
  have HN := Lib.hid (rnan_any f)
  have HC : Hid (canonB f = if nanB f then 9221120237041090561 else f) := rfl
  generalize canonB f = c at *
  generalize nanB f = x at *
  go_enter Tryz.func71, Tryz.ntmps71
  go_wp2_with fail
  refine (HN.out _).mono ?_
  rintro e w1 ⟨rfl, rfl⟩
  cases x
  · go_wp2
    go_ret
    exact ⟨by rw [HC.out]; rfl, rfl⟩
  · go_wp2
    go_ret
    exact ⟨by rw [HC.out]; rfl, rfl⟩
theorem call_bits2 (f : Nat) (w : World) : (callFunc 110 #[.int .u64 f]).run Tryz.prog w = .ok (.value (.float .f64 f)) w := by
  rw [run_callFunc_extern (e := Extern.MathFloatBits.float64frombits) Tryz.func110 (by kernel_rfl) (by kernel_rfl) (by kernel_rfl) (by kernel_rfl)]
  rfl
theorem order_self (f : Nat) (hf : f < 18446744073709551616) : (FloatKind.f64.format.order f f != some .eq) = nanB f := by
  rw [nanB_mod hf]
  show (Ieee.double.order f f != some .eq) = _
  unfold Ieee.Format.order Ieee.Format.read
  have hs : Ieee.double.signWeight = 9223372036854775808 := by decide
  have hb : Ieee.double.binade = 4503599627370496 := by decide
  have hi : Ieee.double.infRung = 9218868437227405312 := by decide
  rw [hs, hb, hi]
  have hlt : f % 9223372036854775808 < 9223372036854775808 := Nat.mod_lt _ (by decide)
  generalize f % 9223372036854775808 = r at *
  simp only
  split
  · rename_i h
    rw [decide_eq_false (by omega)]
    simp [Ieee.Datum.order]
  · split
    · rename_i h
      rw [decide_eq_false (by omega)]
      simp [Ieee.Datum.order]
    · split
      · rename_i h
        rw [decide_eq_false (by omega)]
        simp [Ieee.Datum.order]
      · rw [decide_eq_true (by omega)]
        simp [Ieee.Datum.order]
@[go_sem] theorem run_store_float {P : Program} {w : World} {a : Addr} {m : Mode} (k : FloatKind) (n : Nat) : (store a (.float k n) m).run P w = stored P w a (.float k n) m := run_store P w a _ m rfl
structure Chg (S : Nat → Prop) (w w' : World) : Prop where
  os : w'.os = w.os
  tape : w'.tape = w.tape
  output : w'.output = w.output
  size : w.heap.size ≤ w'.heap.size
  block : ∀ k, k < w.heap.size → ¬ S k → w'.heap[k]? = w.heap[k]?
theorem Chg.refl (S : Nat → Prop) (w : World) : Chg S w w := ⟨rfl, rfl, rfl, Nat.le_refl _, fun _ _ _ => rfl⟩
theorem Chg.trans {S T : Nat → Prop} {a b c : World} (h : Chg S a b) (k : Chg T b c) (hT : ∀ n, T n → S n ∨ a.heap.size ≤ n) : Chg S a c :=
  ⟨k.os.trans h.os, k.tape.trans h.tape, k.output.trans h.output, Nat.le_trans h.size k.size, fun n hn hS =>
    (k.block n (Nat.lt_of_lt_of_le hn h.size) (fun hTn => by rcases hT n hTn with h1 | h1; exact hS h1; omega)).trans (h.block n hn hS)⟩
theorem Chg.mono {S T : Nat → Prop} {a b : World} (h : Chg S a b) (hS : ∀ n, S n → T n) : Chg T a b :=
  ⟨h.os, h.tape, h.output, h.size, fun n hn hT => h.block n hn (fun hs => hT (hS n hs))⟩
theorem Chg.toBelow {S : Nat → Prop} {a b : World} (h : Chg S a b) {B : Nat} (hB : B ≤ a.heap.size) (hS : ∀ n, n < B → ¬ S n) : Below B a b :=
  ⟨h.os, h.tape, h.output, h.size, fun n hn => h.block n (by omega) (hS n hn)⟩
theorem Chg.drew {S : Nat → Prop} {a b : World} (h : Chg S a b) : Chg S a b.drew := ⟨h.os, h.tape, h.output, h.size, h.block⟩
theorem Chg.alloc {S : Nat → Prop} {a b : World} (h : Chg S a b) (o : Obj) : Chg S a (b.alloc o) :=
  ⟨h.os, h.tape, h.output, by have := h.size; simp; omega, fun n hn hS => (Below.heap_alloc _ _ _ (by have := h.size; omega)).trans (h.block n hn hS)⟩
theorem Chg.setCell {S : Nat → Prop} {a b : World} (h : Chg S a b) {p : Addr} (hp : S p.block ∨ a.heap.size ≤ p.block) (u : Value) : Chg S a (b.setCell p u) :=
  ⟨h.os, h.tape, h.output, by have := h.size; simpa [World.setCell] using this, fun n hn hS => (Below.heap_setCell _ _ _ _ (fun e => by subst e; rcases hp with h1 | h1; exact hS h1; omega)).trans (h.block n hn hS)⟩
theorem Chg.grown {S : Nat → Prop} {a b c : World} {row : Option Nat} (h : Chg S a b) (hg : b.grownBy c row) (hr : ∀ k, row = some k → S k ∨ a.heap.size ≤ k) : Chg S a c :=
  ⟨hg.os.trans h.os, hg.tape.trans h.tape, hg.output.trans h.output, Nat.le_trans h.size hg.size, fun n hn hS =>
    (hg.block n (by have := h.size; omega) (fun e => by rcases hr n e.symm with h1 | h1; exact hS h1; omega)).trans (h.block n hn hS)⟩
theorem lt_of_heap {w : World} {b : Nat} {o : Obj} (h : w.heap[b]? = some o) : b < w.heap.size := by
  rcases Nat.lt_or_ge b w.heap.size with h1 | h1
  · exact h1
  · rw [Array.getElem?_eq_none h1] at h; cases h
theorem cellAt {w : World} {b : Nat} {cs : Array Value} {t : TypeId} {f : Nat × Nat} (h : w.heap[b]? = some (.cells cs t f)) (i : Nat) {v : Value} (hi : cs[i]? = some v) : w.cell? ⟨b, i, none⟩ = some v := by
  simp [World.cell?, h, hi]
theorem freeAt {w : World} {b : Nat} {cs : Array Value} {t : TypeId} (h : w.heap[b]? = some (.cells cs t (0, 0))) (i : Nat) : w.frozen? ⟨b, i, none⟩ = false := by
  simp [World.frozen?, h]
theorem heap_store {w : World} {b : Nat} {cs : Array Value} {t : TypeId} {f : Nat × Nat} (h : w.heap[b]? = some (.cells cs t f)) (i : Nat) (u : Value) : (w.setCell ⟨b, i, none⟩ u).heap[b]? = some (.cells (cs.setIfInBounds i u) t f) := by
  simp [World.setCell, Array.getElem?_modify, h]
theorem Chg.heap {S : Nat → Prop} {a b : World} (h : Chg S a b) {k : Nat} {o : Obj} (hk : a.heap[k]? = some o) (hS : ¬ S k) : b.heap[k]? = some o := by
  rw [h.block k (lt_of_heap hk) hS]; exact hk
def Row (w : World) (e : TypeId) (size : Nat) (v : Value) (n : Nat) (xs : List Value) (S : Nat → Prop) : Prop :=
  xs.length = n * size ∧ ((v = .slice none 0 0 ∧ n = 0) ∨
    ∃ g off cap cur, v = .slice (some ⟨g, off, none⟩) n cap ∧ S g ∧ w.heap[g]? = some (.cells cur e (0, 0)) ∧ n ≤ cap ∧ cap ≤ maxLen ∧ off + cap * size ≤ cur.size ∧ (cur.toList.drop off).take (n * size) = xs)
theorem Row.nil (w : World) (e : TypeId) (size : Nat) (S : Nat → Prop) : Row w e size (.slice none 0 0) 0 [] S := ⟨by simp, .inl ⟨rfl, rfl⟩⟩
theorem Row.frame {w w' : World} {e : TypeId} {size : Nat} {v : Value} {n : Nat} {xs : List Value} {S : Nat → Prop} (h : Row w e size v n xs S) (hb : ∀ k, S k → k < w.heap.size → w'.heap[k]? = w.heap[k]?) : Row w' e size v n xs S := by
  refine ⟨h.1, ?_⟩
  rcases h.2 with h2 | ⟨g, off, cap, cur, hv, hS, hg, r⟩
  · exact .inl h2
  · exact .inr ⟨g, off, cap, cur, hv, hS, by rw [hb g hS (lt_of_heap hg)]; exact hg, r⟩
theorem Row.mono {w : World} {e : TypeId} {size : Nat} {v : Value} {n : Nat} {xs : List Value} {S T : Nat → Prop} (h : Row w e size v n xs S) (hS : ∀ k, S k → T k) : Row w e size v n xs T := by
  refine ⟨h.1, ?_⟩
  rcases h.2 with h2 | ⟨g, off, cap, cur, hv, hg, r⟩
  · exact .inl h2
  · exact .inr ⟨g, off, cap, cur, hv, hS g hg, r⟩
theorem Row.ofOwns {w : World} {base : Nat} {e : TypeId} {size : Nat} {v : Value} {n : Nat} {xs : List Value} (h : w.ownsRow base e size v n xs) : Row w e size v n xs (fun k => base ≤ k) := by
  refine ⟨h.1, ?_⟩
  rcases h.2 with h2 | ⟨g, cap, cur, hv, hb, hg, hn, hm, hs, ht⟩
  · exact .inl h2
  · exact .inr ⟨g, 0, cap, cur, hv, hb, hg, hn, hm, by omega, by simpa using ht⟩
theorem Row.reads {w : World} {e : TypeId} {size : Nat} {v : Value} {n : Nat} {xs : List Value} {S : Nat → Prop} (h : Row w e size v n xs S) : Reads w v n size xs := by
  refine ⟨h.1, ?_⟩
  rcases h.2 with ⟨rfl, rfl⟩ | ⟨g, off, cap, cur, rfl, _, hg, hn, _, hs, ht⟩
  · exact ⟨none, 0, rfl, Nat.le_refl _, fun _ => ⟨rfl, rfl⟩, fun _ h => by cases h⟩
  · refine ⟨_, cap, rfl, hn, (fun h => by cases h), fun ad had j u hu => ?_⟩
    cases had
    rw [Addr.add_lit]
    rw [← ht, List.getElem?_take] at hu
    split at hu
    · rw [List.getElem?_drop] at hu
      exact cellAt hg (off + j) (by rw [← Array.getElem?_toList]; exact hu)
    · cases hu
theorem setCells_other (b : Nat) : ∀ (vs : List Value) (o : Nat) (w : World) (k : Nat), k ≠ b → (w.setCells b o vs).heap[k]? = w.heap[k]?
  | [], _, _, _, _ => rfl
  | v :: r, o, w, k, h => by
    rw [World.setCells, setCells_other b r (o + 1) _ k h, Below.heap_setCell _ _ _ _ (by simpa using h)]
theorem setCells_same (b : Nat) (e : TypeId) : ∀ (vs : List Value) (o : Nat) (w : World) (cur : Array Value), w.heap[b]? = some (.cells cur e (0, 0)) → o + vs.length ≤ cur.size →
    (w.setCells b o vs).heap[b]? = some (.cells (cur.toList.take o ++ vs ++ cur.toList.drop (o + vs.length)).toArray e (0, 0))
  | [], o, w, cur, h, _ => by
    simp only [World.setCells, List.append_nil, List.length_nil, Nat.add_zero, List.take_append_drop]
    rw [h]
  | v :: r, o, w, cur, h, hs => by
    have h1 : (w.setCell ⟨b, o, none⟩ v).heap[b]? = some (.cells (cur.setIfInBounds o v) e (0, 0)) := by
      simp [World.setCell, Array.getElem?_modify, h]
    have := setCells_same b e r (o + 1) (w.setCell ⟨b, o, none⟩ v) _ h1 (by simp only [List.length_cons] at hs; simp; omega)
    rw [World.setCells, this]
    congr 2
    have ho : o < cur.toList.length := by simp only [List.length_cons] at hs; simp; omega
    have e1 : (cur.setIfInBounds o v).toList.take (o + 1) = cur.toList.take o ++ [v] := by
      rw [Array.toList_setIfInBounds, List.take_succ_eq_append_getElem (by simpa using ho)]
      simp [List.take_set_of_le]
    have e2 : (cur.setIfInBounds o v).toList.drop (o + 1 + r.length) = cur.toList.drop (o + 1 + r.length) := by
      rw [Array.toList_setIfInBounds, List.drop_set_of_lt (by omega)]
    rw [e1, e2]
    simp [Nat.add_assoc, Nat.add_comm 1]
theorem setCells_size (b : Nat) : ∀ (vs : List Value) (o : Nat) (w : World), (w.setCells b o vs).heap.size = w.heap.size
  | [], _, _ => rfl
  | v :: r, o, w => by rw [World.setCells, setCells_size b r]; simp [World.setCell]
theorem setCells_os (b : Nat) : ∀ (vs : List Value) (o : Nat) (w : World), (w.setCells b o vs).os = w.os ∧ (w.setCells b o vs).tape = w.tape ∧ (w.setCells b o vs).output = w.output
  | [], _, _ => ⟨rfl, rfl, rfl⟩
  | v :: r, o, w => by rw [World.setCells]; exact setCells_os b r (o + 1) _
theorem run_append_row {P : Program} {t e : TypeId} {z : Value} {size bytes : Nat} (hE : ElemOf P t e z size bytes) (ty : TypeId) (w : World) (S : Nat → Prop)
    (v : Value) (n : Nat) (xs : List Value) (hrow : Row w e size v n xs S)
    (x : Value) (m : Nat) (news : List Value) (hx : Reads w x m size news) (h1 : ∀ u ∈ news, u.oneCell' = true)
    (h63 : n + m ≤ maxLen) (hbytes : (n + m) * bytes ≤ 140737488355328) :
    ∃ v' w', (Builtin.append_ #[t, t] ty #[v, x]).run P w = .ok v' w' ∧ Row w' e size v' (n + m) (xs ++ news) (fun k => S k ∨ w.heap.size ≤ k) ∧ Chg S w w' := by
  obtain ⟨i, hi, hz, hs, hb⟩ := info_parts hE.info
  rcases hrow.2 with ⟨rfl, rfl⟩ | ⟨g, off, cap, cur, rfl, hS, hg, hn, hm, hcs, ht⟩
  · obtain rfl : xs = [] := List.eq_nil_of_length_eq_zero (by simpa using hrow.1)
    obtain ⟨v', w', hrun, r1, r2, _⟩ := run_append_any hE ty w w.heap.size (.slice none 0 0) 0 [] (World.ownsRow_nil _ _ _ _) x m news hx h1 h63 hbytes (Nat.le_refl _)
    exact ⟨v', w', hrun, (Row.ofOwns r1).mono (fun k hk => .inr hk), (Chg.refl S w).grown r2 (fun k hk => by simp [Value.ownBlock] at hk)⟩
  · obtain ⟨hl, ao, c, rfl, hmc, hnone, hcells⟩ := hx
    cases ao with
    | none =>
      obtain ⟨rfl, rfl⟩ := hnone rfl
      obtain rfl : news = [] := List.eq_nil_of_length_eq_zero (by simpa using hl)
      refine ⟨.slice (some ⟨g, off, none⟩) n cap, w, ?_, ?_, Chg.refl _ _⟩
      · simp [Builtin.append_, run_underlying hE.und, sizeOf, typeInfo, hi, Builtin.lenOf, Builtin.firstCells, hn, storeCells]
      · rw [List.append_nil, Nat.add_zero]
        exact hrow.mono (fun k hk => .inl hk)
    | some ad =>
      by_cases hroom : n + m ≤ cap
      · subst hs
        have hfit : off + n * i.size + news.length ≤ cur.size := by
          rw [hl, Nat.add_assoc, ← Nat.add_mul]
          have := Nat.mul_le_mul_right i.size hroom
          omega
        have hr := run_append_room_cells (P := P) w t ty e i hE.und hi g off n cap ad m c news hl (hcells ad rfl) h1 hroom
          (fun j hj => by rw [cellAt hg (off + n * i.size + j) (Array.getElem?_eq_getElem (by omega))]; rfl) (fun j hj => freeAt hg _)
        have hsame := setCells_same g e news (off + n * i.size) w cur hg hfit
        refine ⟨_, _, hr, ⟨by rw [List.length_append, hrow.1, hl, Nat.add_mul], .inr ⟨g, off, cap, _, rfl, .inl hS, hsame, hroom, hm, ?_, ?_⟩⟩, ?_⟩
        · simp only [List.size_toArray, List.length_append, List.length_take, List.length_drop, Array.length_toList]
          omega
        · simp only
          have hxl : xs.length = n * i.size := hrow.1
          have e1 : cur.toList.take (off + n * i.size) = cur.toList.take off ++ xs := by
            rw [← ht, List.take_add]
          rw [e1]
          have hto : (cur.toList.take off).length = off := by rw [List.length_take]; simp; omega
          rw [List.append_assoc, List.append_assoc, List.drop_left' hto, ← List.append_assoc]
          rw [List.take_left' (by rw [List.length_append, hxl, hl, Nat.add_mul])]
        · have hos := setCells_os g news (off + n * i.size) w
          exact ⟨hos.1, hos.2.1, hos.2.2, by rw [setCells_size]; exact Nat.le_refl _, fun k hk hkS => setCells_other g news _ w k (fun e => hkS (by rw [e]; exact hS))⟩
      · obtain ⟨hl0, _⟩ := hrow
        have holds : ∀ j u, xs[j]? = some u → w.cell? ((⟨g, off, none⟩ : Addr).add j) = some u := by
          intro j u hu
          have hrd : Reads w (.slice (some ⟨g, off, none⟩) n cap) n size xs := Row.reads (S := S) ⟨hl0, .inr ⟨g, off, cap, cur, rfl, hS, hg, hn, hm, hcs, ht⟩⟩
          obtain ⟨_, ao, c', hv, _, _, hc⟩ := hrd
          cases hv
          exact hc _ rfl j u hu
        obtain ⟨v', w', hrun, r1, r2⟩ := run_append_arg_grows (P := P) w t ty e i z size bytes hE.und hi hz hs hb hE.zsize hE.pos ⟨g, off, none⟩ n cap xs hl0 holds ad m c news hl (hcells ad rfl) (by omega) h63 hbytes
        exact ⟨v', w', hrun, (Row.ofOwns r1).mono (fun k hk => .inr hk), (Chg.refl S w).grown r2 (fun k hk => by cases hk)⟩
theorem wpList_row {P : Program} {t e : TypeId} {z : Value} {size bytes : Nat} (hE : ElemOf P t e z size bytes) {w : World} {ops : Array Oper} {rest : List Oper} {o : Oper} {a : Act} {Q : Exit → Act → World → Prop} (hgd : o.guard = none) {s x : Operand}
    (ho : o.op = .call { callee := .builtin .append, args := #[s, x], argTypes := #[t, t] })
    {S : Nat → Prop} {v : Value} {n : Nat} {xs : List Value} (hs : a.eval s = v) (hown : Row w e size v n xs S)
    {y : Value} {m : Nat} {news : List Value} (hx : a.eval x = y) (hy : Reads w y m size news) (h1 : ∀ u ∈ news, u.oneCell' = true)
    (h63 : n + m ≤ maxLen) (hbytes : (n + m) * bytes ≤ 140737488355328)
    (h : ∀ v' w', Row w' e size v' (n + m) (xs ++ news) (fun k => S k ∨ w.heap.size ≤ k) → Chg S w w' → wpList P ops Q rest (a.put o.dst v') w') : wpList P ops Q (o :: rest) a w := by
  refine wpList_plain hgd fun K hK => ?_
  subst hs; subst hx
  obtain ⟨v', w', hrun, r1, r2⟩ := run_append_row hE o.type w S _ n xs hown _ m news hy h1 h63 hbytes
  unfold Oper.wp
  simp [execOp, ho, resolve, invoke, builtin, hrun, Result.andThen]
  exact hK _ _ (h v' w' r1 r2)
theorem step_row {P : Program} {t e : TypeId} {z : Value} {size bytes : Nat} (hE : ElemOf P t e z size bytes) {ops : Array Oper} {o : Oper} {a : Act} {w : World} {K : Act → World → Prop} {Q : Exit → Act → World → Prop} {E : Prop}
    (hg : o.guard = none) {s x : Operand} (ho : o.op = Op.call { callee := Callee.builtin Builtin.append, args := #[s, x], argTypes := #[t, t] })
    {S : Nat → Prop} {v : Value} {n : Nat} {xs : List Value} (hs : a.eval s = v) (hown : Row w e size v n xs S)
    {y : Value} {m : Nat} {news : List Value} (hx : a.eval x = y) (hy : Reads w y m size news) (h1 : ∀ u ∈ news, u.oneCell' = true)
    (h63 : n + m ≤ maxLen) (hbytes : (n + m) * bytes ≤ 140737488355328)
    (h : ∀ v' w', Row w' e size v' (n + m) (xs ++ news) (fun k => S k ∨ w.heap.size ≤ k) → Chg S w w' → K (a.put o.dst v') w') :
    if Region.wanted o (yielded ops a.tmps) = true then Oper.wp P o a w K Q else E := by
  have hw : Region.wanted o (yielded ops a.tmps) = true := by simp [Region.wanted, hg]
  rw [if_pos hw]
  subst hs; subst hx
  obtain ⟨v', w', hrun, r1, r2⟩ := run_append_row hE o.type w S _ n xs hown _ m news hy h1 h63 hbytes
  unfold Oper.wp
  simp [execOp, ho, resolve, invoke, builtin, hrun, Result.andThen]
  exact h v' w' r1 r2
theorem Reads.block {w : World} {b : Nat} {cs : Array Value} {t : TypeId} {f : Nat × Nat} (h : w.heap[b]? = some (.cells cs t f)) (n size : Nat) (hs : cs.size = n * size) : Reads w (.slice (some ⟨b, 0, none⟩) n n) n size cs.toList := by
  refine ⟨by simpa using hs, _, n, rfl, Nat.le_refl _, (fun h => by cases h), fun ad had j u hu => ?_⟩
  cases had
  rw [Addr.add_lit, Nat.zero_add]
  exact cellAt h j (by rw [← Array.getElem?_toList]; exact hu)
theorem Row.open {w : World} {e : TypeId} {size : Nat} {v : Value} {n : Nat} {xs : List Value} {S : Nat → Prop} (h : Row w e size v n xs S) (hn : 0 < n) :
    ∃ g off cap cur, v = .slice (some ⟨g, off, none⟩) n cap ∧ S g ∧ w.heap[g]? = some (.cells cur e (0, 0)) ∧ n ≤ cap ∧ cap ≤ maxLen ∧ off + cap * size ≤ cur.size ∧ (cur.toList.drop off).take (n * size) = xs ∧ g < w.heap.size := by
  rcases h.2 with ⟨_, h0⟩ | ⟨g, off, cap, cur, hv, hS, hg, r1, r2, r3, r4⟩
  · omega
  · exact ⟨g, off, cap, cur, hv, hS, hg, r1, r2, r3, r4, lt_of_heap hg⟩
structure KeyOk (P : Program) (kt : TypeId) (κ : Type) [DecidableEq κ] (enc : κ → Value) : Prop where
  und : ∃ d, P.underlying kt = some d ∧ (∀ a b, Instr.sameNow d (enc a) (enc b) = some (decide (a = b))) ∧ ∀ a, MapKept.IsKey d (enc a)
  stay : ∀ a w, (Instr.keyThatStays (enc a) (enc a)).run P w = .ok (enc a) w
theorem ba_beq (a b : ByteArray) : (a == b) = decide (a = b) := by
  rw [beq_toListBytes, Bool.eq_iff_iff]
  simp only [beq_iff_eq, decide_eq_true_eq]
  constructor
  · intro h
    rw [ByteArray.toList_eq, ByteArray.toList_eq] at h
    exact ByteArray.ext (Array.ext' h)
  · intro h; rw [h]
theorem keyString {P : Program} {kt : TypeId} (h : P.underlying kt = some .string) : KeyOk P kt ByteArray Value.string where
  und := ⟨.string, h, fun a b => by
    simp only [Instr.sameNow, Option.some.injEq]
    exact ba_beq a b, fun _ => trivial⟩
  stay a w := by
    have : Instr.sameBits 10000 (.string a) (.string a) = true := by simp [Instr.sameBits, ba_beq]
    simp [Instr.keyThatStays, this]
section
variable {κ : Type} [DecidableEq κ]
def get : List (κ × Value) → κ → Option Value
  | [], _ => none
  | p :: l, k => if k = p.1 then some p.2 else get l k
def place : List (κ × Value) → κ → Nat → Option (Nat × Value)
  | [], _, _ => none
  | p :: l, k, i => if k = p.1 then some (i, p.2) else place l k (i + 1)
theorem place_get (l : List (κ × Value)) (k : κ) : ∀ i, (place l k i).map (·.2) = get l k := by
  induction l with
  | nil => intro i; rfl
  | cons p l ih => intro i; simp only [place, get]; split <;> simp [ih]
theorem place_none (l : List (κ × Value)) (k : κ) : ∀ i, place l k i = none ↔ get l k = none := by
  intro i; rw [← place_get l k i]; simp
def Ents (enc : κ → Value) (es : Array MapEntry) (l : List (κ × Value)) : Prop := es.toList.map (fun e => (e.key, e.val)) = l.map fun p => (enc p.1, p.2)
theorem findNow_place {d : TypeDesc} {enc : κ → Value} (hs : ∀ a b, Instr.sameNow d (enc a) (enc b) = some (decide (a = b))) (k : κ) : ∀ (es : List MapEntry) (l : List (κ × Value)) (i : Nat),
    es.map (fun e => (e.key, e.val)) = l.map (fun p => (enc p.1, p.2)) → Instr.findNow d (enc k) es i = some (place l k i)
  | [], [], i, _ => rfl
  | [], _ :: _, i, h => by simp at h
  | _ :: _, [], i, h => by simp at h
  | e :: es, p :: l, i, h => by
    simp only [List.map_cons, List.cons.injEq, Prod.mk.injEq] at h
    obtain ⟨⟨h1, h2⟩, h3⟩ := h
    rw [Instr.findNow, h1, hs, h2]
    by_cases hk : k = p.1
    · simp [place, hk]
    · simp only [decide_eq_false hk, place, if_neg hk]
      exact findNow_place hs k es l (i + 1) h3
def MapFn (w : World) (enc : κ → Value) (b : Nat) (F : κ → Option Value) : Prop :=
  ∃ es clock l, w.heap[b]? = some (.map es clock) ∧ Ents enc es l ∧ (l.map (·.1)).Nodup ∧ (∀ x ∈ es.toList, x.born < clock) ∧ (es.toList.map (·.born)).Nodup ∧ ∀ k, get l k = F k
theorem MapFn.made (w : World) (enc : κ → Value) : MapFn (w.alloc (.map #[] 0)) enc w.heap.size (fun _ => none) :=
  ⟨#[], 0, [], heap_alloc_new w _, rfl, List.Pairwise.nil, by simp, by simp, fun _ => rfl⟩
theorem run_checkKey_ok {P : Program} {kt : TypeId} {d : TypeDesc} (h : P.underlying kt = some d) {v : Value} (hv : MapKept.IsKey d v) (em : Bool) (w : World) : (Instr.checkKey em 10000 kt v).run P w = .ok () w :=
  MapKept.run_checkKey h hv em 9999
theorem run_findKey_place {P : Program} {kt : TypeId} {enc : κ → Value} (K : KeyOk P kt κ enc) (k : κ) {es : List MapEntry} {l : List (κ × Value)} (h : es.map (fun e => (e.key, e.val)) = l.map (fun p => (enc p.1, p.2))) (w : World) :
    (Instr.findKey kt (enc k) es).run P w = .ok (place l k 0) w := by
  obtain ⟨d, hd, hs, _⟩ := K.und
  simp [Instr.findKey, run_underlying hd, findNow_place hs k es l 0 h]
theorem run_lookup_fn {P : Program} {t kt e : TypeId} {enc : κ → Value} (K : KeyOk P kt κ enc) (ht : P.underlying t = some (.map kt e)) {z : Value} {w : World} (hz : (zeroValue e).run P w = .ok z w) {b : Nat} {F : κ → Option Value} (h : MapFn w enc b F) (k : κ) (ok : Bool) :
    (Instr.lookup t (.map (some b)) (enc k) ok).run P w = .ok (if ok then .tuple #[(F k).getD z, .bool (F k).isSome] else (F k).getD z) w := by
  obtain ⟨es, clock, l, hb, hl, _, _, _, hF⟩ := h
  obtain ⟨d, hd, hs, hp⟩ := K.und
  have hf := run_findKey_place (P := P) K k hl w
  have hg : F k = (place l k 0).map (·.2) := by rw [place_get, hF]
  have hc := fun em => run_checkKey_ok hd (hp k) em w
  have ho := MapKept.run_getObj_map (P := P) hb
  rw [hg]
  cases hpl : place l k 0 with
  | none =>
    rw [hpl] at hf
    cases ok <;> simp [Instr.lookup, run_underlying ht, ho, hc, hf, hz, Result.andThen]
  | some p =>
    rw [hpl] at hf
    cases ok <;> simp [Instr.lookup, run_underlying ht, ho, hc, hf, Result.andThen]
theorem get_append_new (l : List (κ × Value)) (k : κ) (v : Value) (h : get l k = none) (x : κ) : get (l ++ [(k, v)]) x = if x = k then some v else get l x := by
  induction l with
  | nil => simp [get]
  | cons p l ih =>
    have hk : ¬ k = p.1 := by intro e; simp [get, e] at h
    have hl : get l k = none := by simpa [get, hk] using h
    simp only [List.cons_append, get, ih hl]
    by_cases hx : x = p.1
    · have : ¬ x = k := fun e => hk (e ▸ hx)
      rw [if_pos hx, if_neg this, if_pos hx]
    · rw [if_neg hx, if_neg hx]
theorem place_at (l : List (κ × Value)) (k : κ) : ∀ (i j : Nat) (v : Value), place l k i = some (j, v) → ∃ m, j = i + m ∧ l[m]? = some (k, v) ∧ ∀ m', m' < m → ∀ p, l[m']? = some p → ¬ k = p.1 := by
  induction l with
  | nil => intro i j v h; simp [place] at h
  | cons p l ih =>
    intro i j v h
    by_cases hk : k = p.1
    · simp only [place, if_pos hk, Option.some.injEq, Prod.mk.injEq] at h
      obtain ⟨rfl, rfl⟩ := h
      exact ⟨0, rfl, by simp [hk], fun m' h => by omega⟩
    · simp only [place, if_neg hk] at h
      obtain ⟨m, hj, hm, hlt⟩ := ih (i + 1) j v h
      refine ⟨m + 1, by omega, by simpa using hm, fun m' hm' q hq => ?_⟩
      cases m' with
      | zero => simp at hq; rw [← hq]; exact hk
      | succ m' => exact hlt m' (by omega) q (by simpa using hq)
theorem get_set (l : List (κ × Value)) (k : κ) (v : Value) : ∀ (m : Nat) (u : Value), (∀ m', m' < m → ∀ p, l[m']? = some p → ¬ k = p.1) → l[m]? = some (k, u) → ∀ x, get (l.set m (k, v)) x = if x = k then some v else get l x := by
  induction l with
  | nil => intro m u _ h; simp at h
  | cons p l ih =>
    intro m u hlt h x
    cases m with
    | zero =>
      simp only [List.getElem?_cons_zero, Option.some.injEq] at h
      subst h
      simp only [List.set_cons_zero, get]
      split <;> rfl
    | succ m =>
      have hp := hlt 0 (by omega) p (by simp)
      simp only [List.set_cons_succ, get]
      rw [ih m u (fun m' hm' q hq => hlt (m' + 1) (by omega) q (by simpa using hq)) (by simpa using h) x]
      by_cases hx : x = p.1
      · have : ¬ x = k := fun e => hp (e ▸ hx)
        rw [if_pos hx, if_neg this, if_pos hx]
      · rw [if_neg hx, if_neg hx]
theorem get_none (l : List (κ × Value)) (y : κ) (h : y ∉ l.map (·.1)) : get l y = none := by
  induction l with
  | nil => rfl
  | cons q l ih =>
    simp only [List.map_cons, List.mem_cons, not_or] at h
    rw [get, if_neg h.1]; exact ih h.2
theorem get_mem (l : List (κ × Value)) (y : κ) : get l y = none ↔ y ∉ l.map (·.1) := by
  refine ⟨fun h => ?_, get_none l y⟩
  induction l with
  | nil => simp
  | cons q l ih =>
    rw [get] at h
    split at h
    · cases h
    · rename_i hne
      simp only [List.map_cons, List.mem_cons, not_or]
      exact ⟨hne, ih h⟩
theorem setBlock_chg (w : World) (b : Nat) (o : Obj) : Chg (fun k => k = b) w { w with heap := w.heap.setIfInBounds b o } :=
  ⟨rfl, rfl, rfl, by simp, fun k _ hk => by
    show (w.heap.setIfInBounds b o)[k]? = _
    rw [Array.getElem?_setIfInBounds, if_neg (fun e => hk e.symm)]⟩
theorem run_update_fn {P : Program} {t kt e : TypeId} {enc : κ → Value} (K : KeyOk P kt κ enc) (ht : P.underlying t = some (.map kt e)) {w : World} {b : Nat} {F : κ → Option Value} (h : MapFn w enc b F) (k : κ) (v : Value) :
    ∃ w', (Instr.mapUpdate t (.map (some b)) (enc k) v).run P w = .ok () w' ∧ MapFn w' enc b (fun x => if x = k then some v else F x) ∧ Chg (fun n => n = b) w w' ∧ w'.heap.size = w.heap.size := by
  obtain ⟨es, clock, l, hb, hl, hn, hborn, hbn, hF⟩ := h
  obtain ⟨d, hd, hs, hp⟩ := K.und
  have hf := run_findKey_place (P := P) K k hl w
  have hc := fun em => run_checkKey_ok hd (hp k) em w
  have ho := MapKept.run_getObj_map (P := P) hb
  have hlt := lt_of_heap hb
  cases hpl : place l k 0 with
  | none =>
    rw [hpl] at hf
    have hg : get l k = none := (place_none l k 0).1 hpl
    refine ⟨{ w with heap := w.heap.setIfInBounds b (.map (es.push { key := enc k, val := v, born := clock }) (clock + 1)) }, ?_, ?_, setBlock_chg _ _ _, by simp⟩
    · simp [Instr.mapUpdate, run_underlying ht, ho, hc, hf, MapKept.run_setObj_map _ hb, Result.andThen]
    · refine ⟨es.push { key := enc k, val := v, born := clock }, clock + 1, l ++ [(k, v)], by simp [hlt], ?_, ?_, ?_, ?_, fun x => ?_⟩
      · unfold Ents at hl ⊢
        simp [hl]
      · rw [List.map_append, List.nodup_append]
        refine ⟨hn, by simp, fun a ha b hb e => ?_⟩
        simp only [List.map_cons, List.map_nil, List.mem_singleton] at hb
        subst hb; subst e
        exact (get_mem l a).1 hg ha
      · intro x hx
        simp only [Array.toList_push, List.mem_append, List.mem_singleton] at hx
        rcases hx with hx | rfl
        · have := hborn x hx; omega
        · simp
      · simp only [Array.toList_push, List.map_append, List.map_cons, List.map_nil, List.nodup_append]
        refine ⟨hbn, by simp, fun a ha b hb e => ?_⟩
        simp only [List.mem_singleton] at hb
        obtain ⟨x, hx, rfl⟩ := List.mem_map.1 ha
        have := hborn x hx
        omega
      · rw [get_append_new l k v hg, hF]
  | some p =>
    obtain ⟨j, u⟩ := p
    rw [hpl] at hf
    obtain ⟨m, hj, hm, hmin⟩ := place_at l k 0 j u hpl
    obtain rfl : j = m := by omega
    have hlen : es.toList.length = l.length := by have := congrArg List.length hl; simpa using this
    have hjl : j < l.length := (List.getElem?_eq_some_iff.1 hm).1
    have hej : j < es.size := by rw [← hlen] at hjl; simpa using hjl
    have hkey : es[j].key = enc k := by
      have := congrArg (fun z => z[j]?) hl
      simp only [List.getElem?_map, hm, Option.map_some] at this
      rw [List.getElem?_eq_getElem (by simpa using hej)] at this
      simp at this
      exact this.1
    have hlj : l[j] = (k, u) := (List.getElem?_eq_some_iff.1 hm).2
    have hks : (((es[j]?).map (·.key)).getD (enc k)) = enc k := by simp [hej, hkey]
    refine ⟨{ w with heap := w.heap.setIfInBounds b (.map (es.modify j fun e => { e with key := enc k, val := v }) clock) }, ?_, ?_, setBlock_chg _ _ _, by simp⟩
    · have hks' : (Option.map (fun x => x.key) es[j]?).getD (enc k) = enc k := hks
      simp [Instr.mapUpdate, run_underlying ht, ho, hc, hf, hks', K.stay, MapKept.run_setObj_map _ hb, Result.andThen]
    · have hto : (es.modify j fun e => { e with key := enc k, val := v }).toList = es.toList.set j { es[j] with key := enc k, val := v } := by
        apply List.ext_getElem?
        intro i
        rw [Array.getElem?_toList, Array.getElem?_modify, List.getElem?_set]
        by_cases hi : j = i
        · subst hi; simp [hej]
        · simp [hi]
      refine ⟨es.modify j fun e => { e with key := enc k, val := v }, clock, l.set j (k, v), by simp [hlt], ?_, ?_, ?_, ?_, fun x => ?_⟩
      · unfold Ents at hl ⊢
        rw [hto, List.map_set, List.map_set, hl]
      · rw [List.map_set]
        have : (l.map (·.1)).set j k = l.map (·.1) := by
          apply List.ext_getElem?
          intro i
          rw [List.getElem?_set]
          by_cases hi : j = i
          · subst hi; simp [hjl, hlj]
          · simp [hi]
        simp only [this]; exact hn
      · rw [hto]
        intro x hx
        rcases List.mem_or_eq_of_mem_set hx with hx | rfl
        · exact hborn x hx
        · show es[j].born < clock
          exact hborn es[j] (by simp)
      · rw [hto, List.map_set]
        have : (es.toList.map (·.born)).set j es[j].born = es.toList.map (·.born) := by
          apply List.ext_getElem?
          intro i
          rw [List.getElem?_set]
          by_cases hi : j = i
          · subst hi; simp [hej]
          · simp [hi]
        simp only [this]; exact hbn
      · rw [get_set l k v j u hmin hm, hF]
variable {P : Program} {t kt e : TypeId} {enc : κ → Value}
end
structure VV where
  k : Int
  n : Int
  f : Nat
  s : ByteArray
  a : Option Addr
  l : Nat
  c : Nat
def VV.cells (v : VV) : List Value := [.int .i64 v.k, .int .i64 v.n, .float .f64 v.f, .string v.s, .slice v.a v.l v.c]
abbrev VV.val (v : VV) : Value := .agg #[.int .i64 v.k, .int .i64 v.n, .float .f64 v.f, .string v.s, .slice v.a v.l v.c]
theorem VV.one (v : VV) : ∀ u ∈ v.cells, u.oneCell' = true := by
  intro u hu
  simp only [VV.cells, List.mem_cons, List.not_mem_nil, or_false] at hu
  rcases hu with rfl | rfl | rfl | rfl | rfl <;> rfl
abbrev flat (l : List VV) : List Value := l.flatMap VV.cells
theorem elemVal : ElemOf Tryz.prog 24 26 (.agg #[.int .i64 0, .int .i64 0, .float .f64 0, .string ⟨#[]⟩, .slice none 0 0]) 5 64 := ⟨Tryz.underlying24, by kernel_rfl, rfl, by decide⟩
inductive VT where
  | node (k n : Int) (f : Nat) (s : ByteArray) (l : List VT)
theorem VT.ind {p : VT → Prop} (h : ∀ k n f s l, (∀ t ∈ l, p t) → p (.node k n f s l)) (t : VT) : p t :=
  VT.rec (motive_1 := p) (motive_2 := fun l => ∀ t ∈ l, p t) (fun k n f s l ih => h k n f s l ih) (fun _ ht => by cases ht)
    (fun a l h1 h2 t ht => by
      rcases List.mem_cons.1 ht with h | h
      · rw [h]; exact h1
      · exact h2 t h) t
namespace VT
def k : VT → Int | .node k _ _ _ _ => k
def n : VT → Int | .node _ n _ _ _ => n
def f : VT → Nat | .node _ _ f _ _ => f
def s : VT → ByteArray | .node _ _ _ s _ => s
def l : VT → List VT | .node _ _ _ _ l => l
end VT
def InS (S : Nat → Prop) (a : Option Addr) : Prop := ∀ ad, a = some ad → S ad.block
mutual
def TRead (w : World) (S : Nat → Prop) : VT → VV → Prop
  | .node k n f s l, v => v.k = k ∧ v.n = n ∧ v.f = f ∧ v.s = s ∧ v.l = l.length ∧ l.length ≤ maxLen ∧ ∃ vs, Reads w (.slice v.a v.l v.c) l.length 5 (flat vs) ∧ (l ≠ [] → InS S v.a) ∧ TReads w S l vs
def TReads (w : World) (S : Nat → Prop) : List VT → List VV → Prop
  | [], vs => vs = []
  | t :: ts, vs => ∃ v r, vs = v :: r ∧ TRead w S t v ∧ TReads w S ts r
end
theorem TReads.length {w : World} {S : Nat → Prop} : ∀ {ts : List VT} {vs : List VV}, TReads w S ts vs → vs.length = ts.length
  | [], vs, h => by rw [TReads] at h; rw [h]; rfl
  | t :: ts, vs, h => by
    rw [TReads] at h
    obtain ⟨v, r, rfl, _, h2⟩ := h
    simp [TReads.length h2]
theorem TReads.get {w : World} {S : Nat → Prop} : ∀ {ts : List VT} {vs : List VV}, TReads w S ts vs → ∀ i (hi : i < ts.length), ∃ v, vs[i]? = some v ∧ TRead w S ts[i] v
  | [], vs, h, i, hi => by simp at hi
  | t :: ts, vs, h, i, hi => by
    rw [TReads] at h
    obtain ⟨v, r, rfl, h1, h2⟩ := h
    cases i with
    | zero => exact ⟨v, rfl, h1⟩
    | succ i =>
      obtain ⟨u, h3, h4⟩ := TReads.get h2 i (by simpa using hi)
      exact ⟨u, by simpa using h3, by simpa using h4⟩
theorem TReads.mk {w : World} {S : Nat → Prop} : ∀ {ts : List VT} {vs : List VV}, vs.length = ts.length → (∀ i (hi : i < ts.length), ∃ v, vs[i]? = some v ∧ TRead w S ts[i] v) → TReads w S ts vs
  | [], vs, hl, h => by rw [TReads]; exact List.eq_nil_of_length_eq_zero hl
  | t :: ts, [], hl, h => by simp at hl
  | t :: ts, v :: vs, hl, h => by
    rw [TReads]
    refine ⟨v, vs, rfl, ?_, TReads.mk (by simpa using hl) (fun i hi => ?_)⟩
    · obtain ⟨u, h1, h2⟩ := h 0 (by simp)
      cases h1; exact h2
    · obtain ⟨u, h1, h2⟩ := h (i + 1) (by simpa using hi)
      exact ⟨u, by simpa using h1, by simpa using h2⟩
theorem flat_get {vs : List VV} {i : Nat} {v : VV} (h : vs[i]? = some v) (j : Nat) (u : Value) (hu : v.cells[j]? = some u) : (flat vs)[i * 5 + j]? = some u := by
  induction vs generalizing i with
  | nil => simp at h
  | cons a vs ih =>
    have hc : a.cells.length = 5 := rfl
    show (a.cells ++ flat vs)[i * 5 + j]? = some u
    cases i with
    | zero =>
      simp only [List.getElem?_cons_zero, Option.some.injEq] at h
      subst h
      have := (List.getElem?_eq_some_iff.1 hu).1
      rw [List.getElem?_append_left (by omega), Nat.zero_mul, Nat.zero_add]; exact hu
    | succ i =>
      simp only [List.getElem?_cons_succ] at h
      rw [List.getElem?_append_right (by omega), hc, show (i + 1) * 5 + j - 5 = i * 5 + j by omega]
      exact ih h
theorem Reads.at5 {w : World} {ao : Option Addr} {n m c : Nat} {xs : List Value} (h : Reads w (.slice ao m c) n 5 xs) (hn : 0 < n) :
    ∃ b o, ao = some ⟨b, o, none⟩ ∧ n ≤ c ∧ m = n ∧ b < w.heap.size ∧ ∀ j u, xs[j]? = some u → w.cell? ⟨b, o + j, none⟩ = some u := by
  obtain ⟨hl, ao', c', hv, hnc, hnone, hcells⟩ := h
  cases hv
  cases ao with
  | none => have := (hnone rfl).1; omega
  | some ad =>
    obtain ⟨b, o, spot⟩ := ad
    have h0 := hcells _ rfl 0 (xs[0]'(by omega)) (List.getElem?_eq_getElem (by omega))
    have hspot : spot = none := by simpa [Addr.add] using World.cell?_spot h0
    subst hspot
    refine ⟨b, o, rfl, hnc, rfl, ?_, fun j u hu => ?_⟩
    · have := World.block_lt_of_cell? w _ h0
      simpa [Addr.add] using this
    · have := hcells _ rfl j u hu
      rwa [Addr.add_lit] at this
theorem Reads.frame5 {w w' : World} {S : Nat → Prop} {ao : Option Addr} {n m c : Nat} {xs : List Value} (h : Reads w (.slice ao m c) n 5 xs) (hS : 0 < n → InS S ao) (hb : ∀ k, S k → k < w.heap.size → w'.heap[k]? = w.heap[k]?) : Reads w' (.slice ao m c) n 5 xs := by
  rcases Nat.eq_zero_or_pos n with h0 | hn
  · obtain ⟨hl, ao', c', hv, hnc, hnone, hcells⟩ := h
    refine ⟨hl, ao', c', hv, hnc, hnone, fun ad had j u hu => ?_⟩
    subst h0
    have : xs = [] := List.eq_nil_of_length_eq_zero (by simpa using hl)
    subst this; simp at hu
  · obtain ⟨b, o, rfl, hnc, rfl, hlt, hc⟩ := h.at5 hn
    refine ⟨h.1, _, c, rfl, hnc, (fun h => by cases h), fun ad had j u hu => ?_⟩
    cases had
    have h1 := hc j u hu
    rw [Addr.add_lit]
    have hk := hb b (hS hn _ rfl) hlt
    simp only [World.cell?] at h1 ⊢
    rw [hk]; exact h1
theorem TRead.frame {w w' : World} {S : Nat → Prop} (hb : ∀ k, S k → k < w.heap.size → w'.heap[k]? = w.heap[k]?) (t : VT) : ∀ {v : VV}, TRead w S t v → TRead w' S t v := by
  induction t using VT.ind with
  | _ k n f s l ih =>
    intro v h
    rw [TRead] at h ⊢
    obtain ⟨h1, h2, h3, h4, h5, h55, vs, h6, h7, h8⟩ := h
    refine ⟨h1, h2, h3, h4, h5, h55, vs, h6.frame5 (fun hn => h7 (by intro e; subst e; simp at hn)) hb, h7, TReads.mk h8.length (fun i hi => ?_)⟩
    obtain ⟨u, h9, h10⟩ := h8.get i hi
    exact ⟨u, h9, ih _ (List.getElem_mem hi) h10⟩
theorem TRead.mono {w : World} {S T : Nat → Prop} (hS : ∀ k, S k → T k) (t : VT) : ∀ {v : VV}, TRead w S t v → TRead w T t v := by
  induction t using VT.ind with
  | _ k n f s l ih =>
    intro v h
    rw [TRead] at h ⊢
    obtain ⟨h1, h2, h3, h4, h5, h55, vs, h6, h7, h8⟩ := h
    refine ⟨h1, h2, h3, h4, h5, h55, vs, h6, fun hn ad had => hS _ (h7 hn ad had), TReads.mk h8.length (fun i hi => ?_)⟩
    obtain ⟨u, h9, h10⟩ := h8.get i hi
    exact ⟨u, h9, ih _ (List.getElem_mem hi) h10⟩
theorem TRead.later {w w' : World} {S : Nat → Prop} {t : VT} {v : VV} (h : TRead w S t v) (hb : Below w.heap.size w w') : TRead w' S t v :=
  h.frame (fun k _ hk => hb.block k hk)
theorem TRead.fields {w : World} {S : Nat → Prop} {t : VT} {v : VV} (h : TRead w S t v) : v.k = t.k ∧ v.n = t.n ∧ v.f = t.f ∧ v.s = t.s ∧ v.l = t.l.length := by
  cases t; rw [TRead] at h; exact ⟨h.1, h.2.1, h.2.2.1, h.2.2.2.1, h.2.2.2.2.1⟩
theorem TRead.small {w : World} {S : Nat → Prop} {t : VT} {v : VV} (h : TRead w S t v) : t.l.length ≤ maxLen := by
  cases t; rw [TRead] at h; exact h.2.2.2.2.2.1
theorem TRead.elems {w : World} {S : Nat → Prop} {t : VT} {v : VV} (h : TRead w S t v) : ∃ vs, Reads w (.slice v.a t.l.length v.c) t.l.length 5 (flat vs) ∧ (t.l ≠ [] → InS S v.a) ∧ TReads w S t.l vs := by
  cases t with
  | node k n f s l =>
    rw [TRead] at h
    obtain ⟨h1, h2, h3, h4, h5, h55, vs, h6, h7, h8⟩ := h
    rw [h5] at h6
    exact ⟨vs, h6, h7, h8⟩
theorem TRead.child {w : World} {S : Nat → Prop} {t : VT} {v : VV} (h : TRead w S t v) (i : Nat) (hi : i < t.l.length) :
    ∃ b o, v.a = some ⟨b, o, none⟩ ∧ t.l.length ≤ v.c ∧ b < w.heap.size ∧ S b ∧ ∃ u, TRead w S t.l[i] u ∧ w.cell? ⟨b, o + i * 5, none⟩ = some (.int .i64 u.k) ∧ w.cell? ⟨b, o + i * 5 + 1, none⟩ = some (.int .i64 u.n) ∧
      w.cell? ⟨b, o + i * 5 + 2, none⟩ = some (.float .f64 u.f) ∧ w.cell? ⟨b, o + i * 5 + 3, none⟩ = some (.string u.s) ∧ w.cell? ⟨b, o + i * 5 + 4, none⟩ = some (.slice u.a u.l u.c) := by
  obtain ⟨vs, h1, h2, h3⟩ := h.elems
  obtain ⟨b, o, ha, hc, -, hlt, hcell⟩ := h1.at5 (by omega)
  obtain ⟨u, hu, hr⟩ := h3.get i hi
  refine ⟨b, o, ha, hc, hlt, h2 (by intro e; rw [e] at hi; simp at hi) _ ha, u, hr, ?_, ?_, ?_, ?_, ?_⟩
  · have := hcell (i * 5 + 0) _ (flat_get hu 0 _ rfl); simpa using this
  · have := hcell (i * 5 + 1) _ (flat_get hu 1 _ rfl); rwa [← Nat.add_assoc] at this
  · have := hcell (i * 5 + 2) _ (flat_get hu 2 _ rfl); rwa [← Nat.add_assoc] at this
  · have := hcell (i * 5 + 3) _ (flat_get hu 3 _ rfl); rwa [← Nat.add_assoc] at this
  · have := hcell (i * 5 + 4) _ (flat_get hu 4 _ rfl); rwa [← Nat.add_assoc] at this
theorem TRead.val {w : World} {S : Nat → Prop} {t : VT} {v : VV} (h : TRead w S t v) : v.val = .agg #[.int .i64 t.k, .int .i64 t.n, .float .f64 t.f, .string t.s, .slice v.a t.l.length v.c] := by
  obtain ⟨h1, h2, h3, h4, h5⟩ := h.fields
  rw [VV.val, h1, h2, h3, h4, h5]
end Go.Proofs.YtpijpeocdlnhiaaGreatDoor
