/- value.Clone: a copy in new memory. -/
import Derived.Test.YtbofbboogmeneaaClone
import Derived.Lib.SliceRun
namespace Go.Proofs.Ytbofbboogmeneaa
set_option linter.unusedVariables false
set_option linter.unusedSimpArgs false
open Go.RowKit

/-- One element of a row in the middle. -/
theorem Row.put {w : World} {e : TypeId} {size : Nat} {v : Value} {n i : Nat} {xs ys zs : List Value} {S : Nat → Prop} (h : Row w e size v n (xs ++ (ys ++ zs)) S) (hx : xs.length = i * size) (hy : ys.length = size) (hi : i < n) :
    ∃ g off cap, v = .slice (some ⟨g, off, none⟩) n cap ∧ n ≤ cap ∧ S g ∧ g < w.heap.size ∧ (∀ i, w.frozen? ⟨g, i, none⟩ = false) ∧ (∀ j u, ys[j]? = some u → w.cell? ⟨g, off + i * size + j, none⟩ = some u) ∧
      ∀ w' : World, (∀ k, k = g → w'.heap[k]? = w.heap[k]?) → ∀ us : List Value, us.length = size → Row (w'.setCells g (off + i * size) us) e size v n (xs ++ (us ++ zs)) S := by
  have hl := h.1
  obtain ⟨g, off, cap, cur, rfl, hS, hg, hn, hm, hs, ht, hlt⟩ := h.open (by omega)
  have hin : (i + 1) * size ≤ n * size := Nat.mul_le_mul_right size hi
  have hnc : n * size ≤ cap * size := Nat.mul_le_mul_right size hn
  rw [Nat.add_mul, Nat.one_mul] at hin
  refine ⟨g, off, cap, rfl, hn, hS, hlt, fun i => freeAt hg i, fun j u hu => ?_, fun w' hw' us hz => ?_⟩
  · have hj : j < size := by have := (List.getElem?_eq_some_iff.1 hu).1; omega
    have h2 : (xs ++ (ys ++ zs))[i * size + j]? = some u := by
      rw [List.getElem?_append_right (by omega), hx, List.getElem?_append_left (by omega)]; simpa using hu
    rw [← ht, List.getElem?_take_of_lt (by omega), List.getElem?_drop] at h2
    exact cellAt hg _ (by rw [← Array.getElem?_toList, Nat.add_assoc]; exact h2)
  · have hsame := setCells_same g e us (off + i * size) w' cur (by rw [hw' g rfl]; exact hg) (by omega)
    have hlen : xs.length + (size + zs.length) = n * size := by rw [← hl]; simp [hy]
    refine ⟨by simp only [List.length_append]; omega, .inr ⟨g, off, cap, _, rfl, hS, hsame, hn, hm, ?_, ?_⟩⟩
    · simp only [List.size_toArray, List.length_append, List.length_take, List.length_drop, Array.length_toList]
      omega
    · simp only
      have e1 : cur.toList.take (off + i * size) = cur.toList.take off ++ xs := by
        rw [List.take_add]
        congr 1
        have := congrArg (List.take (i * size)) ht
        rw [List.take_take, Nat.min_eq_left (by omega), List.take_left' hx] at this
        exact this
      have e2 : (cur.toList.drop (off + i * size + us.length)).take (n * size - (i * size + size)) = zs := by
        have := congrArg (List.drop (i * size + size)) ht
        rw [List.drop_take, List.drop_drop] at this
        rw [show off + i * size + us.length = off + (i * size + size) by omega, this, ← List.append_assoc, List.drop_left' (by simp [hx, hy])]
      rw [e1]
      have hto : (cur.toList.take off).length = off := by rw [List.length_take]; simp; omega
      rw [List.append_assoc, List.append_assoc, List.drop_left' hto, List.take_append, List.take_append, List.take_of_length_le (by omega), List.take_of_length_le (by omega)]
      congr 2
      rw [← e2]; congr 1; omega

set_option maxRecDepth 100000 in
set_option maxHeartbeats 1000000 in
theorem sclone_any (ao : Option Addr) (n c : Nat) (xs : List Value) (w : World) (h : Reads w (.slice ao n c) n 5 xs) (h1 : ∀ u ∈ xs, u.oneCell' = true) (hn : n ≤ 100000) :
    Calls Try.prog 39 #[.slice ao n c] w fun e w' => ∃ v', e = .returned v' ∧ Row w' 31 5 v' n xs (fun b => w.heap.size ≤ b) ∧ Below w.heap.size w w' := by
  cases ao with
  | none =>
    obtain ⟨hl, _, _, he, _, hnn, _⟩ := h
    cases he
    obtain ⟨rfl, rfl⟩ := hnn rfl
    obtain rfl : xs = [] := List.eq_nil_of_length_eq_zero (by simpa using hl)
    have he : (binOp .eql 29 (.slice none 0 0) (.slice none 0 0)).run Try.prog w = .ok (.bool true) w := by kernel_rfl
    go_enter Try.func39, Try.ntmps39
    go_wp2
    go_ret
    exact ⟨_, rfl, Row.nil _ _ _ _, Below.refl _ _⟩
  | some ad =>
    have he : ∀ W, (binOp .eql 29 (.slice (some ad) n c) (.slice none 0 0)).run Try.prog W = .ok (.bool false) W := fun W => Lib.run_eql_slice_nil W _ _ (some ad) n c 0 0 Try.underlying29
    have H := Lib.hid h
    have H1 := Lib.hid h1
    clear h h1
    go_enter Try.func39, Try.ntmps39
    go_wp2_with (refine wpList_row elemVal rfl rfl (S := fun b => w.heap.size ≤ b) (v := .slice (some ⟨w.heap.size, 0, none⟩) 0 0) (n := 0) (xs := []) rfl (Row.ofOwns (owns_empty _ _ _ _ (Nat.le_refl _) rfl)) (y := .slice (some ad) n c) (m := n) (news := xs) rfl (H.out.later ((Below.refl _ _).alloc (Nat.le_refl _) _)) H1.out (by unfold maxLen; omega) (by omega) ?_; intro v' w' hr hc)
    go_ret
    refine ⟨_, rfl, ?_, ?_⟩
    · rw [Nat.zero_add, List.nil_append] at hr
      exact hr.mono (fun b hb => by rcases hb with hb | hb; exact hb; simp only [World.size_alloc] at hb; omega)
    · exact ((Below.refl _ _).alloc (Nat.le_refl _) _).trans (hc.toBelow (by simp) (fun n hn h => by omega))

/-- A row of a copy in whose first places the copies of the elements stand. -/
def Cm (w : World) (B : Nat) (sl : Value) (n : Nat) (ts : List VT) (us rest : List VV) (col : Nat → Nat) : Prop :=
  Row w 31 5 sl n (flat us ++ flat rest) (fun b => (B ≤ b ∧ b < w.heap.size) ∧ col b = 0) ∧ TOwns w col (fun b => B ≤ b ∧ b < w.heap.size) 1 ts us

theorem Cm.later {w w' : World} {B n : Nat} {sl : Value} {ts : List VT} {us rest : List VV} {col : Nat → Nat} (h : Cm w B sl n ts us rest col) (hb : Below w.heap.size w w') : Cm w' B sl n ts us rest col := by
  refine ⟨(h.1.frame (fun k hk hl => hb.block k hl)).mono (fun b hb1 => ⟨⟨hb1.1.1, Nat.lt_of_lt_of_le hb1.1.2 hb.size⟩, hb1.2⟩), TOwns.mk h.2.length (fun j hj => ?_)⟩
  obtain ⟨u, h1, h2⟩ := h.2.get j hj
  exact ⟨u, h1, (h2.frame _ (fun k hk hl => hb.block k hl)).mono _ (fun b hb1 => ⟨⟨hb1.1.1, Nat.lt_of_lt_of_le hb1.1.2 hb.size⟩, hb1.2⟩)⟩

theorem Cm.store {w : World} {B n : Nat} {sl : Value} {ts : List VT} {us rest : List VV} {col : Nat → Nat} (h : Cm w B sl n ts us rest col) {p : Addr} (hp : p.block < B) {u : Value} : Cm (w.setCell p u) B sl n ts us rest col := by
  have hs : (w.setCell p u).heap.size = w.heap.size := by simp [World.setCell]
  have hb : ∀ k, B ≤ k → (w.setCell p u).heap[k]? = w.heap[k]? := fun k hk => Below.heap_setCell _ _ _ _ (by omega)
  refine ⟨(h.1.frame (fun k hk _ => hb k hk.1.1)).mono (fun b hb1 => by rw [hs]; exact hb1), TOwns.mk h.2.length (fun j hj => ?_)⟩
  obtain ⟨v, h1, h2⟩ := h.2.get j hj
  exact ⟨v, h1, (h2.frame _ (fun k hk _ => hb k hk.1.1)).mono _ (fun b hb1 => by rw [hs]; exact hb1)⟩

theorem Cm.step {w0 : World} {B n : Nat} {sl : Value} {ts : List VT} {us rest : List VV} {p : VV} {col : Nat → Nat} (h : Cm w0 B sl n ts us (p :: rest) col) (hn : us.length < n) :
    ∃ g off cap, sl = .slice (some ⟨g, off, none⟩) n cap ∧ n ≤ cap ∧ B ≤ g ∧ g < w0.heap.size ∧ (∀ i, w0.frozen? ⟨g, i, none⟩ = false) ∧ (∀ j u, p.cells[j]? = some u → w0.cell? ⟨g, off + us.length * 5 + j, none⟩ = some u) ∧
      ∀ (w1 : World) (t : VT) (u : VV), TOwn w1 t u (fun b => w0.heap.size ≤ b ∧ b < w1.heap.size) → Below w0.heap.size w0 w1 →
        Cm (w1.setCells g (off + us.length * 5) u.cells) B sl n (ts ++ [t]) (us ++ [u]) rest (fun b => if b < w0.heap.size then col b else if b < w1.heap.size then ts.length + 1 else 0) := by
  obtain ⟨hr, ho⟩ := h
  have hr' : Row w0 31 5 sl n (flat us ++ (p.cells ++ flat rest)) (fun b => (B ≤ b ∧ b < w0.heap.size) ∧ col b = 0) := hr
  obtain ⟨g, off, cap, h1, h2, h3, h4, h5, h6, h7⟩ := hr'.put (flat_length us) rfl hn
  refine ⟨g, off, cap, h1, h2, h3.1.1, h4, h5, h6, fun w1 t u hu hb => ?_⟩
  have s1 := hb.size
  have hsz : (w1.setCells g (off + us.length * 5) u.cells).heap.size = w1.heap.size := setCells_size _ _ _ _
  have hlen := ho.length
  constructor
  · have e : flat (us ++ [u]) ++ flat rest = flat us ++ (u.cells ++ flat rest) := by simp [flat]
    rw [e]
    refine (h7 w1 (fun k hk => by rw [hk]; exact hb.block g h4) u.cells rfl).mono (fun b hb1 => ?_)
    rw [hsz]
    exact ⟨⟨hb1.1.1, by omega⟩, by show (if b < w0.heap.size then _ else _) = 0; rw [if_pos hb1.1.2]; exact hb1.2⟩
  · refine TOwns.mk (by simp [hlen]) (fun j hj => ?_)
    have hj' : j < ts.length + 1 := by simpa using hj
    rcases Nat.lt_or_ge j ts.length with hlt | hge
    · obtain ⟨q, h8, h9⟩ := ho.get j hlt
      refine ⟨q, by rw [List.getElem?_append_left (by rw [hlen]; exact hlt)]; exact h8, ?_⟩
      rw [List.getElem_append_left hlt]
      refine (h9.frame _ (w' := w1.setCells g (off + us.length * 5) u.cells) (fun k hk hl => ?_)).mono _ (fun b hb1 => ⟨⟨hb1.1.1, by rw [hsz]; omega⟩, by rw [if_pos hb1.1.2]; exact hb1.2⟩)
      rw [setCells_other _ _ _ _ _ (fun e => by subst e; have := hk.2; have := h3.2; omega), hb.block k hl]
    · have : j = ts.length := by omega
      subst this
      refine ⟨u, by rw [List.getElem?_append_right (by rw [hlen]; exact Nat.le_refl _), hlen]; simp, ?_⟩
      rw [List.getElem_append_right (Nat.le_refl _)]
      simp only [Nat.sub_self, List.getElem_cons_zero]
      refine (hu.frame _ (w' := w1.setCells g (off + us.length * 5) u.cells) (fun k hk hl => ?_)).mono _ (fun b hb1 => ⟨⟨by omega, by rw [hsz]; exact hb1.2⟩, by rw [if_neg (by omega), if_pos hb1.2]; omega⟩)
      rw [setCells_other _ _ _ _ _ (fun e => by subst e; have := hk.1; omega)]

theorem Cm.own {w : World} {B : Nat} {f : Nat} {s : ByteArray} {a : Option Addr} {c : Nat} {ts : List VT} {us : List VV} {col : Nat → Nat} {kk nn : Int} (h : Cm w B (.slice a ts.length c) ts.length ts us [] col) (hm : ts.length ≤ maxLen) :
    TOwn w (.node kk nn f s ts) ⟨kk, nn, f, s, a, ts.length, c⟩ (fun b => B ≤ b ∧ b < w.heap.size) := by
  rw [TOwn]
  exact ⟨rfl, rfl, rfl, rfl, rfl, hm, .inr ⟨us, col, by simpa [Cm] using h.1, h.2⟩⟩

theorem cells5 {w : World} {b : Nat} {x0 x1 x2 x3 x4 : Value} {t : TypeId} {fr : Nat × Nat} (h : w.heap[b]? = some (.cells #[x0, x1, x2, x3, x4] t fr)) :
    w.cell? ⟨b, 0, none⟩ = some x0 ∧ w.cell? ⟨b, 1, none⟩ = some x1 ∧ w.cell? ⟨b, 2, none⟩ = some x2 ∧ w.cell? ⟨b, 3, none⟩ = some x3 ∧ w.cell? ⟨b, 4, none⟩ = some x4 :=
  ⟨cellAt h 0 rfl, cellAt h 1 rfl, cellAt h 2 rfl, cellAt h 3 rfl, cellAt h 4 rfl⟩
theorem free5 {w : World} {b : Nat} {cs : Array Value} {t : TypeId} (h : w.heap[b]? = some (.cells cs t (0, 0))) :
    w.frozen? ⟨b, 0, none⟩ = false ∧ w.frozen? ⟨b, 1, none⟩ = false ∧ w.frozen? ⟨b, 2, none⟩ = false ∧ w.frozen? ⟨b, 3, none⟩ = false ∧ w.frozen? ⟨b, 4, none⟩ = false :=
  ⟨freeAt h 0, freeAt h 1, freeAt h 2, freeAt h 3, freeAt h 4⟩

set_option maxRecDepth 100000 in
set_option maxHeartbeats 1000000 in
theorem vclone_any (t : VT) : ∀ (v : VV) (S : Nat → Prop) (w : World), TRead w S t v → costT t ≤ 100000 →
    Calls Try.prog 21 #[v.val] w fun e w' => ∃ u : VV, e = .returned u.val ∧ TOwn w' t u (fun b => w.heap.size ≤ b ∧ b < w'.heap.size) ∧ Below w.heap.size w w' := by
  induction t using VT.ind with
  | _ k n f s l ih =>
    intro v S w hv hcost
    obtain ⟨hcl, hcm, -⟩ := costT_len hcost
    have HCM := Lib.hid hcm
    clear hcost hcm
    have HI := Lib.hid ih
    have hval : v.val = .agg #[.int .i64 k, .int .i64 n, .float .f64 f, .string s, .slice v.a l.length v.c] := hv.val
    obtain ⟨vs, hvr, -, hvt⟩ := hv.elems
    have HVR : Hid (Reads w (.slice v.a l.length v.c) l.length 5 (flat vs)) := hvr
    have HVT : Hid (TReads w S l vs) := hvt
    have hvl : vs.length = l.length := hvt.length
    have HVL := Lib.hid hvl
    rw [hval]
    clear hv ih hval hvr hvt hvl
    obtain ⟨va, hva⟩ : ∃ va, va = v.a := ⟨_, rfl⟩
    rw [← hva] at HVR ⊢
    clear hva
    go_enter Try.func21, Try.ntmps21
    go_wp2_with fail
    refine (sclone_any va l.length v.c (flat vs) _ (HVR.out.later ((Below.refl _ _).alloc (Nat.le_refl _) _ |>.alloc (by simp) _)) (fun u hu => by obtain ⟨q, _, hq⟩ := List.mem_flatMap.1 hu; exact q.one u hq) (by omega)).mono ?_
    rintro e w1 ⟨sl, rfl, hrow, hb1⟩
    obtain ⟨a1, c1, rfl⟩ : ∃ a1 c1, sl = .slice a1 l.length c1 := by obtain ⟨-, a1, c1, h, -⟩ := hrow.reads; exact ⟨a1, c1, h⟩
    have HBX0 : Hid (w1.heap[w.heap.size]? = some (.cells #[.int .i64 k, .int .i64 n, .float .f64 f, .string s, .slice va l.length v.c] 31 (0, 0))) := by
      rw [Hid, hb1.block _ (by simp; omega), Below.heap_alloc _ _ _ (by simp)]; exact heap_alloc_new w _
    have HR0 : Hid (w1.heap[w.heap.size + 1]? = some (.cells #[.int .i64 0, .int .i64 0, .float .f64 0, .string ⟨#[]⟩, .slice none 0 0] 31 (0, 0))) := by
      rw [Hid, hb1.block _ (by simp)]
      have := heap_alloc_new (w.alloc (.cells #[.int .i64 k, .int .i64 n, .float .f64 f, .string s, .slice va l.length v.c] 31)) (.cells #[.int .i64 0, .int .i64 0, .float .f64 0, .string ⟨#[]⟩, .slice none 0 0] 31)
      rwa [World.size_alloc] at this
    have HB0 : Hid (Below w.heap.size w w1) := (((Below.refl _ _).alloc (Nat.le_refl _) _).alloc (by simp) _).trans (hb1.mono (by simp; omega))
    have hs1 : Hid (w.heap.size + 2 ≤ w1.heap.size) := by have := hb1.size; simp only [World.size_alloc] at this; exact this
    have HCM0 : Hid (Cm w1 (w.heap.size + 2) (.slice a1 l.length c1) l.length [] [] vs (fun _ => 0)) := by
      refine ⟨(?_ : Row _ _ _ _ _ _ _), by rw [TOwns]⟩
      have := hrow
      simp only [World.size_alloc] at this
      refine ⟨this.1, ?_⟩
      rcases this.2 with h | ⟨g, off, cap, cur, hv, hg, hh, r⟩
      · exact .inl h
      · exact .inr ⟨g, off, cap, cur, hv, ⟨⟨hg, lt_of_heap hh⟩, rfl⟩, hh, r⟩
    clear hrow hb1
    have hx4 := (cells5 HBX0.out).2.2.2.2
    have hf4 := (free5 HBX0.out).2.2.2.2
    go_wp2
    have HBX1 : Hid ((w1.setCell ⟨w.heap.size, 4, none⟩ (.slice a1 l.length c1)).heap[w.heap.size]? = some (.cells #[.int .i64 k, .int .i64 n, .float .f64 f, .string s, .slice a1 l.length c1] 31 (0, 0))) := heap_store HBX0.out 4 _
    have HR1 : Hid ((w1.setCell ⟨w.heap.size, 4, none⟩ (.slice a1 l.length c1)).heap[w.heap.size + 1]? = some (.cells #[.int .i64 0, .int .i64 0, .float .f64 0, .string ⟨#[]⟩, .slice none 0 0] 31 (0, 0))) := (Below.heap_setCell _ _ _ _ (by show w.heap.size + 1 ≠ w.heap.size; omega)).trans HR0.out
    have HB1 : Hid (Below w.heap.size w (w1.setCell ⟨w.heap.size, 4, none⟩ (.slice a1 l.length c1))) := HB0.out.setCell (Nat.le_refl _) _
    have hs2 : Hid (w.heap.size + 2 ≤ (w1.setCell ⟨w.heap.size, 4, none⟩ (.slice a1 l.length c1)).heap.size) := by
      have := hs1.out
      show _ ≤ _
      simp only [World.setCell, Array.size_modify]; omega
    have HCM1 : Hid (Cm (w1.setCell ⟨w.heap.size, 4, none⟩ (.slice a1 l.length c1)) (w.heap.size + 2) (.slice a1 l.length c1) l.length [] [] vs (fun _ => 0)) := HCM0.out.store (by show w.heap.size < _; omega)
    generalize w1.setCell ⟨w.heap.size, 4, none⟩ (.slice a1 l.length c1) = wd at *
    clear HBX0 HR0 HB0 hs1 HCM0 hx4 hf4 w1
    obtain ⟨B2, hB2⟩ : ∃ B2, w.heap.size + 2 = B2 := ⟨_, rfl⟩
    rw [hB2] at hs2 HCM1
    have HE := Lib.hid hB2
    clear hB2
    go_loopw [12] (fun i w' => ∃ (m : Nat) (us : List VV) (col : Nat → Nat), m ≤ l.length ∧ i = .int .i64 m ∧ Hid (us.length = m) ∧
        Hid (w'.heap[w.heap.size]? = some (.cells #[.int .i64 k, .int .i64 n, .float .f64 f, .string s, .slice a1 l.length c1] 31 (0, 0))) ∧ Hid (w'.heap[w.heap.size + 1]? = some (.cells #[.int .i64 0, .int .i64 0, .float .f64 0, .string ⟨#[]⟩, .slice none 0 0] 31 (0, 0))) ∧
        Hid (Cm w' B2 (.slice a1 l.length c1) l.length (l.take m) us (vs.drop m) col) ∧ Hid (Below w.heap.size w w') ∧ Hid (B2 ≤ w'.heap.size)) (fun i _ => l.length - (RowKit.intOf i).toNat)
    case atStart =>
      exact ⟨0, [], fun _ => 0, by omega, rfl, rfl, HBX1, HR1, HCM1, HB1, hs2⟩
    case round =>
      obtain ⟨m, us, col, hm, rfl, HU0, HBX, HR, HCM', HBel, hsz⟩ := hrel
      by_cases hlt : m < l.length
      · obtain ⟨p, hp1, hp2⟩ := HVT.out.get m hlt
        have hdr : vs.drop m = p :: vs.drop (m + 1) := by
          have hlt' : m < vs.length := by rw [HVL.out]; exact hlt
          rw [List.drop_eq_getElem_cons hlt']
          rw [List.getElem?_eq_getElem hlt'] at hp1
          cases hp1; rfl
        rw [hdr] at HCM'
        have HPR : Hid (TRead w S l[m] p) := hp2
        have HTK : Hid (l.take (m + 1) = l.take m ++ [l[m]]) := List.take_succ_eq_append_getElem hlt
        have hcost := HCM.out _ (List.getElem_mem hlt)
        have HIH := Lib.hid (fun wd (hb : Below w.heap.size w wd) => HI.out l[m] (List.getElem_mem hlt) p S wd (hp2.later hb) hcost)
        generalize l[m] = tm at *
        clear hp1 hp2 hdr hcost
        obtain ⟨g, off, cap, hsl, hcap, hBg, hgl, hfr, hcell, hstep⟩ := (HCM'.out.later ((Below.refl _ _).alloc (Nat.le_refl _) (.cells #[.int .i64 p.k, .int .i64 p.n, .float .f64 p.f, .string p.s, .slice p.a p.l p.c] 31))).step (by rw [HU0.out]; exact hlt)
        obtain ⟨rfl, rfl⟩ : a1 = some ⟨g, off, none⟩ ∧ c1 = cap := by cases hsl; exact ⟨rfl, rfl⟩
        obtain ⟨g', off', cap', hsl', -, -, hgl', hfr', hcell', -⟩ := HCM'.out.step (by rw [HU0.out]; exact hlt)
        obtain ⟨rfl, rfl, rfl⟩ : g = g' ∧ off = off' ∧ c1 = cap' := by cases hsl'; exact ⟨rfl, rfl, rfl⟩
        rw [HU0.out] at hcell' hstep
        have hc0 : wr.cell? ⟨g, off + m * 5, none⟩ = some (.int .i64 p.k) := hcell' 0 _ rfl
        have hc1 : wr.cell? ⟨g, off + m * 5 + 1, none⟩ = some (.int .i64 p.n) := hcell' 1 _ rfl
        have hc2 : wr.cell? ⟨g, off + m * 5 + 2, none⟩ = some (.float .f64 p.f) := hcell' 2 _ rfl
        have hc3 : wr.cell? ⟨g, off + m * 5 + 3, none⟩ = some (.string p.s) := hcell' 3 _ rfl
        have hc4 : wr.cell? ⟨g, off + m * 5 + 4, none⟩ = some (.slice p.a p.l p.c) := hcell' 4 _ rfl
        have HST := Lib.hid hstep
        have HFR := Lib.hid hfr'
        clear hsl hfr hcell hstep hsl' hcell' hfr'
        have hx4 := (cells5 HBX.out).2.2.2.2
        go_wp2
        have HBXx : Hid ((wr.alloc (.cells #[.int .i64 p.k, .int .i64 p.n, .float .f64 p.f, .string p.s, .slice p.a p.l p.c] 31)).heap[w.heap.size]? = some (.cells #[.int .i64 k, .int .i64 n, .float .f64 f, .string s, .slice (some ⟨g, off, none⟩) l.length c1] 31 (0, 0))) := (Below.heap_alloc _ _ _ (lt_of_heap HBX.out)).trans HBX.out
        have HRx : Hid ((wr.alloc (.cells #[.int .i64 p.k, .int .i64 p.n, .float .f64 p.f, .string p.s, .slice p.a p.l p.c] 31)).heap[w.heap.size + 1]? = some (.cells #[.int .i64 0, .int .i64 0, .float .f64 0, .string ⟨#[]⟩, .slice none 0 0] 31 (0, 0))) := (Below.heap_alloc _ _ _ (lt_of_heap HR.out)).trans HR.out
        have HXx : Hid ((wr.alloc (.cells #[.int .i64 p.k, .int .i64 p.n, .float .f64 p.f, .string p.s, .slice p.a p.l p.c] 31)).heap[wr.heap.size]? = some (.cells #[.int .i64 p.k, .int .i64 p.n, .float .f64 p.f, .string p.s, .slice p.a p.l p.c] 31 (0, 0))) := heap_alloc_new wr _
        have HBlx : Hid (Below w.heap.size w (wr.alloc (.cells #[.int .i64 p.k, .int .i64 p.n, .float .f64 p.f, .string p.s, .slice p.a p.l p.c] 31))) := HBel.out.alloc (by have := hsz.out; have := HE.out; omega) _
        have hszx : Hid (B2 ≤ (wr.alloc (.cells #[.int .i64 p.k, .int .i64 p.n, .float .f64 p.f, .string p.s, .slice p.a p.l p.c] 31)).heap.size) := by have := hsz.out; show _ ≤ _; simp only [World.size_alloc]; omega
        have HGx : Hid ((wr.alloc (.cells #[.int .i64 p.k, .int .i64 p.n, .float .f64 p.f, .string p.s, .slice p.a p.l p.c] 31)).heap[g]? = wr.heap[g]?) := Below.heap_alloc _ _ _ hgl'
        have HCx : Hid (∀ j, (wr.alloc (.cells #[.int .i64 p.k, .int .i64 p.n, .float .f64 p.f, .string p.s, .slice p.a p.l p.c] 31)).cell? ⟨g, j, none⟩ = wr.cell? ⟨g, j, none⟩) := fun j => World.cell?_of_block HGx.out
        have HFx : Hid (∀ j, (wr.alloc (.cells #[.int .i64 p.k, .int .i64 p.n, .float .f64 p.f, .string p.s, .slice p.a p.l p.c] 31)).frozen? ⟨g, j, none⟩ = false) := fun j => (World.frozen?_of_block HGx.out).trans (HFR.out j)
        have hd0 := (HCx.out _).trans hc0
        have hd1 := (HCx.out _).trans hc1
        have hd2 := (HCx.out _).trans hc2
        have hd3 := (HCx.out _).trans hc3
        have hd4 := (HCx.out _).trans hc4
        have HD : Hid ((wr.alloc (.cells #[.int .i64 p.k, .int .i64 p.n, .float .f64 p.f, .string p.s, .slice p.a p.l p.c] 31)).cell? ⟨g, off + m * 5, none⟩ = some (.int .i64 p.k) ∧ (wr.alloc (.cells #[.int .i64 p.k, .int .i64 p.n, .float .f64 p.f, .string p.s, .slice p.a p.l p.c] 31)).cell? ⟨g, off + m * 5 + 1, none⟩ = some (.int .i64 p.n) ∧ (wr.alloc (.cells #[.int .i64 p.k, .int .i64 p.n, .float .f64 p.f, .string p.s, .slice p.a p.l p.c] 31)).cell? ⟨g, off + m * 5 + 2, none⟩ = some (.float .f64 p.f) ∧ (wr.alloc (.cells #[.int .i64 p.k, .int .i64 p.n, .float .f64 p.f, .string p.s, .slice p.a p.l p.c] 31)).cell? ⟨g, off + m * 5 + 3, none⟩ = some (.string p.s) ∧ (wr.alloc (.cells #[.int .i64 p.k, .int .i64 p.n, .float .f64 p.f, .string p.s, .slice p.a p.l p.c] 31)).cell? ⟨g, off + m * 5 + 4, none⟩ = some (.slice p.a p.l p.c)) := ⟨hd0, hd1, hd2, hd3, hd4⟩
        have hXlt : wr.heap.size < B2 → False := by have := hsz.out; omega
        clear hd0 hd1 hd2 hd3 hd4 HCx hc0 hc1 hc2 hc3 hc4 hx4 hgl' HGx HFR HBX HR HBel hsz HCM'
        generalize (wr.alloc (.cells #[.int .i64 p.k, .int .i64 p.n, .float .f64 p.f, .string p.s, .slice p.a p.l p.c] 31)) = wx at *
        generalize wr.heap.size = X at *
        clear wr
        have hx4 := (cells5 HBXx.out).2.2.2.2
        have hp0 := (cells5 HXx.out).1
        have hp1 := (cells5 HXx.out).2.1
        have hp2 := (cells5 HXx.out).2.2.1
        have hp3 := (cells5 HXx.out).2.2.2.1
        have hp4 := (cells5 HXx.out).2.2.2.2
        go_region_law
          (first
          | (go_simp; go_at_call 21; refine (HIH.out _ HBlx.out.drew).mono ?_; rintro e w1 ⟨u, rfl, hu, hb⟩
             have HU := Lib.hid (show TOwn w1 tm u (fun b => wx.heap.size ≤ b ∧ b < w1.heap.size) from hu)
             have HB01 := Lib.hid (show Below wx.heap.size wx w1 from undrew hb)
             have HBX1 := Lib.hid ((HB01.out.block _ (lt_of_heap HBXx.out)).trans HBXx.out)
             have hz4 := (cells5 HBX1.out).2.2.2.2
             have HG1 := Lib.hid (HB01.out.block g hgl)
             have he0 := (World.cell?_of_block (a := ⟨g, off + m * 5, none⟩) HG1.out).trans HD.out.1
             have he1 := (World.cell?_of_block (a := ⟨g, off + m * 5 + 1, none⟩) HG1.out).trans HD.out.2.1
             have he2 := (World.cell?_of_block (a := ⟨g, off + m * 5 + 2, none⟩) HG1.out).trans HD.out.2.2.1
             have he3 := (World.cell?_of_block (a := ⟨g, off + m * 5 + 3, none⟩) HG1.out).trans HD.out.2.2.2.1
             have he4 := (World.cell?_of_block (a := ⟨g, off + m * 5 + 4, none⟩) HG1.out).trans HD.out.2.2.2.2
             have hf0 := (World.frozen?_of_block (a := ⟨g, off + m * 5, none⟩) HG1.out).trans (HFx.out _)
             have hf1 := (World.frozen?_of_block (a := ⟨g, off + m * 5 + 1, none⟩) HG1.out).trans (HFx.out _)
             have hf2 := (World.frozen?_of_block (a := ⟨g, off + m * 5 + 2, none⟩) HG1.out).trans (HFx.out _)
             have hf3 := (World.frozen?_of_block (a := ⟨g, off + m * 5 + 3, none⟩) HG1.out).trans (HFx.out _)
             have hf4 := (World.frozen?_of_block (a := ⟨g, off + m * 5 + 4, none⟩) HG1.out).trans (HFx.out _)
             have HR1 := Lib.hid ((HB01.out.block _ (lt_of_heap HRx.out)).trans HRx.out)
             clear hu hb)
          | fail)
        all_goals
          obtain ⟨col', HCF⟩ : ∃ col', Hid (Cm (w1.setCells g (off + m * 5) u.cells) B2 (.slice (some ⟨g, off, none⟩) l.length c1) l.length (l.take m ++ [tm]) (us ++ [u]) (vs.drop (m + 1)) col') := ⟨_, HST.out w1 tm u HU.out HB01.out⟩
          have hne : w.heap.size ≠ g ∧ w.heap.size + 1 ≠ g := by have := HE.out; omega
          go_wp2
          go_roundw
          case rel =>
            refine ⟨m + 1, us ++ [u], col', by omega, by go_num, ?_, ?_, ?_, ?_, ?_, ?_⟩
            rotate_left
            · exact (setCells_other g u.cells (off + m * 5) w1 _ hne.1).trans HBX1.out
            · exact (setCells_other g u.cells (off + m * 5) w1 _ hne.2).trans HR1.out
            · rw [HTK.out]; exact HCF.out
            · have h1 : Chg (fun b => b = g) w1 (w1.setCells g (off + m * 5) u.cells) := (Chg.refl (fun b => b = g) w1).setCells (g := g) (.inl rfl) (off + m * 5) u.cells
              have h2 := HBlx.out.size
              have h3 := HB01.out.size
              exact (HBlx.out.trans (HB01.out.mono HBlx.out.size)).trans (h1.toBelow (by omega) (fun j hj e => by have e2 : j = g := e; have h4 := HE.out; omega))
            · show B2 ≤ (w1.setCells g (off + m * 5) u.cells).heap.size
              rw [setCells_size]
              have h2 := hszx.out
              have h3 := HB01.out.size
              omega
            · show (us ++ [u]).length = m + 1
              rw [List.length_append, HU0.out]; rfl
          case measure => simp [RowKit.intOf]; omega
      · obtain rfl : m = l.length := by omega
        have hx := cells5 HBX.out
        have hy := cells5 HR.out
        have hf := free5 HR.out
        obtain ⟨hx0, hx1, hx2, hx3, hx4⟩ := hx
        obtain ⟨hy0, hy1, hy2, hy3, hy4⟩ := hy
        obtain ⟨hf0, hf1, hf2, hf3, hf4⟩ := hf
        go_wp2
        have hle : w.heap.size + 1 < B2 := by have := HE.out; omega
        have HCF := ((((HCM'.out.store (p := ⟨w.heap.size + 1, 0, none⟩) (u := .int .i64 k) hle).store (p := ⟨w.heap.size + 1, 1, none⟩) (u := .int .i64 n) hle).store (p := ⟨w.heap.size + 1, 2, none⟩) (u := .float .f64 f) hle).store (p := ⟨w.heap.size + 1, 3, none⟩) (u := .string s) hle).store (p := ⟨w.heap.size + 1, 4, none⟩) (u := .slice a1 l.length c1) hle
        have HBF := ((((HBel.out.setCell (p := ⟨w.heap.size + 1, 0, none⟩) (by show w.heap.size ≤ w.heap.size + 1; omega) (.int .i64 k)).setCell (p := ⟨w.heap.size + 1, 1, none⟩) (by show w.heap.size ≤ w.heap.size + 1; omega) (.int .i64 n)).setCell (p := ⟨w.heap.size + 1, 2, none⟩) (by show w.heap.size ≤ w.heap.size + 1; omega) (.float .f64 f)).setCell (p := ⟨w.heap.size + 1, 3, none⟩) (by show w.heap.size ≤ w.heap.size + 1; omega) (.string s)).setCell (p := ⟨w.heap.size + 1, 4, none⟩) (by show w.heap.size ≤ w.heap.size + 1; omega) (.slice a1 l.length c1)
        have HRF := setCells_same _ _ [.int .i64 k, .int .i64 n, .float .f64 f, .string s, .slice a1 l.length c1] 0 _ _ HR.out (by simp)
        refine bodyPost_ret (results_cell_row (P := Try.prog) rfl _ _ (w.heap.size + 1) 31 #[.int .i64 k, .int .i64 n, .float .f64 f, .string s, .slice a1 l.length c1] (0, 0) _ rfl HRF Try.underlying31 rfl rfl) rfl ?_
        rw [List.drop_of_length_le (Nat.le_of_eq HVL.out), List.take_length] at HCF
        exact ⟨⟨k, n, f, s, a1, l.length, c1⟩, rfl, (HCF.own (by unfold maxLen; omega)).mono _ (fun b hb => ⟨by omega, hb.2⟩), HBF⟩
end Go.Proofs.Ytbofbboogmeneaa
