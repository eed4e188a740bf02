/- SegName -/
import Derived.Test.YtgdmdbdljmlkkaaGreatDoorChecked
import Derived.Test.YtgdmdbdljmlkkaaGreatDoorTz01
import Derived.Test.YtgdmdbdljmlkkaaGreatDoorTz03
import Derived.Lib.ItoaNum
import Derived.Lib.Repeat
import GoSem.Op.String
import Derived.Lib.SlicesCompact
set_option maxRecDepth 100000
set_option linter.unusedVariables false
set_option linter.unusedSimpArgs false
namespace Go.Proofs.YtgdmdbdljmlkkaaGreatDoor
open Go.Lib
def pre4 : List UInt8 := [108, 111, 103, 45]
def dg8 (n : Nat) : List UInt8 := (List.range 8).map fun t => dg n (7 - t)
def low (n i : Nat) : List UInt8 := (List.range i).map fun t => dg n (i - 1 - t)
def nameL (n : Nat) : List UInt8 := pre4 ++ dg8 n
def isD (c : UInt8) : Bool := 48 ≤ c.toNat && c.toNat ≤ 57
def val (l : List UInt8) : Nat := l.foldl (fun n c => 10 * n + (c.toNat - 48)) 0
def goodB (l : List UInt8) : Bool := l.length == 12 && l.take 4 == pre4 && (l.drop 4).all isD
def numV (l : List UInt8) : Nat := if goodB l then val (l.drop 4) else 0
theorem low_succ (n i : Nat) : low n (i + 1) = dg n i :: low n i := by
 unfold low
 rw [List.range_succ_eq_map]
 simp only [List.map_cons, List.map_map, Nat.add_sub_cancel, Nat.sub_zero, List.cons.injEq, true_and]
 apply List.map_congr_left
 intro t ht
 have : t < i := List.mem_range.1 ht
 simp only [Function.comp]
 congr 1
 omega
theorem low_eight (n : Nat) : low n 8 = dg8 n := rfl
theorem low_length (n i : Nat) : (low n i).length = i := by simp [low]
theorem dg8_length (n : Nat) : (dg8 n).length = 8 := by simp [dg8]
theorem nameL_length (n : Nat) : (nameL n).length = 12 := by simp [nameL, pre4, dg8_length]
theorem nDigits_le8 (n : Nat) (h : n ≤ 99999999) : nDigits n ≤ 8 := by
 by_cases h0 : n < 10
 · rw [nDigits_small h0]; omega
 · have hp := nDigits_pos n
   by_cases h8 : nDigits n ≤ 8
   · exact h8
   · exfalso
     have key : ∀ k u, u < 10 ^ (k + 1) → nDigits u ≤ k + 1 := by
       intro k
       induction k with
       | zero => intro u hu; rw [nDigits_small (by simpa using hu)]; omega
       | succ k ih =>
         intro u hu
         by_cases hu0 : u < 10
         · rw [nDigits_small hu0]; omega
         · rw [nDigits_big hu0]
           have := ih (u / 10) (by rw [Nat.pow_succ] at hu; omega)
           omega
     have := key 7 n (by omega)
     omega
theorem padded (n : Nat) (h : n ≤ 99999999) : repeatL [48] (8 - nDigits n) ++ decDigits n = dg8 n := by
 have h8 := nDigits_le8 n h
 have hp := nDigits_pos n
 have hlt := lt_pow_nDigits n
 have hrep : ∀ c, repeatL [48] c = List.replicate c (48 : UInt8) := by
   intro c
   induction c with
   | zero => rfl
   | succ c ih => rw [repeatL, ih]; rfl
 rw [hrep, decDigits_eq]
 apply List.ext_getElem
 · simp [dg8_length]; omega
 · intro t h1 h2
   simp only [dg8, List.getElem_map, List.getElem_range]
   by_cases ht : t < 8 - nDigits n
   · rw [List.getElem_append_left (by simpa using ht)]
     simp only [List.getElem_replicate]
     unfold dg
     have : n / 10 ^ (7 - t) = 0 := Nat.div_eq_of_lt (Nat.lt_of_lt_of_le hlt (Nat.pow_le_pow_right (by decide) (by omega)))
     rw [this]; rfl
   · rw [List.getElem_append_right (by simpa using ht)]
     simp only [List.length_replicate, List.getElem_map, List.getElem_range]
     congr 1
     rw [dg8_length] at h2
     omega
theorem val_snoc (l : List UInt8) (c : UInt8) : val (l ++ [c]) = 10 * val l + (c.toNat - 48) := by
 simp [val, List.foldl_append]
theorem val_bound : ∀ (k : Nat) (l : List UInt8), l.length = k → l.all isD = true → val l < 10 ^ k := by
 intro k
 induction k with
 | zero => intro l hl _; rw [List.eq_nil_of_length_eq_zero hl]; decide
 | succ k ih =>
   intro l hl hd
   have hne : l ≠ [] := by intro e; rw [e] at hl; simp at hl
   rw [← List.dropLast_concat_getLast hne] at hd ⊢
   rw [List.all_append] at hd
   simp only [Bool.and_eq_true, List.all_cons, List.all_nil, Bool.and_true] at hd
   have := ih l.dropLast (by simp [hl]) hd.1
   rw [val_snoc, Nat.pow_succ]
   have hc := hd.2
   simp only [isD, Bool.and_eq_true, decide_eq_true_eq] at hc
   omega
theorem dg_val_snoc0 (v d : Nat) (hd : d ≤ 9) : dg (10 * v + d) 0 = UInt8.ofNat (48 + d) := by
 unfold dg
 rw [Nat.pow_zero, Nat.div_one]
 congr 2
 omega
theorem low_val : ∀ (k : Nat) (l : List UInt8), l.length = k → l.all isD = true → low (val l) k = l := by
 intro k
 induction k with
 | zero => intro l hl _; rw [List.eq_nil_of_length_eq_zero hl]; rfl
 | succ k ih =>
   intro l hl hd
   have hne : l ≠ [] := by intro e; rw [e] at hl; simp at hl
   rw [← List.dropLast_concat_getLast hne] at hd ⊢
   rw [List.all_append] at hd
   simp only [Bool.and_eq_true, List.all_cons, List.all_nil, Bool.and_true] at hd
   have ihl := ih l.dropLast (by simp [hl]) hd.1
   have hc := hd.2
   simp only [isD, Bool.and_eq_true, decide_eq_true_eq] at hc
   rw [val_snoc]
   generalize hc0 : l.getLast hne = c at hc ⊢
   apply List.ext_getElem
   · simp [low_length, hl]
   · intro t h1 h2
     rw [low_length] at h1
     simp only [low, List.getElem_map, List.getElem_range]
     by_cases ht : t < k
     · rw [List.getElem_append_left (by simp [hl]; omega)]
       have e1 : k + 1 - 1 - t = (k - 1 - t) + 1 := by omega
       rw [e1, dg_succ, show (10 * val l.dropLast + (c.toNat - 48)) / 10 = val l.dropLast by omega]
       have hg : (low (val l.dropLast) k)[t]'(by rw [low_length]; exact ht) = l.dropLast[t]'(by simp [hl]; omega) := by simp only [ihl]
       rw [← hg]
       simp [low]
     · have e : t = k := by omega
       subst e
       rw [List.getElem_append_right (by simp [hl])]
       simp only [List.getElem_singleton]
       rw [show t + 1 - 1 - t = 0 by omega, dg_val_snoc0 _ _ (by omega)]
       have : 48 + (c.toNat - 48) = c.toNat := by omega
       rw [this]
       simp
theorem goodB_iff (l : List UInt8) : goodB l = true ↔ l.length = 12 ∧ l.take 4 = pre4 ∧ (l.drop 4).all isD = true := by
 simp [goodB, and_assoc]
theorem numV_le (l : List UInt8) : numV l ≤ 99999999 := by
 unfold numV
 split
 · rename_i h
   obtain ⟨h1, h2, h3⟩ := (goodB_iff l).1 h
   have := val_bound 8 (l.drop 4) (by simp [h1]) h3
   omega
 · omega
theorem name_of_good (l : List UInt8) (h : goodB l = true) : nameL (val (l.drop 4)) = l := by
 obtain ⟨h1, h2, h3⟩ := (goodB_iff l).1 h
 unfold nameL
 rw [← low_eight, low_val 8 (l.drop 4) (by simp [h1]) h3, ← h2, List.take_append_drop]
theorem name_numV (l : List UInt8) (h : 0 < numV l) : nameL (numV l) = l := by
 unfold numV at h ⊢
 split at h
 · rename_i hg; rw [if_pos hg]; exact name_of_good l hg
 · omega
theorem dg_isD (n j : Nat) : isD (dg n j) = true := by
 unfold isD dg
 have : (UInt8.ofNat (48 + n / 10 ^ j % 10)).toNat = 48 + n / 10 ^ j % 10 := by
   rw [UInt8.toNat_ofNat']
   omega
 rw [this]
 simp only [Bool.and_eq_true, decide_eq_true_eq]
 omega
theorem dg8_isD (n : Nat) : (dg8 n).all isD = true := by
 rw [List.all_eq_true]
 intro c hc
 obtain ⟨t, _, rfl⟩ := List.mem_map.1 hc
 exact dg_isD _ _
theorem val_low (n : Nat) : ∀ k, val (low n k) = n % 10 ^ k := by
 have key : ∀ k m, val (low m k) = m % 10 ^ k := by
   intro k
   induction k with
   | zero => intro m; simp [low, val, Nat.mod_one]
   | succ k ih =>
     intro m
     have e : low m (k + 1) = low (m / 10) k ++ [dg m 0] := by
       unfold low
       rw [List.range_succ, List.map_append]
       congr 1
       · apply List.map_congr_left
         intro t ht
         have : t < k := List.mem_range.1 ht
         rw [show k + 1 - 1 - t = (k - 1 - t) + 1 by omega, dg_succ]
       · simp
     rw [e, val_snoc, ih]
     have hd : (dg m 0).toNat - 48 = m % 10 := by
       unfold dg
       rw [UInt8.toNat_ofNat', Nat.pow_zero, Nat.div_one]
       omega
     rw [hd, Nat.pow_succ, Nat.mul_comm (10 ^ k) 10, Nat.mod_mul]
     omega
 exact fun k => key k n
theorem good_name (n : Nat) : goodB (nameL n) = true := by
 rw [goodB_iff]
 refine ⟨nameL_length n, by simp [nameL, pre4], ?_⟩
 have : (nameL n).drop 4 = dg8 n := by simp [nameL, pre4]
 rw [this]; exact dg8_isD n
theorem numV_name (n : Nat) (h : n ≤ 99999999) : numV (nameL n) = n := by
 unfold numV
 rw [if_pos (good_name n)]
 have : (nameL n).drop 4 = dg8 n := by simp [nameL, pre4]
 rw [this, ← low_eight, val_low, Nat.mod_eq_of_lt (by omega)]
theorem dg_toNat (n j : Nat) : (dg n j).toNat = 48 + n / 10 ^ j % 10 := by
 unfold dg
 rw [UInt8.toNat_ofNat']
 omega
theorem less_low (m n : Nat) : ∀ k, Op.bytesLess (low m k) (low n k) = decide (m % 10 ^ k < n % 10 ^ k) := by
 intro k
 induction k with
 | zero => simp [low, Op.bytesLess, Nat.mod_one]
 | succ k ih =>
   rw [low_succ, low_succ, Op.bytesLess, ih]
   have hm := Nat.mod_lt m (Nat.pow_pos (n := k) (show 0 < 10 by decide))
   have hn := Nat.mod_lt n (Nat.pow_pos (n := k) (show 0 < 10 by decide))
   have em : m % 10 ^ (k + 1) = m % 10 ^ k + 10 ^ k * (m / 10 ^ k % 10) := by rw [Nat.pow_succ, Nat.mod_mul]
   have en : n % 10 ^ (k + 1) = n % 10 ^ k + 10 ^ k * (n / 10 ^ k % 10) := by rw [Nat.pow_succ, Nat.mod_mul]
   rw [em, en]
   have hl : (dg m k < dg n k) ↔ m / 10 ^ k % 10 < n / 10 ^ k % 10 := by
     rw [UInt8.lt_iff_toNat_lt, dg_toNat, dg_toNat]; omega
   have he : (dg m k = dg n k) ↔ m / 10 ^ k % 10 = n / 10 ^ k % 10 := by
     rw [← UInt8.toNat_inj, dg_toNat, dg_toNat]; omega
   generalize m / 10 ^ k % 10 = p at *
   generalize n / 10 ^ k % 10 = q at *
   generalize m % 10 ^ k = r at *
   generalize n % 10 ^ k = s at *
   generalize 10 ^ k = t at *
   rw [Bool.eq_iff_iff]
   simp only [Bool.or_eq_true, Bool.and_eq_true, decide_eq_true_eq, beq_iff_eq, hl, he]
   rcases Nat.lt_trichotomy p q with h | h | h
   · have : t * (p + 1) ≤ t * q := Nat.mul_le_mul_left t h
     rw [Nat.mul_add, Nat.mul_one] at this
     constructor
     · intro _; omega
     · intro _; exact .inl h
   · subst h
     constructor
     · rintro (h | ⟨_, h⟩) <;> omega
     · intro h'; exact .inr ⟨rfl, by omega⟩
   · have : t * (q + 1) ≤ t * p := Nat.mul_le_mul_left t h
     rw [Nat.mul_add, Nat.mul_one] at this
     constructor
     · rintro (h' | ⟨h', _⟩) <;> omega
     · intro h'; omega
theorem less_name (m n : Nat) (hm : m ≤ 99999999) (hn : n ≤ 99999999) : Op.bytesLess (nameL m) (nameL n) = decide (m < n) := by
 have key : ∀ (p : List UInt8) (x y : List UInt8), Op.bytesLess (p ++ x) (p ++ y) = Op.bytesLess x y := by
   intro p x y
   induction p with
   | nil => rfl
   | cons a p ih =>
     simp only [List.cons_append, Op.bytesLess, ih]
     simp [UInt8.lt_irrefl]
 unfold nameL
 rw [key, ← low_eight, ← low_eight, less_low, Nat.mod_eq_of_lt (by omega), Nat.mod_eq_of_lt (by omega)]
def numsL (ss : List ByteArray) : List Int := (ss.filter fun s => decide (0 < numV s.data.toList)).map fun s => (numV s.data.toList : Int)
def insAt (l : List Int) (n : Int) : Nat := (l.takeWhile fun x => decide (x < n)).length
def ins (l : List Int) (n : Int) : List Int := if l.contains n then l else l.take (insAt l n) ++ [n] ++ l.drop (insAt l n)
def refL (ss : List ByteArray) : List Int := (numsL ss).foldl ins []
theorem numsL_snoc (ss : List ByteArray) (s : ByteArray) : numsL (ss ++ [s]) = numsL ss ++ (if 0 < numV s.data.toList then [(numV s.data.toList : Int)] else []) := by
 unfold numsL
 rw [List.filter_append, List.map_append]
 by_cases h : 0 < numV s.data.toList <;> simp [h]
theorem refL_snoc (ss : List ByteArray) (s : ByteArray) : refL (ss ++ [s]) = if 0 < numV s.data.toList then ins (refL ss) (numV s.data.toList) else refL ss := by
 unfold refL
 rw [numsL_snoc]
 by_cases h : 0 < numV s.data.toList <;> simp [h]
theorem numsL_length (ss : List ByteArray) : (numsL ss).length ≤ ss.length := by
 unfold numsL; rw [List.length_map]; exact List.length_filter_le _ _
theorem insAt_le (l : List Int) (n : Int) : insAt l n ≤ l.length := by
 unfold insAt
 exact (List.takeWhile_sublist _).length_le
theorem insAt_lt (l : List Int) (n : Int) (j : Nat) (h : j < insAt l n) (hj : j < l.length) : l[j] < n := by
 induction l generalizing j with
 | nil => simp at hj
 | cons a l ih =>
   unfold insAt at h
   rw [List.takeWhile_cons] at h
   split at h
   · rename_i ha
     cases j with
     | zero => simpa using ha
     | succ j => exact ih j (by simpa [insAt] using h) (by simpa using hj)
   · simp at h
theorem insAt_stop (l : List Int) (n : Int) (hj : insAt l n < l.length) : ¬ l[insAt l n] < n := by
 induction l with
 | nil => simp at hj
 | cons a l ih =>
   by_cases ha : a < n
   · have e : insAt (a :: l) n = insAt l n + 1 := by unfold insAt; rw [List.takeWhile_cons]; simp [ha]
     simp only [e] at hj ⊢
     exact ih (by simpa using hj)
   · have e : insAt (a :: l) n = 0 := by unfold insAt; rw [List.takeWhile_cons]; simp [ha]
     simp only [e]
     exact ha
theorem ins_length (l : List Int) (n : Int) : (ins l n).length ≤ l.length + 1 := by
 unfold ins
 split
 · omega
 · have := insAt_le l n
   simp only [List.length_append, List.length_take, List.length_drop, List.length_singleton]
   omega
theorem refL_length (ss : List ByteArray) : (refL ss).length ≤ ss.length := by
 have key : ∀ (m l : List Int), (m.foldl ins l).length ≤ l.length + m.length := by
   intro m
   induction m with
   | nil => intro l; simp
   | cons a m ih =>
     intro l
     have := ih (ins l a)
     have := ins_length l a
     simp only [List.foldl_cons, List.length_cons]
     omega
 have := key (numsL ss) []
 have := numsL_length ss
 unfold refL
 simp only [List.length_nil] at *
 omega
def Inc (l : List Int) : Prop := l.Pairwise (· < ·)
theorem inc_ext {a b : List Int} (ha : Inc a) (hb : Inc b) (h : ∀ x, x ∈ a ↔ x ∈ b) : a = b := by
 induction a generalizing b with
 | nil =>
   cases b with
   | nil => rfl
   | cons y b => exact absurd ((h y).2 (List.mem_cons_self ..)) (by simp)
 | cons x a ih =>
   cases b with
   | nil => exact absurd ((h x).1 (List.mem_cons_self ..)) (by simp)
   | cons y b =>
     have ha' := List.pairwise_cons.1 ha
     have hb' := List.pairwise_cons.1 hb
     have hxy : x = y := by
       rcases List.mem_cons.1 ((h x).1 (List.mem_cons_self ..)) with e | e
       · exact e
       · rcases List.mem_cons.1 ((h y).2 (List.mem_cons_self ..)) with e' | e'
         · exact e'.symm
         · have h1 := hb'.1 x e
           have h2 := ha'.1 y e'
           omega
     subst hxy
     congr 1
     apply ih ha'.2 hb'.2
     intro z
     have hz := h z
     simp only [List.mem_cons] at hz
     constructor
     · intro hm
       rcases hz.1 (.inr hm) with e | e
       · subst e; exact absurd (ha'.1 z hm) (by omega)
       · exact e
     · intro hm
       rcases hz.2 (.inr hm) with e | e
       · subst e; exact absurd (hb'.1 z hm) (by omega)
       · exact e
theorem mem_ins (l : List Int) (n x : Int) : x ∈ ins l n ↔ x ∈ l ∨ x = n := by
 unfold ins
 split
 · rename_i h
   have hn : n ∈ l := by simpa using h
   constructor
   · exact .inl
   · rintro (h | rfl)
     · exact h
     · exact hn
 · have hd := List.take_append_drop (insAt l n) l
   have hm : x ∈ l ↔ x ∈ l.take (insAt l n) ∨ x ∈ l.drop (insAt l n) := by
     rw [← List.mem_append, hd]
   rw [hm]
   simp only [List.mem_append, List.mem_singleton]
   constructor
   · rintro ((h | h) | h)
     · exact .inl (.inl h)
     · exact .inr h
     · exact .inl (.inr h)
   · rintro ((h | h) | h)
     · exact .inl (.inl h)
     · exact .inr h
     · exact .inl (.inr h)
theorem inc_ins (l : List Int) (n : Int) (h : Inc l) : Inc (ins l n) := by
 unfold ins
 split
 · exact h
 · rename_i hc
   have hn : n ∉ l := by simpa using hc
   have hlt : ∀ x ∈ l.take (insAt l n), x < n := by
     intro x hx
     have e : l.take (insAt l n) = l.takeWhile fun x => decide (x < n) := by
       have hp := List.takeWhile_prefix (l := l) fun x => decide (x < n)
       exact (List.prefix_iff_eq_take.1 hp).symm
     rw [e] at hx
     have key : ∀ (l : List Int) x, x ∈ l.takeWhile (fun x => decide (x < n)) → x < n := by
       intro l
       induction l with
       | nil => intro x hx; simp at hx
       | cons a l ih =>
         intro x hx
         rw [List.takeWhile_cons] at hx
         split at hx
         · rename_i ha
           rcases List.mem_cons.1 hx with e | e
           · subst e; simpa using ha
           · exact ih x e
         · simp at hx
     exact key l x hx
   have hge : ∀ x ∈ l.drop (insAt l n), n < x := by
     have key : ∀ (l : List Int), Inc l → n ∉ l → ∀ x ∈ l.drop (insAt l n), n < x := by
       intro l
       induction l with
       | nil => intro _ _ x hx; simp at hx
       | cons a l ih =>
         intro hl hnl x hx
         have hl' := List.pairwise_cons.1 hl
         unfold insAt at hx
         rw [List.takeWhile_cons] at hx
         split at hx
         · simp only [List.length_cons, List.drop_succ_cons] at hx
           exact ih hl'.2 (fun hm => hnl (List.mem_cons_of_mem _ hm)) x hx
         · rename_i ha
           have ha' : ¬ a < n := by simpa using ha
           have hne : a ≠ n := fun e => hnl (by rw [e]; exact List.mem_cons_self ..)
           simp only [List.length_nil, List.drop_zero] at hx
           rcases List.mem_cons.1 hx with e | e
           · omega
           · have := hl'.1 x e; omega
     exact key l h hn
   have h1 : (l.take (insAt l n)).Pairwise (· < ·) := h.sublist (List.take_sublist _ _)
   have h2 : (l.drop (insAt l n)).Pairwise (· < ·) := h.sublist (List.drop_sublist _ _)
   show List.Pairwise (· < ·) _
   rw [List.pairwise_append, List.pairwise_append]
   refine ⟨⟨h1, by simp, ?_⟩, h2, ?_⟩
   · intro x hx y hy
     rw [List.mem_singleton.1 hy]; exact hlt x hx
   · intro x hx y hy
     rcases List.mem_append.1 hx with hx | hx
     · have := hlt x hx; have := hge y hy; omega
     · rw [List.mem_singleton.1 hx]; exact hge y hy
theorem inc_foldl (m : List Int) : ∀ l, Inc l → Inc (m.foldl ins l) := by
 induction m with
 | nil => intro l h; exact h
 | cons a m ih => intro l h; exact ih _ (inc_ins l a h)
theorem mem_foldl (m : List Int) (x : Int) : ∀ l, x ∈ m.foldl ins l ↔ x ∈ l ∨ x ∈ m := by
 induction m with
 | nil => intro l; simp
 | cons a m ih =>
   intro l
   rw [List.foldl_cons, ih, mem_ins, List.mem_cons, or_assoc]
theorem inc_refL (ss : List ByteArray) : Inc (refL ss) := inc_foldl _ _ List.Pairwise.nil
theorem mem_refL (ss : List ByteArray) (x : Int) : x ∈ refL ss ↔ x ∈ numsL ss := by
 unfold refL; rw [mem_foldl]; simp
theorem compact_inc (d : Array Int) (hs : ∀ i j, i ≤ j → j < d.size → d[i]! ≤ d[j]!) : ∀ m, m ≤ d.size → Inc (compactUpTo d m) ∧ ∀ x, x ∈ compactUpTo d m ↔ ∃ j, j < m ∧ d[j]! = x := by
 intro m
 induction m with
 | zero => intro _; exact ⟨by simp [compactUpTo, Inc], fun x => by simp [compactUpTo]⟩
 | succ m ih =>
   intro hm
   obtain ⟨h1, h2⟩ := ih (by omega)
   rw [compactUpTo_succ]
   cases hk : keeps d m with
   | true =>
     simp only [if_true]
     refine ⟨?_, fun x => ?_⟩
     · show List.Pairwise (· < ·) _
       rw [List.pairwise_append]
       refine ⟨h1, by simp, fun x hx y hy => ?_⟩
       rw [List.mem_singleton.1 hy]
       obtain ⟨j, hj, rfl⟩ := (h2 x).1 hx
       have hne : d[m]! ≠ d[m - 1]! := by
         simp only [keeps, decide_eq_true_eq] at hk
         rcases hk with e | e
         · omega
         · exact e
       have a1 := hs j (m - 1) (by omega) (by omega)
       have a2 := hs (m - 1) m (by omega) (by omega)
       omega
     · rw [List.mem_append, List.mem_singleton, h2]
       constructor
       · rintro (⟨j, hj, e⟩ | rfl)
         · exact ⟨j, by omega, e⟩
         · exact ⟨m, by omega, rfl⟩
       · rintro ⟨j, hj, e⟩
         by_cases hjm : j = m
         · subst hjm; exact .inr e.symm
         · exact .inl ⟨j, by omega, e⟩
   | false =>
     simp only [Bool.false_eq_true, if_false, List.append_nil]
     refine ⟨h1, fun x => ?_⟩
     rw [h2]
     simp only [keeps, decide_eq_false_iff_not, not_or, Classical.not_not] at hk
     constructor
     · rintro ⟨j, hj, e⟩; exact ⟨j, by omega, e⟩
     · rintro ⟨j, hj, e⟩
       by_cases hjm : j = m
       · subst hjm; exact ⟨j - 1, by omega, by rw [← hk.2]; exact e⟩
       · exact ⟨j, by omega, e⟩
theorem compact_sorted (zs : List Int) (hs : zs.Pairwise (· ≤ ·)) : Inc (compact zs) ∧ ∀ x, x ∈ compact zs ↔ x ∈ zs := by
 have hd : ∀ i j, i ≤ j → j < zs.toArray.size → zs.toArray[i]! ≤ zs.toArray[j]! := by
   intro i j hij hj
   have hj' : j < zs.length := by simpa using hj
   rw [getElem!_pos zs.toArray i (by simp; omega), getElem!_pos zs.toArray j hj]
   simp only [List.getElem_toArray]
   by_cases e : i = j
   · subst e; exact Int.le_refl _
   · exact List.pairwise_iff_getElem.1 hs i j (by omega) hj' (by omega)
 obtain ⟨h1, h2⟩ := compact_inc zs.toArray hd zs.length (by simp)
 refine ⟨h1, fun x => ?_⟩
 unfold compact
 rw [h2]
 constructor
 · rintro ⟨j, hj, rfl⟩
   rw [getElem!_pos zs.toArray j (by simpa using hj)]
   simp
 · intro hx
   obtain ⟨j, hj, rfl⟩ := List.getElem_of_mem hx
   exact ⟨j, hj, by rw [getElem!_pos zs.toArray j (by simpa using hj)]; simp⟩
def sortL (l : List Int) : List Int := l.mergeSort fun x y => decide (x ≤ y)
theorem list_eq (ss : List ByteArray) : compact (sortL (numsL ss)) = refL ss := by
 have hsort : (sortL (numsL ss)).Pairwise (· ≤ ·) := by
   have := List.pairwise_mergeSort (le := fun (x y : Int) => decide (x ≤ y)) (fun a b c h1 h2 => by simp at *; omega) (fun a b => by simp; omega) (numsL ss)
   exact this.imp (fun h => by simpa using h)
 obtain ⟨h1, h2⟩ := compact_sorted _ hsort
 apply inc_ext h1 (inc_refL ss)
 intro x
 rw [h2, mem_refL]
 exact (List.mergeSort_perm _ _).mem_iff
end Go.Proofs.YtgdmdbdljmlkkaaGreatDoor
namespace Go.Proofs.YtgdmdbdljmlkkaaGreatDoor
open Go.RowKit Go.Lib
set_option maxHeartbeats 1000000 in
theorem refName_no (n : Int) (w : World) (h : n < 1 ∨ 99999999 < n) :
   Calls Tryz.prog 68 #[.int .i64 n] w fun e w' => e = .returned (.tuple #[bs [], .bool false]) ∧ w = w' := by
 rcases h with h | h
 · go_enter Tryz.func68, Tryz.ntmps68
   go_wp2
   go_ret2
   exact ⟨rfl, rfl⟩
 · have h' : ¬ n < 1 := by omega
   go_enter Tryz.func68, Tryz.ntmps68
   go_wp2
   go_ret2
   exact ⟨rfl, rfl⟩
theorem piece_fin : ∀ d : Fin 10, (ByteArray.mk #[48, 49, 50, 51, 52, 53, 54, 55, 56, 57]).extract d.val (d.val + 1) = ⟨[UInt8.ofNat (48 + d.val)].toArray⟩ := by decide +kernel
set_option maxHeartbeats 1000000 in
theorem refName_yes (n : Nat) (w : World) (h1 : 1 ≤ n) (h2 : n ≤ 99999999) :
   Calls Tryz.prog 68 #[.int .i64 n] w fun e w' => e = .returned (.tuple #[bs (nameL n), .bool true]) ∧ w = w' := by
 have a1 : decide ((n : Int) < 1) = false := by simp; omega
 have a2 : decide ((99999999 : Int) < (n : Int)) = false := by simp; omega
 go_enter Tryz.func68, Tryz.ntmps68
 go_wp2
 go_loop [0, 4, 5] (fun m s i => ∃ k q : Nat, k ≤ 8 ∧ i = .int .i64 k ∧ q ≤ 99999999 ∧ Hid (q = n / 10 ^ k) ∧ m = .int .i64 (q : Int) ∧ s = .string ⟨(low n k).toArray⟩) (fun _ _ i => 8 - (intOf i).toNat)
 case atStart => exact ⟨0, n, by omega, rfl, h2, by simp [Hid], rfl, rfl⟩
 case round =>
   obtain ⟨k, q, hk, rfl, hq, Hq, rfl, rfl⟩ := hrel
   have hl : (low n k).length ≤ 8 := by rw [low_length]; exact hk
   obtain ⟨d, hd10, hd⟩ : ∃ d : Nat, d < 10 ∧ (q : Int) % 10 = d := ⟨q % 10, by omega, by omega⟩
   obtain ⟨r, hr10, hr⟩ : ∃ r : Nat, r ≤ 99999999 ∧ (q : Int) / 10 = r := ⟨q / 10, by omega, by omega⟩
   have hp := piece_fin ⟨d, hd10⟩
   simp only at hp
   obtain ⟨c, hc⟩ : ∃ c : UInt8, c = UInt8.ofNat (48 + d) := ⟨_, rfl⟩
   rw [← hc] at hp
   have HC : Hid (c = dg n k) := by
     rw [Hid, hc, dg, ← Hq.out]
     congr 2
     omega
   have HR : Hid (r = n / 10 ^ (k + 1)) := by
     rw [Hid, Nat.pow_succ, ← Nat.div_div_eq_div_mul, ← Hq.out]
     omega
   clear hc
   by_cases hlt : k < 8
   · go_wp2
     go_round
     case rel => exact ⟨k + 1, r, by omega, by go_num, hr10, HR, rfl, by rw [low_succ, ← HC.out, ba_app [c]]; rfl⟩
     case measure => simp [intOf]; omega
   · go_wp2
     go_ret2
     obtain rfl : k = 8 := by omega
     refine ⟨?_, rfl⟩
     simp only [Array.getD_eq_getD_getElem?]
     rw [ba_app [108, 111, 103, 45], low_eight]; rfl
theorem below_grow (w : World) (k : Nat) (os : Array Obj) : Below w.heap.size w (Sort.grow (w.drewN k) os) :=
 ⟨rfl, rfl, rfl, by show w.heap.size ≤ (w.heap ++ os).size; rw [Array.size_append]; omega, fun j hj => by
   show (w.heap ++ os)[j]? = w.heap[j]?
   rw [Array.getElem?_append_left hj]⟩
theorem tab_below {w w' : World} (h : Lib.TabIs Tryz.prog w powName .u64 Lib.pow10Tab) (hb : Below w.heap.size w w') : Lib.TabIs Tryz.prog w' powName .u64 Lib.pow10Tab := by
 unfold TabIs World.var? at *
 cases hg : Tryz.prog.globalNamed powName with
 | none => simp [hg] at h
 | some g =>
   simp only [hg, Option.bind_some] at h ⊢
   have hlt : g < w.heap.size := by
     rcases Nat.lt_or_ge g w.heap.size with h' | h'
     · exact h'
     · rw [Array.getElem?_eq_none h'] at h; simp at h
   rw [hb.block g hlt]
   exact h
abbrev Tab (w : World) : Prop := Lib.TabIs Tryz.prog w powName .u64 Lib.pow10Tab
set_option maxHeartbeats 1000000 in
theorem name_no (n : Int) (w : World) (h : n < 1 ∨ 99999999 < n) :
   Calls Tryz.prog 56 #[.int .i64 n] w fun e w' => e = .returned (.tuple #[bs [], .bool false]) ∧ w = w' := by
 rcases h with h | h
 · go_enter Tryz.func56, Tryz.ntmps56
   go_wp2
   go_ret2
   exact ⟨rfl, rfl⟩
 · have h' : ¬ n < 1 := by omega
   go_enter Tryz.func56, Tryz.ntmps56
   go_wp2
   go_ret2
   exact ⟨rfl, rfl⟩
set_option maxHeartbeats 1000000 in
theorem name_yes (n : Nat) (w : World) (h1 : 1 ≤ n) (h2 : n ≤ 99999999) (htab : Tab w) :
   Calls Tryz.prog 56 #[.int .i64 n] w fun e w' => e = .returned (.tuple #[bs (nameL n), .bool true]) ∧ Below w.heap.size w w' := by
 have hc := (Tryz.strconv_Itoa n (by omega) (by omega) w htab)
 rw [Lib.itoa_nonneg] at hc
 have HC := Lib.hid hc
 clear hc
 have hlen := Lib.decDigits_length n
 have hd8 := nDigits_le8 n h2
 have hpad := padded n h2
 rw [← hlen] at hpad hd8
 clear hlen
 generalize Lib.decDigits n = l at *
 have HP := Lib.hid hpad
 clear hpad
 go_enter Tryz.func56, Tryz.ntmps56
 go_wp2_with fail
 refine HC.out.mono ?_
 rintro e w1 ⟨rfl, k, os, hw1⟩
 have hb1 : Below w.heap.size w w1 := by rw [hw1]; exact below_grow _ _ _
 clear hw1
 go_wp2_with fail
 rw [show ((8 : Int) - (l.length : Int)) = ((8 - l.length : Nat) : Int) by omega]
 refine (Tryz.strings_Repeat ⟨#[48]⟩ (8 - l.length) w1 (by omega) (by show 1 * (8 - l.length) ≤ _; omega)).mono ?_
 rintro e w2 ⟨rfl, hb2⟩
 have hb := hb1.trans (hb2.mono hb1.size)
 clear hb1 hb2
 have hrl : (Lib.repeatL [48] (8 - l.length)).length ≤ 8 := by rw [Lib.repeatL_length]; simp
 simp only
 generalize Lib.repeatL [48] (8 - l.length) = z at *
 go_wp2
 go_ret2
 have hfin : ((⟨#[108, 111, 103, 45]⟩ : ByteArray) ++ ⟨z.toArray⟩ ++ ⟨l.toArray⟩) = ⟨(nameL n).toArray⟩ := by
   rw [ba_app [108, 111, 103, 45], ba_app, List.append_assoc, HP.out]; rfl
 exact ⟨congrArg (fun x => Ending.returned (.tuple #[.string x, .bool true])) hfin, hb⟩
end Go.Proofs.YtgdmdbdljmlkkaaGreatDoor
