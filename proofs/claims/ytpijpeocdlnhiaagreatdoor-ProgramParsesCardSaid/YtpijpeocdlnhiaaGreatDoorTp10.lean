/- Texts for programTexts_holds, joined: QPlain, TFmt, FOrd, TNum, TTextA. -/
import Derived.Test.YtpijpeocdlnhiaaGreatDoorTp09
import Derived.Lib.SplitLaws
import Derived.Test.YtpijpeocdlnhiaaGreatDoorTp01
import Derived.Test.YtpijpeocdlnhiaaGreatDoorTp03
import Derived.Test.YtpijpeocdlnhiaaGreatDoorTp02
import Derived.Test.YtpijpeocdlnhiaaGreatDoorTp04
set_option linter.unusedVariables false
set_option linter.unusedSimpArgs false
namespace Go.Proofs.YtpijpeocdlnhiaaGreatDoor
open Go.RowKit
def ixIn (s : ByteArray) : List ByteArray → Nat → Int
  | [], _ => -1
  | x :: l, k => if s = x then (k : Int) else ixIn s l (k + 1)
theorem ixIn_bounds (s : ByteArray) : ∀ (l : List ByteArray) (k : Nat), -1 ≤ ixIn s l k ∧ ixIn s l k < k + l.length ∨ ixIn s l k = -1
  | [], _ => .inr rfl
  | x :: l, k => by
    unfold ixIn
    split
    · left; simp; omega
    · rcases ixIn_bounds s l (k + 1) with h | h
      · left; simp only [List.length_cons]; omega
      · right; exact h
theorem ix_word : ∀ i : Fin 13, ixIn (wordsL.getD i.val ⟨#[]⟩) wordsL 0 = (i.val : Int) := by decide +kernel
theorem ix_word1 : ∀ i : Fin 13, i.val ≠ 0 → ixIn (wordsL.getD i.val ⟨#[]⟩) wordsL.tail 1 = (i.val : Int) := by decide +kernel
def wordOf (l : List UInt8) : List UInt8 := (Lib.cut l [32]).1
def restOf (l : List UInt8) : List UInt8 := (Lib.cut l [32]).2.1
def stepP (s : ByteArray) : ST :=
  ⟨ixIn ⟨(wordOf s.data.toList).toArray⟩ wordsL 0,
    if ixIn ⟨(wordOf s.data.toList).toArray⟩ wordsL 0 ∈ numL then intP (restOf s.data.toList) else 0,
    if ixIn ⟨(wordOf s.data.toList).toArray⟩ wordsL 0 ∈ namL then (ParseP (restOf s.data.toList)).1.s else ⟨#[]⟩⟩
theorem cut_hit (a r : List UInt8) (h : (32 : UInt8) ∉ a) : Lib.cut (a ++ 32 :: r) [32] = (a, r, true) := by
  have hi : Lib.index (a ++ 32 :: r) [32] = (a.length : Int) := by
    refine Lib.index_first (by simp) ?_ (fun j hj => ?_)
    · simp [Lib.occAt, List.isPrefixOf]
    · unfold Lib.occAt
      rw [List.drop_append_of_le_length (by omega)]
      cases hd : a.drop j with
      | nil => have := congrArg List.length hd; simp at this; omega
      | cons c t =>
        have hc : c ∈ a := List.mem_of_mem_drop (i := j) (by rw [hd]; simp)
        have : (32 : UInt8) ≠ c := fun e => h (e ▸ hc)
        simp [List.isPrefixOf, this]
  unfold Lib.cut
  rw [hi, if_pos (by omega)]
  simp
theorem cut_none (a : List UInt8) (h : (32 : UInt8) ∉ a) : Lib.cut a [32] = (a, [], false) := by
  have hi : Lib.index a [32] = -1 := by
    refine Lib.index_none (fun j hj => ?_)
    unfold Lib.occAt
    cases hd : a.drop j with
    | nil => rfl
    | cons c t =>
      have hc : c ∈ a := List.mem_of_mem_drop (i := j) (by rw [hd]; simp)
      have : (32 : UInt8) ≠ c := fun e => h (e ▸ hc)
      simp [List.isPrefixOf, this]
  unfold Lib.cut
  rw [hi, if_neg (by omega)]
theorem wordB_no32 {x : ST} (h : NormS x) : (32 : UInt8) ∉ wordB x.k := fun hm => (wordB_char h 32 hm).1 rfl
def argB (x : ST) : List UInt8 := if x.k ∈ numL then Lib.itoa x.n else if x.k ∈ namL then 34 :: hexL x.s.data.toList ++ [34] else []
theorem cut_step {x : ST} (h : NormS x) : wordOf (stextB x).data.toList = wordB x.k ∧ restOf (stextB x).data.toList = argB x := by
  unfold wordOf restOf argB
  rw [stext_list]
  unfold sufB
  split
  · rw [cut_hit _ _ (wordB_no32 h)]; exact ⟨rfl, rfl⟩
  · split
    · rw [cut_hit _ _ (wordB_no32 h)]; exact ⟨rfl, rfl⟩
    · rw [List.append_nil, cut_none _ (wordB_no32 h)]; exact ⟨rfl, rfl⟩
theorem wordB_ba (k : Int) : (⟨(wordB k).toArray⟩ : ByteArray) = wordsL.getD k.toNat ⟨#[]⟩ := by
  unfold wordB
  rw [ba_data]
theorem quoted_good (s : ByteArray) (hs : s.size ≤ maxLen) : ParseP (34 :: hexL s.data.toList ++ [34]) = (.node 3 0 0 s [], true) := by
  have hg := good_text s
  have hw : wfT (.node 3 0 0 s []) := by rw [wfT]; refine ⟨by omega, by omega, by omega, hs, ?_⟩; rw [wfL]; trivial
  have e : textT (.node 3 0 0 s []) = 34 :: hexL s.data.toList ++ [34] := rfl
  have hc : canonT (.node 3 0 0 s []) = .node 3 0 0 s [] := by rw [canonT, canonL]; congr 1
  have hp := parseP_text (.node 3 0 0 s []) 8 [] hg hw stops_nil
  rw [List.append_nil, hc, e] at hp
  unfold ParseP
  rw [hp]
  have : textTop (.node 3 0 0 s []) = 34 :: hexL s.data.toList ++ [34] := by unfold textTop; rw [if_pos hg, e]
  rw [if_pos ⟨by simp, this⟩]
theorem stepP_text {x : ST} (h : NormS x) (ho : x.ok) : stepP (stextB x) = x := by
  obtain ⟨hw, hr⟩ := cut_step h
  have hk : ixIn ⟨(wordOf (stextB x).data.toList).toArray⟩ wordsL 0 = x.k := by
    rw [hw, wordB_ba]
    have h1 := h.1
    have h2 := h.2.1
    have := ix_word ⟨x.k.toNat, by omega⟩
    simp only at this
    rw [this]; omega
  refine ST.ext' hk ?_ ?_
  · show (if ixIn ⟨(wordOf (stextB x).data.toList).toArray⟩ wordsL 0 ∈ numL then intP (restOf (stextB x).data.toList) else 0) = x.n
    rw [hk, hr]
    split
    · rename_i hn
      unfold argB
      rw [if_pos hn, intP_itoa x.n ho.2.1.1 ho.2.1.2]
    · rename_i hn
      exact (h.2.2.1 hn).symm
  · show (if ixIn ⟨(wordOf (stextB x).data.toList).toArray⟩ wordsL 0 ∈ namL then (ParseP (restOf (stextB x).data.toList)).1.s else ⟨#[]⟩) = x.s
    rw [hk, hr]
    split
    · rename_i hn
      have hnn : x.k ∉ numL := by
        intro hm
        unfold numL at hm; unfold namL at hn
        simp only [List.mem_cons, List.not_mem_nil, or_false] at hm hn
        omega
      unfold argB
      rw [if_neg hnn, if_pos hn, quoted_good _ ho.2.2]
      rfl
    · rename_i hn
      exact (h.2.2.2 hn).symm
def headR (l : List UInt8) : List UInt8 := l.takeWhile (fun c => c != 32)
def tailR (l : List UInt8) : List UInt8 := l.drop (min ((headR l).length + 1) l.length)
def midR (r : List UInt8) : List UInt8 := (r.drop 1).take (r.length - 2)
def stepR (s : ByteArray) : ST :=
  if ixIn ⟨(headR s.data.toList).toArray⟩ wordsL.tail 1 = -1 then ⟨0, 0, ⟨#[]⟩⟩ else
  ⟨ixIn ⟨(headR s.data.toList).toArray⟩ wordsL.tail 1,
    if ixIn ⟨(headR s.data.toList).toArray⟩ wordsL.tail 1 ∈ numL then (numberR (tailR s.data.toList)).1 else 0,
    if ixIn ⟨(headR s.data.toList).toArray⟩ wordsL.tail 1 ∈ namL ∧ 2 ≤ (tailR s.data.toList).length then ⟨(unhexR (midR (tailR s.data.toList))).1.toArray⟩ else ⟨#[]⟩⟩
theorem takeWhile_hit (a r : List UInt8) (h : (32 : UInt8) ∉ a) : (a ++ 32 :: r).takeWhile (fun c => c != 32) = a := by
  induction a with
  | nil => simp
  | cons c a ih =>
    have hc : c ≠ 32 := fun e => h (by rw [e]; simp)
    simp only [List.cons_append, List.takeWhile_cons]
    rw [ih (fun hm => h (List.mem_cons_of_mem _ hm))]
    simp [hc]
theorem takeWhile_none (a : List UInt8) (h : (32 : UInt8) ∉ a) : a.takeWhile (fun c => c != 32) = a := by
  induction a with
  | nil => rfl
  | cons c a ih =>
    have hc : c ≠ 32 := fun e => h (by rw [e]; simp)
    simp only [List.takeWhile_cons]
    rw [ih (fun hm => h (List.mem_cons_of_mem _ hm))]
    simp [hc]
theorem headR_step {x : ST} (h : NormS x) : headR (stextB x).data.toList = wordB x.k ∧ tailR (stextB x).data.toList = argB x := by
  have h1 : headR (stextB x).data.toList = wordB x.k := by
    unfold headR
    rw [stext_list]
    unfold sufB
    split
    · exact takeWhile_hit _ _ (wordB_no32 h)
    · split
      · exact takeWhile_hit _ _ (wordB_no32 h)
      · rw [List.append_nil]; exact takeWhile_none _ (wordB_no32 h)
  refine ⟨h1, ?_⟩
  unfold tailR
  rw [h1, stext_list]
  unfold sufB argB
  split
  · rw [Nat.min_eq_left (by simp), List.drop_append]; simp
  · split
    · rw [Nat.min_eq_left (by simp), List.drop_append]; simp
    · rw [List.append_nil, Nat.min_eq_right (by omega)]; simp
theorem stepR_text {x : ST} (h : NormS x) (ho : x.ok) : stepR (stextB x) = x := by
  obtain ⟨hw, hr⟩ := headR_step h
  have h1 := h.1
  have h2 := h.2.1
  have hk : ixIn ⟨(headR (stextB x).data.toList).toArray⟩ wordsL.tail 1 = x.k := by
    rw [hw, wordB_ba]
    have := ix_word1 ⟨x.k.toNat, by omega⟩ (by simp only; omega)
    simp only at this
    rw [this]; omega
  unfold stepR
  rw [hk, if_neg (by omega)]
  refine ST.ext' rfl ?_ ?_
  · show (if x.k ∈ numL then (numberR (tailR (stextB x).data.toList)).1 else 0) = x.n
    rw [hr]
    split
    · rename_i hn
      unfold argB
      rw [if_pos hn, numberR_itoa x.n ho.2.1.1 ho.2.1.2]
    · rename_i hn
      exact (h.2.2.1 hn).symm
  · show (if x.k ∈ namL ∧ 2 ≤ (tailR (stextB x).data.toList).length then (⟨(unhexR (midR (tailR (stextB x).data.toList))).1.toArray⟩ : ByteArray) else ⟨#[]⟩) = x.s
    rw [hr]
    by_cases hn : x.k ∈ namL
    · have hnn : x.k ∉ numL := by
        intro hm
        unfold numL at hm; unfold namL at hn
        simp only [List.mem_cons, List.not_mem_nil, or_false] at hm hn
        omega
      have ha : argB x = 34 :: hexL x.s.data.toList ++ [34] := by unfold argB; rw [if_neg hnn, if_pos hn]
      have hm : midR (argB x) = hexL x.s.data.toList := by rw [ha]; unfold midR; simp
      rw [hm, if_pos ⟨hn, by rw [ha]; simp⟩, unhexR_hexL, ba_data]
    · rw [if_neg (fun hh => hn hh.1)]
      exact (h.2.2.2 hn).symm
theorem split_cons_hit {s sep : List UInt8} {i : Nat} (h1 : sep ≠ []) (h : Lib.index s sep = i) : Lib.split s sep = s.take i :: Lib.split (s.drop (i + sep.length)) sep := by
  unfold Lib.split
  rw [Lib.count_hit h1 h, Nat.add_comm, Lib.splitK, h, if_neg (by intro e; have := beq_iff_eq.1 e; omega)]
  simp
theorem split_miss {s sep : List UInt8} (h : Lib.index s sep = -1) : Lib.split s sep = [s] := by
  unfold Lib.split
  rw [Lib.count_miss h]
  rfl
theorem occ_no {c : UInt8} {pre post q r : List UInt8} (hpre : c ∉ pre) (hq : c ∉ q) (hr : r = [] ∨ ∃ t, r = pre ++ t) (j : Nat) (hj : j < q.length ∨ r = []) : Lib.occAt (q ++ r) (pre ++ c :: post) j = false := by
  cases ho : Lib.occAt (q ++ r) (pre ++ c :: post) j with
  | false => rfl
  | true =>
    exfalso
    unfold Lib.occAt at ho
    have hp := List.isPrefixOf_iff_prefix.1 ho
    obtain ⟨t, ht⟩ := hp
    have h0 : (q ++ r)[j + pre.length]? = some c := by
      have := congrArg (fun l : List UInt8 => l[pre.length]?) ht
      simp only [List.append_assoc, List.cons_append] at this
      rw [List.getElem?_append_right (Nat.le_refl _), Nat.sub_self, List.getElem?_cons_zero, List.getElem?_drop] at this
      exact this.symm
    rcases Nat.lt_or_ge (j + pre.length) q.length with h1 | h1
    · rw [List.getElem?_append_left h1] at h0
      exact hq (List.mem_of_getElem? h0)
    · rw [List.getElem?_append_right h1] at h0
      rcases hr with rfl | ⟨u, rfl⟩
      · simp at h0
      · rcases hj with hj | hj
        · rw [List.getElem?_append_left (by omega)] at h0
          exact hpre (List.mem_of_getElem? h0)
        · rw [hj] at h0; simp at h0
theorem split_join {c : UInt8} {pre post : List UInt8} (hpre : c ∉ pre) : ∀ (q : List UInt8) (l : List (List UInt8)), (∀ x ∈ q :: l, c ∉ x) → Lib.split (Lib.join (q :: l) (pre ++ c :: post)) (pre ++ c :: post) = q :: l
  | q, [], h => by
    rw [join_one]
    refine split_miss (Lib.index_none (fun j hj => ?_))
    have := occ_no (r := []) (post := post) hpre (h q (by simp)) (.inl rfl) j (.inr rfl)
    rwa [List.append_nil] at this
  | q, y :: l, h => by
    rw [join_cons2]
    have hix : Lib.index (q ++ ((pre ++ c :: post) ++ Lib.join (y :: l) (pre ++ c :: post))) (pre ++ c :: post) = (q.length : Int) := by
      refine Lib.index_first (by simp) ?_ (fun j hj => ?_)
      · unfold Lib.occAt
        rw [List.drop_left]
        exact List.isPrefixOf_iff_prefix.2 ⟨_, rfl⟩
      · exact occ_no hpre (h q (by simp)) (.inr ⟨_, List.append_assoc _ _ _⟩) j (.inl hj)
    have hd : (q ++ ((pre ++ c :: post) ++ Lib.join (y :: l) (pre ++ c :: post))).drop (q.length + (pre ++ c :: post).length) = Lib.join (y :: l) (pre ++ c :: post) := by
      rw [← List.append_assoc, ← List.length_append, List.drop_left]
    rw [split_cons_hit (by simp) hix, List.take_left, hd, split_join hpre y l (fun x hx => h x (List.mem_cons_of_mem _ hx))]
def hexTail (u : Nat) : Nat → List UInt8
  | 0 => []
  | j + 1 => dig (u / 16 ^ j % 16) :: hexTail u j
theorem hexTail_length (u : Nat) : ∀ j, (hexTail u j).length = j
  | 0 => rfl
  | j + 1 => by rw [hexTail, List.length_cons, hexTail_length u j]
theorem hexTail_zero {u j : Nat} (h : u < 16 ^ j) : ∀ m, hexTail u (j + m) = List.replicate m 48 ++ hexTail u j
  | 0 => rfl
  | m + 1 => by
    have h2 : u / 16 ^ (j + m) = 0 := Nat.div_eq_of_lt (Nat.lt_of_lt_of_le h (Nat.pow_le_pow_right (by decide) (by omega)))
    rw [show j + (m + 1) = (j + m) + 1 by omega, hexTail, h2, hexTail_zero h m, List.replicate_succ]
    rfl
theorem hexTail_16 (u : Nat) : hexTail u 16 = hex16 u := by
  unfold hex16
  simp only [hexTail, List.range_succ, List.range_zero, List.nil_append, List.map_append, List.map_cons, List.map_nil, List.singleton_append, List.cons_append]
theorem hex16_of_tail {u j : Nat} (h : u < 16 ^ j) (hj : j ≤ 16) : List.replicate (16 - j) 48 ++ hexTail u j = hex16 u := by
  rw [← hexTail_16, ← hexTail_zero h (16 - j)]
  congr 1; omega
set_option maxRecDepth 100000 in
set_option maxHeartbeats 4000000 in
theorem tz64_any (w : World) (h : w.cell? ⟨9, 15, none⟩ = some (.int .u8 4)) :
    Calls Tryz.prog 190 #[.int .u64 16] w fun e w' => e = .returned (.int .i64 4) ∧ w = w' := by
  have hb : IntKind.u64.wrap (bits BinOp.and IntKind.u64 16 (IntKind.u64.wrap (-16)) * 285870213051353865) / 288230376151711744 = 15 := by decide +kernel
  go_enter Tryz.func190, Tryz.ntmps190
  go_wp2
  go_ret
  exact ⟨rfl, rfl⟩
set_option maxRecDepth 100000 in
set_option maxHeartbeats 4000000 in
theorem tz_any (w : World) (h : w.cell? ⟨9, 15, none⟩ = some (.int .u8 4)) :
    Calls Tryz.prog 175 #[.int .u64 16] w fun e w' => e = .returned (.int .i64 4) ∧ w = w' := by
  go_enter Tryz.func175, Tryz.ntmps175
  go_wp2_with fail
  refine (tz64_any _ h).mono ?_
  rintro e w1 ⟨rfl, rfl⟩
  go_wp2
  go_ret
  exact ⟨rfl, rfl⟩
set_option maxRecDepth 100000 in
set_option maxHeartbeats 4000000 in
theorem pow2_any (w : World) :
    Calls Tryz.prog 174 #[.int .i64 16] w fun e w' => e = .returned (.bool true) ∧ w = w' := by
  have hb : bits BinOp.and IntKind.i64 16 15 = 0 := by decide +kernel
  go_enter Tryz.func174, Tryz.ntmps174
  go_wp2
  go_ret
  exact ⟨rfl, rfl⟩
theorem and15 (n : Nat) (h : n < 18446744073709551616) : bits BinOp.and IntKind.u64 (n : Int) 15 = ((n % 16 : Nat) : Int) := by
  have h := u64_and_nat n 15 h (by decide)
  have e : n &&& 15 = n % 16 := Nat.and_two_pow_sub_one_eq_mod n 4
  rw [e] at h
  exact h
def digZ : ByteArray := ⟨#[48, 49, 50, 51, 52, 53, 54, 55, 56, 57, 97, 98, 99, 100, 101, 102, 103, 104, 105, 106, 107, 108, 109, 110, 111, 112, 113, 114, 115, 116, 117, 118, 119, 120, 121, 122]⟩
theorem digZ_all : ∀ n : Fin 16, digZ.data[n.val]? = some (dig n.val) := by decide +kernel
theorem digZ_at (n : Nat) (h16 : n < 16) (h : n < digZ.size) : digZ[n]'h = dig n := by
  have h1 := digZ_all ⟨n, h16⟩
  have h2 : n < digZ.data.size := h
  rw [Array.getElem?_eq_getElem h2] at h1
  exact Option.some.inj h1
theorem drop_set {α : Type} (l : List α) (i : Nat) (x : α) (h : i < l.length) : (l.set i x).drop i = x :: l.drop (i + 1) := by
  induction l generalizing i with
  | nil => simp at h
  | cons a l ih =>
    cases i with
    | zero => rfl
    | succ i => simpa using ih i (by simpa using h)
set_option maxRecDepth 100000 in
set_option maxHeartbeats 8000000 in
theorem fbits_any (u : Nat) (hu : u < 18446744073709551616) (w : World) (h : w.cell? ⟨9, 15, none⟩ = some (.int .u8 4)) :
    Calls Tryz.prog 146 #[.slice none 0 0, .int .u64 u, .int .i64 16, .bool false, .bool false] w fun e w' => (∃ j, 1 ≤ j ∧ j ≤ 16 ∧ u < 16 ^ j ∧ e = .returned (.tuple #[.slice none 0 0, .string ⟨(hexTail u j).toArray⟩])) ∧ Below w.heap.size w w' := by
  have hg : 9 < w.heap.size := World.block_lt_of_cell? w ⟨9, 15, none⟩ h
  have hZ : Tryz.zeroCells205.size = 65 := by kernel_rfl
  have HN : Hid ((w.alloc (.cells Tryz.zeroCells205 205)).heap[w.heap.size]? = some (.cells Tryz.zeroCells205 205 (0, 0))) := heap_alloc_new _ _
  have HB : Hid (Below w.heap.size w (w.alloc (.cells Tryz.zeroCells205 205))) := (Below.refl _ _).alloc (Nat.le_refl _) _
  have HT : Hid ((w.alloc (.cells Tryz.zeroCells205 205)).cell? ⟨9, 15, none⟩ = some (.int .u8 4)) := (HB.out.cell (p := ⟨9, 15, none⟩) hg).trans h
  clear h
  go_enter Tryz.func146, Tryz.ntmps146
  go_upto_region 7 with fail
  generalize Tryz.zeroCells205 = arr at *
  generalize w.alloc (.cells arr 205) = wa at *
  go_wp2_with (first
    | (go_at_call 174; refine (pow2_any _).mono ?_; rintro e w' ⟨rfl, rfl⟩)
    | (go_at_call 175; refine (tz_any _ HT.out).mono ?_; rintro e w' ⟨rfl, rfl⟩))
  have hpow : ∀ k : Nat, 0 < 16 ^ k := fun k => Nat.pow_pos (by decide)
  have HU16 : Hid (u < 16 ^ 16) := by rw [Hid]; exact hu
  go_loopw [1, 13] (fun vu vi w' => ∃ j v i : Nat, j ≤ 15 ∧ i + j = 65 ∧ vu = .int .u64 v ∧ vi = .int .i64 (i : Int) ∧ v < 18446744073709551616 ∧ Hid (v = u / 16 ^ j ∧ (j = 0 ∨ 0 < v)) ∧ Hid (∃ ar, ar.size = 65 ∧ w'.heap[w.heap.size]? = some (.cells ar 205 (0, 0)) ∧ ar.toList.drop i = u8s (hexTail u j)) ∧ Hid (Chg (fun k => k = w.heap.size) wa w')) (fun _ vi _ => (intOf vi).toNat)
  case atStart => exact ⟨0, u, 65, by omega, rfl, rfl, rfl, hu, ⟨by simp, .inl rfl⟩, ⟨arr, hZ, HN.out, by rw [List.drop_eq_nil_of_le (by simp [hZ])]; rfl⟩, Chg.refl _ _⟩
  case round =>
    obtain ⟨j, v, i, hj, hij, rfl, rfl, hv, HV, HA, HC⟩ := hrel
    obtain ⟨ar, har, hN, hdr⟩ := HA.out
    have HDR := Lib.hid hdr
    have HSZ := Lib.hid har
    have HBK := Lib.hid hN
    have hi1 : ((i : Int) - 1).toNat = i - 1 := by omega
    have hi65 : i - 1 < 65 := by omega
    have hf := freeAt HBK.out (i - 1)
    have hy := cellAt HBK.out (i - 1) (v := ar[i - 1]'(by omega)) (Array.getElem?_eq_getElem (by omega))
    have ha15 := and15 v hv
    have hm16 : v % 16 < 16 := Nat.mod_lt _ (by decide)
    have HBE : Hid (Below w.heap.size w wr) := HB.out.trans (HC.out.toBelow HB.out.size (fun n hn h => by omega))
    generalize ar[i - 1]'(by omega) = y at hy
    have hlo : 0 ≤ (i : Int) - 1 := by omega
    have hhi : (i : Int) - 1 < 65 := by omega
    have HIJ := Lib.hid hij
    clear HA hdr hN har hij
    by_cases hge : 16 ≤ v
    · have hj14 : j ≤ 14 := by
        rcases Nat.lt_or_ge j 15 with h | h
        · omega
        · exfalso
          have : j = 15 := by omega
          subst this
          have h1 := HV.out.1
          have h2 : u / 16 ^ 15 < 16 := Nat.div_lt_of_lt_mul (by have := HU16.out; omega)
          omega
      have hdz := digZ_at (v % 16) hm16
      unfold digZ at hdz
      have HVE : Hid (v / 16 = u / 16 ^ (j + 1)) := by rw [Hid, HV.out.1, Nat.pow_succ, Nat.div_div_eq_div_mul]
      have HVD : Hid (v % 16 = u / 16 ^ j % 16) := by rw [Hid, HV.out.1]
      go_wp2_with fail
      have hij := HIJ.out
      refine ⟨⟨j + 1, v / 16, i - 1, by omega, by omega, by go_num, by go_num, by omega, ⟨HVE.out, .inr (by omega)⟩, ⟨_, ?_, heap_store HBK.out _ _, ?_⟩, HC.out.setCell (.inl rfl) _⟩, by simp [intOf]; omega⟩
      · simp [HSZ.out]
      · rw [Array.toList_setIfInBounds, drop_set _ _ _ (by have := HSZ.out; simp; omega), show i - 1 + 1 = i by omega, HDR.out, hexTail, ← HVD.out]
        rfl
    · have hv16 : v < 16 := by omega
      have hdz := digZ_at v hv16
      unfold digZ at hdz
      have HVE : Hid (u < 16 ^ (j + 1)) := by
        have h1 := HV.out.1
        rw [Hid, Nat.pow_succ]
        have h2 := hpow j
        have h3 : u / 16 ^ j < 16 := by omega
        rw [Nat.div_lt_iff_lt_mul h2] at h3
        rwa [Nat.mul_comm] at h3
      have HVD : Hid (v = u / 16 ^ j % 16) := by have := HV.out.1; rw [Hid]; omega
      have hst := heap_store HBK.out (i - 1) (.int .u8 ((dig v).toNat : Int))
      have hcs : (ar.setIfInBounds (i - 1) (.int .u8 ((dig v).toNat : Int))).toList.drop (i - 1) = u8s (hexTail u (j + 1)) := by
        rw [Array.toList_setIfInBounds, drop_set _ _ _ (by have := HSZ.out; simp; omega), show i - 1 + 1 = i by omega, HDR.out, hexTail, ← HVD.out]
        rfl
      have hlen : (hexTail u (j + 1)).length = j + 1 := hexTail_length u (j + 1)
      have hcv := run_convert_bytes_back (P := Tryz.prog) (wr.setCell ⟨w.heap.size, i - 1, none⟩ (.int .u8 ((dig v).toNat : Int))) 33 9 5 ⟨w.heap.size, i - 1, none⟩ (j + 1) (hexTail u (j + 1)) Tryz.underlying33 Tryz.underlying5 Tryz.underlying9 (fun k hk => by
        rw [Addr.add_lit]
        refine cellAt hst (i - 1 + k) ?_
        have h2 := congrArg (fun l => l[k]?) hcs
        simp only [List.getElem?_drop] at h2
        rw [← Array.getElem?_toList, h2, u8s, List.getElem?_map, List.getElem?_eq_getElem hk]; rfl)
      rw [hlen] at hcv
      have hn65 : (65 : Int) - ((i : Int) - 1) = ((j + 1 : Nat) : Int) := by have := HIJ.out; omega
      have hn65' : 65 - (i - 1) = j + 1 := by have := HIJ.out; omega
      have HBF : Hid (Below w.heap.size w (wr.setCell ⟨w.heap.size, i - 1, none⟩ (.int .u8 ((dig v).toNat : Int)))) := HB.out.trans ((HC.out.setCell (.inl rfl) _).toBelow HB.out.size (fun n hn h => by omega))
      have HLEN := Lib.hid hlen
      have hsl : ∀ W, (Instr.sliceAt 205 (.pointer (some ⟨w.heap.size, 0, none⟩)) (some (.int .i64 ((i : Int) - 1))) none none).run Tryz.prog W = .ok (.slice (some ⟨w.heap.size, i - 1, none⟩) (j + 1) (j + 1)) W := fun W => by
        have hal : Tryz.prog.arrayLen 205 = 65 := by kernel_rfl
        have hsz : ∀ W, (sizeOf (Tryz.prog.elem 205)).run Tryz.prog W = .ok 1 W := fun _ => by kernel_rfl
        rw [run_sliceAt_array_l W 205 ⟨w.heap.size, 0, none⟩ (by kernel_rfl) .i64 ((i : Int) - 1) hlo (by rw [hal]; omega), hsz, hal, hi1]
        simp only [Result.andThen, slicedAt, Nat.mul_one]
        rw [if_neg (by omega), Addr.add_lit, Nat.zero_add, hn65']
      clear hst hcs hlen
      go_upto_region 30 with fail
      generalize wr.setCell ⟨w.heap.size, i - 1, none⟩ (.int .u8 ((dig v).toNat : Int)) = wf at *
      go_wp2
      go_ret2
      exact ⟨⟨j + 1, by omega, by omega, HVE.out, rfl⟩, HBF.out⟩
set_option maxRecDepth 100000 in
set_option maxHeartbeats 4000000 in
theorem fu16_any (u : Nat) (hu : u < 18446744073709551616) (w : World) (h : w.cell? ⟨9, 15, none⟩ = some (.int .u8 4)) :
    Calls Tryz.prog 162 #[.int .u64 u, .int .i64 16] w fun e w' => (∃ j, 1 ≤ j ∧ j ≤ 16 ∧ u < 16 ^ j ∧ e = .returned (.string ⟨(hexTail u j).toArray⟩)) ∧ Below w.heap.size w w' := by
  have HI : Hid (Calls Tryz.prog 184 #[.int .u64 u, .int .i64 16] w fun e w' => (∃ j, 1 ≤ j ∧ j ≤ 16 ∧ u < 16 ^ j ∧ e = .returned (.string ⟨(hexTail u j).toArray⟩)) ∧ Below w.heap.size w w') := by
    have HF := Lib.hid (fbits_any u hu w h)
    clear h
    go_enter Tryz.func184, Tryz.ntmps184
    go_wp2_with fail
    refine HF.out.mono ?_
    rintro e w1 ⟨⟨j, h1, h2, h3, rfl⟩, hb⟩
    have HB := Lib.hid hb
    clear hb
    go_wp2
    go_ret
    exact ⟨⟨j, h1, h2, h3, rfl⟩, HB.out⟩
  clear h
  go_enter Tryz.func162, Tryz.ntmps162
  go_wp2_with fail
  refine HI.out.mono ?_
  rintro e w1 ⟨⟨j, h1, h2, h3, rfl⟩, hb⟩
  have HB := Lib.hid hb
  clear hb
  go_wp2
  go_ret
  exact ⟨⟨j, h1, h2, h3, rfl⟩, HB.out⟩
theorem dbl_sign : Ieee.double.signWeight = 9223372036854775808 := by decide
theorem dbl_bin : Ieee.double.binade = 4503599627370496 := by decide
theorem dbl_inf : Ieee.double.infRung = 9218868437227405312 := by decide
theorem read_fin (f : Nat) (h : f % 9223372036854775808 < 9218868437227405312) :
    ∃ m p, Ieee.double.read f = .number (f / 9223372036854775808 % 2 == 1) m (Ieee.double.leastPlace + ((p : Nat) : Int)) ∧ m < 9007199254740992 ∧ p ≤ 2045 ∧ (m = 0 ↔ f % 9223372036854775808 = 0) := by
  unfold Ieee.Format.read
  rw [dbl_sign, dbl_bin, dbl_inf]
  generalize f % 9223372036854775808 = r at *
  simp only
  split
  · exact ⟨r, 0, by simp, by omega, by omega, Iff.rfl⟩
  · rename_i h1
    exact ⟨_, _, rfl, by omega, by omega, by omega⟩
theorem read_inf (f : Nat) (h : f % 9223372036854775808 = 9218868437227405312) : Ieee.double.read f = .infinity (f / 9223372036854775808 % 2 == 1) := by
  unfold Ieee.Format.read
  rw [dbl_sign, dbl_bin, dbl_inf, h]
  rfl
theorem read_nan (f : Nat) (h : 9218868437227405312 < f % 9223372036854775808) : ∃ s t, Ieee.double.read f = .nan s t := by
  unfold Ieee.Format.read
  rw [dbl_sign, dbl_bin, dbl_inf]
  simp only
  rw [if_neg (by omega), if_neg (by omega), if_neg (by omega)]
  exact ⟨_, _, rfl⟩
theorem read_zero : Ieee.double.read 0 = .number false 0 Ieee.double.leastPlace := by decide
theorem signed_val (s : Bool) (m k : Nat) : Ieee.signed s m k = if s then -((m * 2 ^ k : Nat) : Int) else ((m * 2 ^ k : Nat) : Int) := by
  unfold Ieee.signed
  rw [Nat.shiftLeft_eq]
theorem cmp_val (a b : Int) : compare a b = if a < b then Ordering.lt else if a = b then Ordering.eq else Ordering.gt := rfl
theorem cmp_eq (a b : Int) : (some (compare a b) == some Ordering.eq) = decide (a = b) := by
  rw [cmp_val]
  by_cases h : a < b
  · rw [if_pos h, decide_eq_false (by omega)]; rfl
  · rw [if_neg h]
    by_cases h2 : a = b
    · rw [if_pos h2, decide_eq_true h2]; rfl
    · rw [if_neg h2, decide_eq_false h2]; rfl
theorem cmp_gt (a b : Int) : (some (compare a b) == some Ordering.gt) = decide (b < a) := by
  rw [cmp_val]
  by_cases h : a < b
  · rw [if_pos h, decide_eq_false (by omega)]; rfl
  · rw [if_neg h]
    by_cases h2 : a = b
    · rw [if_pos h2, decide_eq_false (by omega)]; rfl
    · rw [if_neg h2, decide_eq_true (by omega)]; rfl
theorem order_zero (f : Nat) : (FloatKind.f64.format.order f 0 == some .eq) = decide (f % 9223372036854775808 = 0) := by
  show (Ieee.double.order f 0 == some .eq) = _
  unfold Ieee.Format.order
  rw [read_zero]
  rcases Nat.lt_trichotomy (f % 9223372036854775808) 9218868437227405312 with h | h | h
  · obtain ⟨m, p, e, hm, hp, h0⟩ := read_fin f h
    rw [e]
    simp only [Ieee.Datum.order]
    rw [cmp_eq, decide_eq_decide, ← h0, signed_val, signed_val]
    have hpos : ∀ k : Nat, 0 < 2 ^ k := fun k => Nat.two_pow_pos k
    generalize (Ieee.double.leastPlace + ↑p - min (Ieee.double.leastPlace + ↑p) Ieee.double.leastPlace).toNat = k
    have hk := hpos k
    have hmul : m * 2 ^ k = 0 ↔ m = 0 := by rw [Nat.mul_eq_zero]; omega
    generalize m * 2 ^ k = x at *
    cases (f / 9223372036854775808 % 2 == 1) <;> simp <;> omega
  · rw [read_inf f h]
    simp only [Ieee.Datum.order]
    rw [decide_eq_false (by omega)]
    cases (f / 9223372036854775808 % 2 == 1) <;> rfl
  · obtain ⟨s, t, e⟩ := read_nan f h
    rw [e]
    simp only [Ieee.Datum.order]
    rw [decide_eq_false (by omega)]
    rfl
theorem read_max : Ieee.double.read 9218868437227405311 = .number false 9007199254740991 (Ieee.double.leastPlace + ((2045 : Nat) : Int)) := by decide
theorem mag_le {m p : Nat} (hm : m < 9007199254740992) (hp : p ≤ 2045) (L : Int) :
    m * 2 ^ (L + (p : Int) - min (L + (p : Int)) (L + ((2045 : Nat) : Int))).toNat ≤ 9007199254740991 * 2 ^ (L + ((2045 : Nat) : Int) - min (L + (p : Int)) (L + ((2045 : Nat) : Int))).toNat := by
  have e : min (L + (p : Int)) (L + ((2045 : Nat) : Int)) = L + (p : Int) := by omega
  rw [e, show (L + (p : Int) - (L + (p : Int))).toNat = 0 by omega]
  have := Nat.two_pow_pos (L + ((2045 : Nat) : Int) - (L + (p : Int))).toNat
  generalize 2 ^ (L + ((2045 : Nat) : Int) - (L + (p : Int))).toNat = y at *
  have h1 : 9007199254740991 * 1 ≤ 9007199254740991 * y := Nat.mul_le_mul_left _ this
  simp only [Nat.pow_zero, Nat.mul_one]
  omega
theorem order_max (f : Nat) (hf : f < 18446744073709551616) : (FloatKind.f64.format.order f 9218868437227405311 == some .gt) = decide (f = 9218868437227405312) := by
  show (Ieee.double.order f 9218868437227405311 == some .gt) = _
  unfold Ieee.Format.order
  rw [read_max]
  rcases Nat.lt_trichotomy (f % 9223372036854775808) 9218868437227405312 with h | h | h
  · obtain ⟨m, p, e, hm, hp, h0⟩ := read_fin f h
    rw [e]
    simp only [Ieee.Datum.order]
    rw [cmp_gt, decide_eq_decide, signed_val, signed_val]
    have hle := mag_le hm hp Ieee.double.leastPlace
    generalize m * 2 ^ _ = x at *
    generalize 9007199254740991 * 2 ^ _ = y at *
    cases (f / 9223372036854775808 % 2 == 1) <;> simp <;> omega
  · rw [read_inf f h]
    simp only [Ieee.Datum.order]
    have hs : f / 9223372036854775808 = 0 ∨ f / 9223372036854775808 = 1 := by omega
    rcases hs with hs | hs
    · rw [hs, decide_eq_true (by omega)]; rfl
    · rw [hs, decide_eq_false (by omega)]; rfl
  · obtain ⟨s, t, e⟩ := read_nan f h
    rw [e]
    simp only [Ieee.Datum.order]
    rw [decide_eq_false (by omega)]
    rfl
set_option maxRecDepth 100000 in
set_option maxHeartbeats 1000000 in
theorem signbit_any (f : Nat) (hf : f < 18446744073709551616) (w : World) :
    Calls Tryz.prog 160 #[.float .f64 f] w fun e w' => e = .returned (.bool (decide (9223372036854775808 ≤ f))) ∧ w = w' := by
  have hb : ∀ (f : Nat) (w : World), (callFunc 73 #[.float .f64 f]).run Tryz.prog w = .ok (.value (.int .u64 f)) w := call_bits
  by_cases h : 9223372036854775808 ≤ f
  · rw [decide_eq_true h]
    have hw : IntKind.i64.wrap (f : Int) = (f : Int) - 18446744073709551616 := by rw [IntKind.wrap_i64]; omega
    have hlt : decide ((f : Int) - 18446744073709551616 < 0) = true := by rw [decide_eq_true_iff]; omega
    go_enter Tryz.func160, Tryz.ntmps160
    go_wp2
    go_ret
    exact ⟨rfl, rfl⟩
  · rw [decide_eq_false h]
    have hw : IntKind.i64.wrap (f : Int) = (f : Int) := by rw [IntKind.wrap_i64]; omega
    have hlt : decide ((f : Int) < 0) = false := by rw [decide_eq_false_iff_not]; omega
    go_enter Tryz.func160, Tryz.ntmps160
    go_wp2
    go_ret
    exact ⟨rfl, rfl⟩
theorem andnot_sign (f : Nat) (hf : f < 18446744073709551616) : bits BinOp.andNot IntKind.u64 (f : Int) 9223372036854775808 = ((f % 9223372036854775808 : Nat) : Int) := by
  have h := u64_andNot_nat f 9223372036854775808 hf (by decide)
  have e : f &&& (18446744073709551615 - 9223372036854775808) = f % 9223372036854775808 := Nat.and_two_pow_sub_one_eq_mod f 63
  rw [e] at h
  exact h
set_option maxRecDepth 100000 in
set_option maxHeartbeats 1000000 in
theorem abs_any (f : Nat) (hf : f < 18446744073709551616) (w : World) :
    Calls Tryz.prog 183 #[.float .f64 f] w fun e w' => e = .returned (.float .f64 (f % 9223372036854775808)) ∧ w = w' := by
  have hb : ∀ (f : Nat) (w : World), (callFunc 73 #[.float .f64 f]).run Tryz.prog w = .ok (.value (.int .u64 f)) w := call_bits
  have hn := andnot_sign f hf
  generalize f % 9223372036854775808 = g at *
  have hb2 : ∀ (w : World), (callFunc 110 #[.int .u64 g]).run Tryz.prog w = .ok (.value (.float .f64 g)) w := call_bits2 g
  go_enter Tryz.func183, Tryz.ntmps183
  go_wp2
  go_ret
  exact ⟨rfl, rfl⟩
set_option maxRecDepth 100000 in
set_option maxHeartbeats 1000000 in
theorem isinf_any (f : Nat) (hf : f < 18446744073709551616) (w : World) :
    Calls Tryz.prog 161 #[.float .f64 f, .int .i64 0] w fun e w' => e = .returned (.bool (decide (f % 9223372036854775808 = 9218868437227405312))) ∧ w = w' := by
  have hA := Lib.hid (abs_any f hf w)
  have ho := order_max (f % 9223372036854775808) (by omega)
  generalize f % 9223372036854775808 = g at *
  generalize decide (g = 9218868437227405312) = r at *
  go_enter Tryz.func161, Tryz.ntmps161
  go_wp2_with fail
  refine hA.out.mono ?_
  rintro e w1 ⟨rfl, rfl⟩
  go_wp2
  go_ret
  exact ⟨rfl, rfl⟩
theorem repeat_one (c : UInt8) (n : Nat) : Lib.repeatL [c] n = List.replicate n c := by
  induction n with
  | zero => simp [Lib.repeatL]
  | succ n ih => rw [List.replicate_succ, ← ih]; simp [Lib.repeatL, List.replicate_succ]
set_option maxRecDepth 100000 in
set_option maxHeartbeats 4000000 in
theorem ntext_any (f : Nat) (hf : f < 18446744073709551616) (w : World) (h : w.cell? ⟨9, 15, none⟩ = some (.int .u8 4)) :
    Calls Tryz.prog 131 #[.float .f64 f] w fun e w' => e = .returned (.string ⟨(numTextL f).toArray⟩) ∧ Below w.heap.size w w' := by
  have ho := order_self f hf
  have hz := order_zero f
  have HS := Lib.hid (signbit_any f hf w)
  have HI := Lib.hid (isinf_any f hf w)
  have HNB := Lib.hid (nbits_any f hf w)
  have HT := Lib.hid h
  have HNM := nanB_mod hf
  clear h
  by_cases hn : nanB f = true
  · have ht : numTextL f = nanL := by unfold numTextL canonB; rw [if_pos hn]; rfl
    rw [ht]
    rw [hn] at ho
    clear HS HI HNB HT hz HNM
    go_enter Tryz.func131, Tryz.ntmps131
    go_wp2
    go_ret
    exact ⟨rfl, Below.refl _ _⟩
  have hn' : nanB f = false := by simpa using hn
  have hcan : canonB f = f := by unfold canonB; rw [if_neg hn]
  rw [hn'] at ho HNM
  rw [hcan] at HNB
  have hle : f % 9223372036854775808 ≤ 9218868437227405312 := by
    have := of_decide_eq_false HNM.symm; omega
  by_cases h0 : f % 9223372036854775808 = 0
  · rw [decide_eq_true h0] at hz
    by_cases hs : 9223372036854775808 ≤ f
    · have he : f = 9223372036854775808 := by omega
      have ht : numTextL f = mzeroL := by unfold numTextL; rw [hcan, he]; decide
      rw [ht]
      rw [Hid, decide_eq_true hs] at HS
      clear HI HNB HT HNM he hs h0 hle hcan hn hn' ht
      go_enter Tryz.func131, Tryz.ntmps131
      go_wp2_with fail
      refine HS.mono ?_
      rintro e w1 ⟨rfl, rfl⟩
      clear HS
      go_wp2
      go_ret
      exact ⟨rfl, Below.refl _ _⟩
    · have he : f = 0 := by omega
      have ht : numTextL f = zeroL := by unfold numTextL; rw [hcan, he]; decide
      rw [ht]
      rw [Hid, decide_eq_false hs] at HS
      clear HI HNB HT HNM he hs h0 hle hcan hn hn' ht
      go_enter Tryz.func131, Tryz.ntmps131
      go_wp2_with fail
      refine HS.mono ?_
      rintro e w1 ⟨rfl, rfl⟩
      clear HS
      go_wp2
      go_ret
      exact ⟨rfl, Below.refl _ _⟩
  rw [decide_eq_false h0] at hz
  by_cases hi : f % 9223372036854775808 = 9218868437227405312
  · rw [Hid, decide_eq_true hi] at HI
    have HI2 := Lib.hid HI
    by_cases hs : 9223372036854775808 ≤ f
    · have he : f = 18442240474082181120 := by omega
      have ht : numTextL f = minfL := by unfold numTextL; rw [hcan, he]; decide
      rw [ht]
      rw [Hid, decide_eq_true hs] at HS
      have HS2 := Lib.hid HS
      clear HI HS HNB HT HNM he hs h0 hle hcan hn hn' ht hi
      go_enter Tryz.func131, Tryz.ntmps131
      go_wp2_with (first
        | (go_at_call 160; refine HS2.out.mono ?_; rintro e w1 ⟨rfl, rfl⟩)
        | (go_at_call 161; refine HI2.out.mono ?_; rintro e w1 ⟨rfl, rfl⟩))
      go_ret
      exact ⟨rfl, Below.refl _ _⟩
    · have he : f = 9218868437227405312 := by omega
      have ht : numTextL f = infL := by unfold numTextL; rw [hcan, he]; decide
      rw [ht]
      rw [Hid, decide_eq_false hs] at HS
      have HS2 := Lib.hid HS
      clear HI HS HNB HT HNM he hs h0 hle hcan hn hn' ht hi
      go_enter Tryz.func131, Tryz.ntmps131
      go_wp2_with (first
        | (go_at_call 160; refine HS2.out.mono ?_; rintro e w1 ⟨rfl, rfl⟩)
        | (go_at_call 161; refine HI2.out.mono ?_; rintro e w1 ⟨rfl, rfl⟩))
      go_ret
      exact ⟨rfl, Below.refl _ _⟩
  · rw [Hid, decide_eq_false hi] at HI
    have HI2 := Lib.hid HI
    have HS2 := Lib.hid HS.out
    have HTX : Hid (numTextL f = 120 :: hex16 f) := by
      rw [Hid]
      unfold numTextL numC
      rw [hcan, if_neg ?_, if_neg ?_, if_neg ?_, if_neg ?_, if_neg ?_]
      all_goals (intro e; rw [e] at hi h0 hn'; first | exact absurd rfl hi | exact absurd rfl h0 | exact absurd hn' (by decide))
    have HF := Lib.hid (fu16_any f hf w HT.out)
    generalize decide (9223372036854775808 ≤ f) = sg at *
    clear HI HS HT HNM h0 hle hcan hn hn' hi
    go_enter Tryz.func131, Tryz.ntmps131
    cases sg
    all_goals
      go_upto_region 11 with (first
        | (go_at_call 160; refine HS2.out.mono ?_; rintro e w1 ⟨rfl, rfl⟩)
        | (go_at_call 161; refine HI2.out.mono ?_; rintro e w1 ⟨rfl, rfl⟩)
        | (go_at_call 46; refine HNB.out.mono ?_; rintro e w1 ⟨rfl, rfl⟩)
        | (go_at_call 162; refine HF.out.mono ?_; rintro e w2 ⟨⟨j, hj1, hj2, hj3, rfl⟩, hb2⟩))
      have HB2 := Lib.hid hb2
      have HJ := Lib.hid (And.intro hj2 hj3)
      obtain ⟨s, hs⟩ : ∃ s : ByteArray, s = ⟨(hexTail f j).toArray⟩ := ⟨_, rfl⟩
      have hsz : s.size = j := by rw [hs]; show (hexTail f j).toArray.size = j; simp [hexTail_length]
      obtain ⟨m, hm⟩ : ∃ m, m = 16 - j := ⟨_, rfl⟩
      have hsub : (16 : Int) - (s.size : Int) = (m : Int) := by rw [hsz]; omega
      have hm16 : m ≤ 16 := by omega
      have HS := Lib.hid hs
      have HM := Lib.hid hm
      have HR0 := Lib.hid (Tryz.strings_Repeat ⟨#[48]⟩ m w2 (by omega) (by show 1 * m ≤ _; omega))
      obtain ⟨rp, hrp⟩ : ∃ rp : ByteArray, rp = ⟨(Lib.repeatL [48] m).toArray⟩ := ⟨_, rfl⟩
      have HR : Hid (Calls Tryz.prog 163 #[.string ⟨#[48]⟩, .int .i64 (m : Int)] w2 fun e w' => e = .returned (.string rp) ∧ Below w2.heap.size w2 w') := by
        rw [Hid, hrp]
        exact HR0.out
      have hrsz : rp.size ≤ 16 := by rw [hrp, repeat_one]; show (List.replicate m (48 : UInt8)).toArray.size ≤ 16; simp; try omega
      have HRP := Lib.hid hrp
      have hs16 : s.size ≤ 16 := by omega
      rw [← hs]
      clear hb2 hs hrp hj1 hj2 hj3 HR0 hm hsz
      go_wp2_with fail
      refine HR.out.mono ?_
      rintro e w3 ⟨rfl, hb3⟩
      have HB3 := Lib.hid (HB2.out.trans (hb3.mono HB2.out.size))
      clear hb3
      go_wp2
      go_ret
      refine ⟨?_, HB3.out⟩
      show Ending.returned (.string ((⟨#[120]⟩ : ByteArray) ++ rp ++ s)) = _
      rw [HRP.out, HM.out, HS.out, HTX.out, repeat_one, ← hex16_of_tail HJ.out.2 HJ.out.1]
      have e1 : (⟨#[120]⟩ : ByteArray) = ⟨([120] : List UInt8).toArray⟩ := rfl
      rw [e1, ba_app, ba_app]
      rfl
abbrev Tab (w : World) : Prop := Lib.TabIs Tryz.prog w powName .u64 Lib.pow10Tab
theorem Tab.later {w w' : World} (h : Tab w) (hb : Below w.heap.size w w') : Tab w' := by
  unfold Tab Lib.TabIs World.var? at *
  cases hg : Tryz.prog.globalNamed powName with
  | none => simp [hg] at h
  | some g =>
    simp only [hg, Option.bind_some] at h ⊢
    have hlt : g < w.heap.size := by
      rcases Nat.lt_or_ge g w.heap.size with h' | h'
      · exact h'
      · rw [Array.getElem?_eq_none h'] at h; simp at h
    rw [hb.block g hlt]
    exact h
theorem below_grown (w : World) (k : Nat) (os : Array Obj) : Below w.heap.size w (Sort.grow (w.drewN k) os) :=
  ⟨rfl, rfl, rfl, by show w.heap.size ≤ (w.heap ++ os).size; rw [Array.size_append]; omega, fun j hj => by
    show (w.heap ++ os)[j]? = w.heap[j]?
    rw [Array.getElem?_append_left hj]⟩
structure Tabs (w : World) : Prop where
  pow : Tab w
  tab : w.cell? ⟨9, 15, none⟩ = some (.int .u8 4)
theorem Tabs.later {w w' : World} (h : Tabs w) (hb : Below w.heap.size w w') : Tabs w' := ⟨h.pow.later hb, (hb.cell (p := ⟨9, 15, none⟩) (World.block_lt_of_cell? w _ h.tab)).trans h.tab⟩
set_option maxRecDepth 100000 in
set_option maxHeartbeats 1000000 in
theorem none_text (v : VV) (w : World) :
    Calls Tryz.prog 212 #[.agg #[], v.val] w fun e w' => e = .returned (.string ⟨nilS.toArray⟩) ∧ Below w.heap.size w w' := by
  obtain ⟨k, n, f, s, a, l, c⟩ := v
  simp only [VV.val]
  go_enter Tryz.func212, Tryz.ntmps212
  go_wp2
  go_ret
  exact ⟨rfl, ((Below.refl _ _).alloc (Nat.le_refl _) _).alloc (by simp) _⟩
set_option maxRecDepth 100000 in
set_option maxHeartbeats 1000000 in
theorem int_text (v : VV) (w : World) (hn : -9223372036854775808 ≤ v.n ∧ v.n ≤ 9223372036854775807) (hT : Tabs w) :
    Calls Tryz.prog 215 #[.agg #[], v.val] w fun e w' => e = .returned (.string ⟨(Lib.itoa v.n).toArray⟩) ∧ Below w.heap.size w w' := by
  obtain ⟨k, n, f, s, a, l, c⟩ := v
  simp only [VV.val] at hn ⊢
  have HB1 : Hid (Below w.heap.size w ((w.alloc (.cells #[] 104)).alloc (.cells #[.int .i64 k, .int .i64 n, .float .f64 f, .string s, .slice a l c] 26))) := ((Below.refl _ _).alloc (Nat.le_refl _) _).alloc (by simp) _
  have HF := Lib.hid (Tryz.strconv_FormatInt_10 n hn.1 hn.2 _ (hT.later HB1.out).pow)
  clear hT
  go_enter Tryz.func215, Tryz.ntmps215
  go_wp2_with fail
  refine HF.out.mono ?_
  rintro e w2 ⟨rfl, dk, dos, rfl⟩
  go_wp2_with fail
  go_ret
  exact ⟨rfl, HB1.out.trans ((below_grown _ dk dos).mono HB1.out.size)⟩
theorem numC_small (b : Nat) : (numC b).length ≤ 100 := by
  unfold numC
  repeat' split
  all_goals first
    | decide
    | simp [hex16]
theorem numTextL_small (f : Nat) : (numTextL f).length ≤ 100 := numC_small _
set_option maxRecDepth 100000 in
set_option maxHeartbeats 1000000 in
theorem float_text (v : VV) (w : World) (hf : v.f < 18446744073709551616) (hT : Tabs w) :
    Calls Tryz.prog 219 #[.agg #[], v.val] w fun e w' => e = .returned (.string ⟨(35 :: numTextL v.f).toArray⟩) ∧ Below w.heap.size w w' := by
  obtain ⟨k, n, f, s, a, l, c⟩ := v
  simp only [VV.val] at hf ⊢
  have HB1 : Hid (Below w.heap.size w ((w.alloc (.cells #[] 105)).alloc (.cells #[.int .i64 k, .int .i64 n, .float .f64 f, .string s, .slice a l c] 26))) := ((Below.refl _ _).alloc (Nat.le_refl _) _).alloc (by simp) _
  have HF := Lib.hid (ntext_any f hf _ (hT.later HB1.out).tab)
  obtain ⟨nt, hnt⟩ : ∃ nt : ByteArray, nt = ⟨(numTextL f).toArray⟩ := ⟨_, rfl⟩
  have hns : nt.size ≤ 100 := by rw [hnt]; show (numTextL f).toArray.size ≤ 100; rw [List.size_toArray]; exact numTextL_small f
  have hcc : (⟨(35 :: numTextL f).toArray⟩ : ByteArray) = ⟨#[35]⟩ ++ nt := by rw [hnt]; exact (ba_app [35] _).symm
  rw [hcc]
  rw [← hnt] at HF
  clear hT hcc hnt
  go_enter Tryz.func219, Tryz.ntmps219
  go_wp2_with fail
  refine HF.out.mono ?_
  rintro e w2 ⟨rfl, hb2⟩
  have HB2 := Lib.hid (HB1.out.trans (hb2.mono HB1.out.size))
  clear hb2
  go_wp2_with fail
  go_ret
  exact ⟨rfl, HB2.out⟩
theorem str_text (v : VV) (w : World) (hs : v.s.size ≤ 1000000) :
    Calls Tryz.prog 222 #[.agg #[], v.val] w fun e w' => e = .returned (.string ⟨(34 :: hexL v.s.data.toList ++ [34]).toArray⟩) ∧ Below w.heap.size w w' := vtext_any v.k v.n v.f v.s v.a v.l v.c w hs
end Go.Proofs.YtpijpeocdlnhiaaGreatDoor
