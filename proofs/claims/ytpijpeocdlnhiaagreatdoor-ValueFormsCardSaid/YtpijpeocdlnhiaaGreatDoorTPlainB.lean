/- The texts of payloads, and what the program and the reference read out of a text: plain law, no program in sight. -/
import Derived.Test.YtpijpeocdlnhiaaGreatDoorTPlainA
import Derived.Test.YtpijpeocdlnhiaaGreatDoorValid
import Derived.Test.YtpijpeocdlnhiaaGreatDoorSame
namespace Go.Proofs.YtpijpeocdlnhiaaGreatDoor
set_option linter.unusedVariables false
set_option linter.unusedSimpArgs false
open Go.RowKit

abbrev nilS : List UInt8 := [110, 105, 108]
/-- The text of a payload that is no list. -/
def atomT (k n : Int) (f : Nat) (s : ByteArray) : List UInt8 :=
  if k = 1 then Lib.itoa n else if k = 2 then 35 :: numTextL f else if k = 3 then 34 :: hexL s.data.toList ++ [34] else nilS
mutual
def textT : VT → List UInt8
  | .node k n f s l => if k = 4 then 91 :: (textsT l ++ [93]) else atomT k n f s
def textsT : List VT → List UInt8
  | [] => []
  | t :: ts => textT t ++ tailT ts
def tailT : List VT → List UInt8
  | [] => []
  | t :: ts => 32 :: (textT t ++ tailT ts)
end
/-- The text of a payload; none if it is not valid. -/
def textTop (t : VT) : List UInt8 := if goodT 8 t = true then textT t else []

mutual
def canonT : VT → VT
  | .node k n f s l => .node k n (canonB f) s (canonL l)
def canonL : List VT → List VT
  | [] => []
  | t :: ts => canonT t :: canonL ts
end
theorem canonL_map (l : List VT) : canonL l = l.map canonT := by
  induction l with
  | nil => rw [canonL]; rfl
  | cons a l ih => rw [canonL, ih]; rfl
theorem textsT_append (l : List VT) (t : VT) (h : l ≠ []) : textsT (l ++ [t]) = textsT l ++ 32 :: textT t := by
  have ht : ∀ m : List VT, tailT (m ++ [t]) = tailT m ++ 32 :: textT t := by
    intro m
    induction m with
    | nil => rw [List.nil_append, tailT, tailT, tailT]; simp
    | cons a m ih => rw [List.cons_append, tailT, tailT, ih]; simp
  cases l with
  | nil => exact absurd rfl h
  | cons a l => rw [List.cons_append, textsT, textsT, ht]; simp

theorem headB_canon (left k n : Int) (f : Nat) (s : ByteArray) (len : Nat) : headB left k n (canonB f) s len = headB left k n f s len := by
  unfold headB; rw [canon_canon]
theorem canonT_good (t : VT) : ∀ left, goodT left (canonT t) = goodT left t := by
  induction t using VT.ind with
  | _ k n f s l ih =>
    intro left
    rw [canonT, goodT, goodT, headB_canon, canonL_map, List.length_map]
    congr 1
    rw [Bool.eq_iff_iff, goodL_iff, goodL_iff]
    constructor
    · intro h t ht
      rw [← ih t ht]
      exact h _ (List.mem_map.2 ⟨t, ht, rfl⟩)
    · intro h t ht
      obtain ⟨u, hu, rfl⟩ := List.mem_map.1 ht
      rw [ih u hu]
      exact h u hu
theorem canonT_text (t : VT) : textT (canonT t) = textT t := by
  induction t using VT.ind with
  | _ k n f s l ih =>
    rw [canonT, textT, textT]
    split
    · congr 2
      have htl : ∀ m : List VT, (∀ t ∈ m, textT (canonT t) = textT t) → tailT (canonL m) = tailT m := by
        intro m
        induction m with
        | nil => intro _; rw [canonL]
        | cons a m im => intro h; rw [canonL, tailT, tailT, h a (by simp), im (fun t ht => h t (by simp [ht]))]
      cases l with
      | nil => rw [canonL]
      | cons a l => rw [canonL, textsT, textsT, ih a (by simp), htl l (fun t ht => ih t (by simp [ht]))]
    · unfold atomT numTextL
      rw [canon_canon]
theorem canonT_idem (t : VT) : canonT (canonT t) = canonT t := by
  induction t using VT.ind with
  | _ k n f s l ih =>
    rw [canonT, canonT, canon_canon, canonL_map, canonL_map, List.map_map]
    congr 1
    exact List.map_congr_left (fun t ht => ih t ht)
theorem textTop_of_canon {t u : VT} (h : canonT t = canonT u) : textTop t = textTop u := by
  unfold textTop
  rw [← canonT_good t, ← canonT_text t, h, canonT_good, canonT_text]
theorem sameT_canon (t : VT) : ∀ u, canonT t = canonT u → sameT t u = true := by
  induction t using VT.ind with
  | _ k n f s l ih =>
    rintro ⟨k', n', f', s', l'⟩ h
    rw [canonT, canonT] at h
    injection h with h1 h2 h3 h4 h5
    rw [canonL_map, canonL_map] at h5
    have hlen : l.length = l'.length := by have := congrArg List.length h5; simpa using this
    rw [sameT]
    simp only [VT.k, VT.n, VT.f, VT.s, VT.l, h1, h2, h3, h4, hlen, decide_true, Bool.true_and]
    refine (sameL_iff l l' hlen).2 (fun i hi1 hi2 => ih _ (List.getElem_mem hi1) _ ?_)
    have := congrArg (fun m => m[i]?) h5
    simpa [List.getElem?_map, List.getElem?_eq_getElem hi1, List.getElem?_eq_getElem hi2] using this

/-! ### words -/
def stopC (c : UInt8) : Bool := c == 32 || c == 93
def wN (s : List UInt8) : Nat := s.findIdx stopC
/-- Nothing follows, or a space or a bracket. -/
def Stops (rest : List UInt8) : Prop := ∀ c, rest.head? = some c → stopC c = true
theorem wN_le (s : List UInt8) : wN s ≤ s.length := List.findIdx_le_length
theorem wN_append (a rest : List UInt8) (h : ∀ c ∈ a, stopC c = false) (hr : Stops rest) : wN (a ++ rest) = a.length := by
  unfold wN
  induction a with
  | nil =>
    cases rest with
    | nil => rfl
    | cons c r => rw [List.nil_append, List.findIdx_cons, hr c rfl]; rfl
  | cons c a ih =>
    rw [List.cons_append, List.findIdx_cons, h c (by simp), ih (fun x hx => h x (by simp [hx]))]; rfl

def zeroT : VT := .node 0 0 0 ⟨#[]⟩ []
def wordP (s : List UInt8) : VT :=
  if s.head? = some 35 then .node 2 0 (numParseF s.tail) ⟨#[]⟩ []
  else if s.head? = some 34 then .node 3 0 0 ⟨(unhexP (Lib.trimB s 34)).toArray⟩ []
  else if s = nilS then zeroT
  else .node 1 (intP s) 0 ⟨#[]⟩ []
def atomR (s : List UInt8) : VT × Bool :=
  if s = nilS then (zeroT, true)
  else if (numberR s).2 = true then (.node 1 (numberR s).1 0 ⟨#[]⟩ [], true)
  else if s.head? = some 35 then (.node 2 0 (numParseR s.tail).1 ⟨#[]⟩ [], (numParseR s.tail).2)
  else if 2 ≤ s.length ∧ s.head? = some 34 ∧ s.getLast? = some 34 then (.node 3 0 0 ⟨(unhexR (s.tail.take (s.length - 2))).1.toArray⟩ [], (unhexR (s.tail.take (s.length - 2))).2)
  else (zeroT, false)

/-- A payload that is right and no list. -/
structure Atom (k n : Int) (f : Nat) (s : ByteArray) (l : List VT) : Prop where
  kind : k = 0 ∨ k = 1 ∨ k = 2 ∨ k = 3
  nn : k = 1 ∨ n = 0
  ff : k = 2 ∨ canonB f = 0
  ss : k = 3 ∨ s = ⟨#[]⟩
  ll : l = []
theorem ba_empty {s : ByteArray} (h : s.toList = []) : s = ⟨#[]⟩ := by
  apply ByteArray.ext
  rw [ByteArray.toList_eq] at h
  exact Array.toList_eq_nil_iff.1 h
theorem atom_of {left k n : Int} {f : Nat} {s : ByteArray} {l : List VT} (h : headB left k n f s l.length = true) (hk : k ≠ 4) : Atom k n f s l := by
  unfold headB at h
  simp only [Bool.and_eq_true, Bool.or_eq_true, decide_eq_true_eq] at h
  obtain ⟨⟨⟨⟨⟨h1, h2⟩, h3⟩, h4⟩, h5⟩, -⟩ := h
  exact ⟨by omega, h2, h3, h4.imp id ba_empty, List.eq_nil_of_length_eq_zero (h5.resolve_left hk)⟩

theorem atom_chars (k n : Int) (f : Nat) (s : ByteArray) : ∀ c ∈ atomT k n f s, stopC c = false := by
  have hs : ∀ c : UInt8, c.toNat ≠ 32 → c.toNat ≠ 93 → stopC c = false := by
    intro c h1 h2
    unfold stopC
    rw [Bool.or_eq_false_iff, beq_eq_false_iff_ne, beq_eq_false_iff_ne]
    exact ⟨fun e => h1 (by rw [e]; rfl), fun e => h2 (by rw [e]; rfl)⟩
  intro c hc
  unfold atomT at hc
  split at hc
  · rcases itoa_chars n c hc with h | h <;> exact hs c (by omega) (by omega)
  · split at hc
    · rcases List.mem_cons.1 hc with rfl | hc
      · decide
      · rcases numC_char _ c hc with h | h | h <;> exact hs c (by omega) (by omega)
    · split at hc
      · rw [List.cons_append] at hc
        rcases List.mem_cons.1 hc with rfl | hc
        · decide
        · rcases List.mem_append.1 hc with hc | hc
          · rcases hexL_char _ c hc with h | h <;> exact hs c (by omega) (by omega)
          · rw [List.mem_singleton.1 hc]; decide
      · simp only [List.mem_cons, List.not_mem_nil, or_false] at hc
        rcases hc with rfl | rfl | rfl <;> decide
theorem atom_head (k n : Int) (f : Nat) (s : ByteArray) : ∃ c r, atomT k n f s = c :: r ∧ c ≠ 91 ∧ c ≠ 93 ∧ c ≠ 32 := by
  have hne : atomT k n f s ≠ [] := by
    unfold atomT
    split
    · exact itoa_ne n
    · split
      · simp
      · split <;> simp
  cases h : atomT k n f s with
  | nil => exact absurd h hne
  | cons c r =>
    have h1 := atom_chars k n f s c (by rw [h]; simp)
    refine ⟨c, r, rfl, ?_, ?_, ?_⟩
    · rintro rfl
      unfold atomT at h
      split at h
      · rcases itoa_chars n 91 (by rw [h]; simp) with h | h
        · exact absurd h (by decide)
        · exact absurd h.2 (by decide)
      · split at h
        · simp at h
        · split at h <;> simp at h
    · rintro rfl; exact absurd h1 (by decide)
    · rintro rfl; exact absurd h1 (by decide)

theorem canon_eq_zero {f : Nat} (h : canonB f = 0) : f = 0 := by
  unfold canonB at h
  split at h
  · omega
  · exact h
theorem head_itoa (n : Int) (c : UInt8) (h : ¬ (c.toNat = 45 ∨ (48 ≤ c.toNat ∧ c.toNat ≤ 57))) : (Lib.itoa n).head? ≠ some c := by
  intro e
  cases hi : Lib.itoa n with
  | nil => rw [hi] at e; cases e
  | cons a r =>
    rw [hi] at e
    cases e
    exact h (itoa_chars n c (by rw [hi]; simp))
theorem itoa_nil (n : Int) : Lib.itoa n ≠ nilS := by
  intro e
  rcases itoa_chars n 110 (by rw [e]; simp) with h | h
  · exact absurd h (by decide)
  · exact absurd h.2 (by decide)
theorem hexL_no34 (l : List UInt8) : ∀ x ∈ hexL l, x ≠ 34 := by
  intro x hx e
  subst e
  rcases hexL_char l _ hx with h | h
  · exact absurd h.1 (by decide)
  · exact absurd h.1 (by decide)
theorem ba_data (s : ByteArray) : (⟨s.data.toList.toArray⟩ : ByteArray) = s := by cases s; simp

theorem wordP_atom {k n : Int} {f : Nat} {s : ByteArray} {l : List VT} (h : Atom k n f s l) (hn : -9223372036854775808 ≤ n ∧ n ≤ 9223372036854775807) (hf : f < 18446744073709551616) :
    wordP (atomT k n f s) = canonT (.node k n f s l) := by
  obtain ⟨hk, h1, h2, h3, h4⟩ := h
  subst h4
  rw [canonT, canonL]
  rcases hk with rfl | rfl | rfl | rfl
  · obtain rfl := h1.resolve_left (by decide)
    have h2 := h2.resolve_left (by decide)
    obtain rfl := h3.resolve_left (by decide)
    rw [h2]
    rfl
  · have h2 := h2.resolve_left (by decide)
    obtain rfl := h3.resolve_left (by decide)
    rw [h2]
    have ha : atomT 1 n f ⟨#[]⟩ = Lib.itoa n := by unfold atomT; rw [if_pos rfl]
    rw [ha]
    unfold wordP
    rw [if_neg (head_itoa n 35 (by decide)), if_neg (head_itoa n 34 (by decide)), if_neg (itoa_nil n), intP_itoa n hn.1 hn.2]
  · obtain rfl := h1.resolve_left (by decide)
    obtain rfl := h3.resolve_left (by decide)
    have ha : atomT 2 0 f ⟨#[]⟩ = 35 :: numTextL f := by unfold atomT; rw [if_neg (by decide), if_pos rfl]
    rw [ha]
    unfold wordP
    rw [if_pos (by simp), List.tail_cons, numParse_text f hf]
  · obtain rfl := h1.resolve_left (by decide)
    have h2 := h2.resolve_left (by decide)
    rw [h2]
    have ha : atomT 3 0 f s = 34 :: hexL s.data.toList ++ [34] := by unfold atomT; rw [if_neg (by decide), if_neg (by decide), if_pos rfl]
    rw [ha]
    unfold wordP
    rw [if_neg (by simp), if_pos (by simp), trim_quoted _ (hexL_no34 _), unhexP_hexL, ba_data]

theorem atomR_atom {k n : Int} {f : Nat} {s : ByteArray} {l : List VT} (h : Atom k n f s l) (hn : -9223372036854775808 ≤ n ∧ n ≤ 9223372036854775807) (hf : f < 18446744073709551616) :
    ∃ t, atomR (atomT k n f s) = (t, true) ∧ canonT t = canonT (.node k n f s l) := by
  obtain ⟨hk, h1, h2, h3, h4⟩ := h
  subst h4
  rcases hk with rfl | rfl | rfl | rfl
  · obtain rfl := h1.resolve_left (by decide)
    have h2 := canon_eq_zero (h2.resolve_left (by decide))
    obtain rfl := h3.resolve_left (by decide)
    subst h2
    exact ⟨_, rfl, rfl⟩
  · have h2 := canon_eq_zero (h2.resolve_left (by decide))
    obtain rfl := h3.resolve_left (by decide)
    subst h2
    have ha : atomT 1 n 0 ⟨#[]⟩ = Lib.itoa n := by unfold atomT; rw [if_pos rfl]
    rw [ha]
    refine ⟨_, ?_, rfl⟩
    unfold atomR
    rw [if_neg (itoa_nil n), numberR_itoa n hn.1 hn.2, if_pos rfl]
  · obtain rfl := h1.resolve_left (by decide)
    obtain rfl := h3.resolve_left (by decide)
    have ha : atomT 2 0 f ⟨#[]⟩ = 35 :: numTextL f := by unfold atomT; rw [if_neg (by decide), if_pos rfl]
    obtain ⟨x, hx, -, hc⟩ := numParseR_text f hf
    rw [ha]
    refine ⟨.node 2 0 x ⟨#[]⟩ [], ?_, ?_⟩
    · unfold atomR
      rw [if_neg (by simp), numberR_no 35 _ (by decide), if_neg (by decide), if_pos (by simp), List.tail_cons, hx]
    · rw [canonT, canonT, hc]
  · obtain rfl := h1.resolve_left (by decide)
    have h2 := canon_eq_zero (h2.resolve_left (by decide))
    subst h2
    have ha : atomT 3 0 0 s = 34 :: hexL s.data.toList ++ [34] := by unfold atomT; rw [if_neg (by decide), if_neg (by decide), if_pos rfl]
    rw [ha]
    refine ⟨_, ?_, rfl⟩
    have hg : (34 :: hexL s.data.toList ++ [34]).getLast? = some 34 := List.getLast?_concat
    have ht : (34 :: hexL s.data.toList ++ [34]).tail.take ((34 :: hexL s.data.toList ++ [34]).length - 2) = hexL s.data.toList := by
      simp
    unfold atomR
    rw [if_neg (by simp), List.cons_append, numberR_no 34 _ (by decide), ← List.cons_append, if_neg (by decide), if_neg (by simp), if_pos ⟨by simp, by simp, hg⟩, ht, unhexR_hexL, ba_data]

/-! ### lists -/
/-- The elements behind an open bracket, as the program reads them. -/
def loopP (p : List UInt8 → VT × List UInt8) : Nat → List UInt8 → List VT → List VT × List UInt8
  | 0, s, acc => (acc, s)
  | n + 1, s, acc =>
    match s with
    | [] => (acc, [])
    | c :: r =>
      if c = 93 then (acc, r)
      else
        match (p s).2 with
        | [] => (acc ++ [(p s).1], [])
        | d :: q => if d = 32 then loopP p n q (acc ++ [(p s).1]) else if d = 93 then (acc ++ [(p s).1], q) else (acc ++ [(p s).1], d :: q)
def listP (p : List UInt8 → VT × List UInt8) (s : List UInt8) : VT × List UInt8 := (.node 4 0 0 ⟨#[]⟩ (loopP p s.length s []).1, (loopP p s.length s []).2)
def parseP : Nat → List UInt8 → VT × List UInt8
  | 0, s => (wordP (s.take (wN s)), s.drop (wN s))
  | k + 1, s => if s.head? = some 91 then listP (parseP k) s.tail else (wordP (s.take (wN s)), s.drop (wN s))
/-- The same, as the reference reads them. -/
def loopR (p : List UInt8 → VT × List UInt8 × Bool) : Nat → List UInt8 → List VT → VT × List UInt8 × Bool
  | 0, s, acc => (zeroT, [], false)
  | n + 1, s, acc =>
    if (p s).2.2 = false then (zeroT, [], false)
    else
      match (p s).2.1 with
      | [] => (zeroT, [], false)
      | d :: q => if d = 93 then (.node 4 0 0 ⟨#[]⟩ (acc ++ [(p s).1]), q, true) else loopR p n q (acc ++ [(p s).1])
def listR (p : List UInt8 → VT × List UInt8 × Bool) (s : List UInt8) : VT × List UInt8 × Bool :=
  if s.head? = some 93 then (.node 4 0 0 ⟨#[]⟩ [], s.tail, true) else loopR p (s.length + 1) s []
def parseR : Nat → List UInt8 → VT × List UInt8 × Bool
  | 0, s => if s.head? = some 91 then (zeroT, [], false) else ((atomR (s.take (wN s))).1, s.drop (wN s), (atomR (s.take (wN s))).2)
  | k + 1, s => if s.head? = some 91 then listR (parseR k) s.tail else ((atomR (s.take (wN s))).1, s.drop (wN s), (atomR (s.take (wN s))).2)

theorem stops_93 (r : List UInt8) : Stops (93 :: r) := by intro c hc; cases hc; rfl
theorem stops_32 (r : List UInt8) : Stops (32 :: r) := by intro c hc; cases hc; rfl
theorem textT_head (t : VT) : ∃ c r, textT t = c :: r ∧ c ≠ 93 ∧ c ≠ 32 := by
  cases t with
  | node k n f s l =>
    rw [textT]
    split
    · exact ⟨91, _, rfl, by decide, by decide⟩
    · obtain ⟨c, r, h1, _, h2, h3⟩ := atom_head k n f s
      exact ⟨c, r, h1, h2, h3⟩
theorem atom_parse (k n : Int) (f : Nat) (s : ByteArray) (rest : List UInt8) (hr : Stops rest) :
    (atomT k n f s ++ rest).take (wN (atomT k n f s ++ rest)) = atomT k n f s ∧ (atomT k n f s ++ rest).drop (wN (atomT k n f s ++ rest)) = rest ∧ (atomT k n f s ++ rest).head? ≠ some 91 := by
  rw [wN_append _ rest (atom_chars k n f s) hr]
  refine ⟨by simp, by simp, ?_⟩
  obtain ⟨c, r, h, h2, -⟩ := atom_head k n f s
  rw [h]
  simpa using h2

theorem loopP_text (p : List UInt8 → VT × List UInt8) (ts : List VT) (hp : ∀ t ∈ ts, ∀ rest, Stops rest → p (textT t ++ rest) = (canonT t, rest)) (rest : List UInt8) : ∀ (t : VT) (us : List VT) (acc : List VT) (n : Nat), (∀ u ∈ t :: us, u ∈ ts) →
    us.length + 1 ≤ n → loopP p n (textT t ++ tailT us ++ 93 :: rest) acc = (acc ++ canonT t :: canonL us, rest) := by
  intro t us
  induction us generalizing t with
  | nil =>
    intro acc n hin hn
    obtain ⟨m, rfl⟩ : ∃ m, n = m + 1 := ⟨n - 1, by simp at hn; omega⟩
    obtain ⟨c, r, hc, h93, -⟩ := textT_head t
    rw [tailT, List.append_nil, loopP.eq_def]
    have hps := hp t (hin t (by simp)) (93 :: rest) (stops_93 rest)
    rw [hc, List.cons_append] at hps ⊢
    simp only []
    rw [if_neg h93, hps]
    simp only []
    rw [if_neg (by decide), if_pos trivial, canonL]
  | cons u us ih =>
    intro acc n hin hn
    obtain ⟨m, rfl⟩ : ∃ m, n = m + 1 := ⟨n - 1, by simp at hn; omega⟩
    obtain ⟨c, r, hc, h93, -⟩ := textT_head t
    have hps := hp t (hin t (by simp)) (32 :: (textT u ++ tailT us ++ 93 :: rest)) (stops_32 _)
    have he : textT t ++ tailT (u :: us) ++ 93 :: rest = textT t ++ 32 :: (textT u ++ tailT us ++ 93 :: rest) := by rw [tailT]; simp
    rw [he, loopP.eq_def]
    rw [hc, List.cons_append] at hps ⊢
    simp only []
    rw [if_neg h93, hps]
    simp only []
    rw [if_pos trivial, ih u (acc ++ [canonT t]) m (fun x hx => hin x (by simp at hx ⊢; exact .inr hx)) (by simp at hn ⊢; omega), canonL]
    simp

theorem tail_length (us : List VT) : us.length ≤ (tailT us).length := by
  induction us with
  | nil => simp
  | cons u us ih => rw [tailT, List.length_cons, List.length_cons, List.length_append]; omega

theorem list_of {left k n : Int} {f : Nat} {s : ByteArray} {l : List VT} (h : headB left k n f s l.length = true) (hk : k = 4) : n = 0 ∧ canonB f = 0 ∧ s = ⟨#[]⟩ ∧ left ≠ 0 := by
  subst hk
  unfold headB at h
  simp at h
  obtain ⟨⟨⟨h1, h2⟩, h3⟩, h4⟩ := h
  exact ⟨h1, h2, ba_empty h3, h4⟩

theorem parseP_text (t : VT) : ∀ (k : Nat) (rest : List UInt8), goodT k t = true → wfT t → Stops rest → parseP k (textT t ++ rest) = (canonT t, rest) := by
  induction t using VT.ind with
  | _ kk n f s l ih =>
    intro k rest hg hw hr
    rw [goodT, Bool.and_eq_true] at hg
    obtain ⟨hh, hl⟩ := hg
    rw [wfT] at hw
    obtain ⟨hwk, hwn, hwf, hws, hwl⟩ := hw
    by_cases hk : kk = 4
    · obtain ⟨rfl, hf, rfl, h0⟩ := list_of hh hk
      obtain ⟨m, rfl⟩ : ∃ m, k = m + 1 := ⟨k - 1, by omega⟩
      rw [show ((m + 1 : Nat) : Int) - 1 = (m : Int) by omega] at hl
      have hp : ∀ t ∈ l, ∀ rest, Stops rest → parseP m (textT t ++ rest) = (canonT t, rest) := fun t ht rest hr => ih t ht m rest ((goodL_iff _ _).1 hl t ht) ((wfL_iff l).1 hwl t ht) hr
      have hc : canonT (.node kk 0 f ⟨#[]⟩ l) = .node 4 0 0 ⟨#[]⟩ (canonL l) := by rw [canonT, hf, hk]
      rw [hc, textT, if_pos hk, parseP, List.cons_append, if_pos (by simp), List.tail_cons]
      unfold listP
      cases l with
      | nil =>
        rw [textsT, List.nil_append, List.singleton_append, List.length_cons, loopP.eq_def, canonL]
        rfl
      | cons t us =>
        have he : textsT (t :: us) ++ [93] ++ rest = textT t ++ tailT us ++ 93 :: rest := by rw [textsT]; simp
        rw [he, loopP_text (parseP m) (t :: us) hp rest t us [] _ (fun u hu => hu) (by
          have := tail_length us
          simp only [List.length_append, List.length_cons]; omega), canonL, List.nil_append]
    · have ha := atom_of hh hk
      obtain ⟨h1, h2, h3⟩ := atom_parse kk n f s rest hr
      have ht : textT (.node kk n f s l) = atomT kk n f s := by rw [textT, if_neg hk]
      rw [ht, ← wordP_atom ha hwn hwf]
      cases k with
      | zero => rw [parseP, h1, h2]
      | succ k => rw [parseP, if_neg h3, h1, h2]

theorem loopR_text (p : List UInt8 → VT × List UInt8 × Bool) (ts : List VT) (hp : ∀ t ∈ ts, ∀ rest, Stops rest → ∃ t', p (textT t ++ rest) = (t', rest, true) ∧ canonT t' = canonT t) (rest : List UInt8) : ∀ (t : VT) (us : List VT) (acc : List VT) (n : Nat), (∀ u ∈ t :: us, u ∈ ts) →
    us.length + 1 ≤ n → ∃ l', loopR p n (textT t ++ tailT us ++ 93 :: rest) acc = (.node 4 0 0 ⟨#[]⟩ (acc ++ l'), rest, true) ∧ canonL l' = canonL (t :: us) := by
  intro t us
  induction us generalizing t with
  | nil =>
    intro acc n hin hn
    obtain ⟨m, rfl⟩ : ∃ m, n = m + 1 := ⟨n - 1, by simp at hn; omega⟩
    obtain ⟨t', hps, hct⟩ := hp t (hin t (by simp)) (93 :: rest) (stops_93 rest)
    refine ⟨[t'], ?_, by rw [canonL, canonL, canonL, canonL, hct]⟩
    rw [tailT, List.append_nil, loopR, hps]
    simp only []
    rw [if_neg (by decide), if_pos trivial]
  | cons u us ih =>
    intro acc n hin hn
    obtain ⟨m, rfl⟩ : ∃ m, n = m + 1 := ⟨n - 1, by simp at hn; omega⟩
    obtain ⟨t', hps, hct⟩ := hp t (hin t (by simp)) (32 :: (textT u ++ tailT us ++ 93 :: rest)) (stops_32 _)
    obtain ⟨l', hl1, hl2⟩ := ih u (acc ++ [t']) m (fun x hx => hin x (by simp at hx ⊢; exact .inr hx)) (by simp at hn ⊢; omega)
    refine ⟨t' :: l', ?_, by rw [canonL, canonL, hct, hl2]⟩
    have he : textT t ++ tailT (u :: us) ++ 93 :: rest = textT t ++ 32 :: (textT u ++ tailT us ++ 93 :: rest) := by rw [tailT]; simp
    rw [he, loopR, hps]
    simp only []
    rw [if_neg (by decide), if_neg (by decide), hl1]
    simp

theorem parseR_text (t : VT) : ∀ (k : Nat) (rest : List UInt8), goodT k t = true → wfT t → Stops rest → ∃ t', parseR k (textT t ++ rest) = (t', rest, true) ∧ canonT t' = canonT t := by
  induction t using VT.ind with
  | _ kk n f s l ih =>
    intro k rest hg hw hr
    rw [goodT, Bool.and_eq_true] at hg
    obtain ⟨hh, hl⟩ := hg
    rw [wfT] at hw
    obtain ⟨hwk, hwn, hwf, hws, hwl⟩ := hw
    by_cases hk : kk = 4
    · obtain ⟨rfl, hf, rfl, h0⟩ := list_of hh hk
      obtain ⟨m, rfl⟩ : ∃ m, k = m + 1 := ⟨k - 1, by omega⟩
      rw [show ((m + 1 : Nat) : Int) - 1 = (m : Int) by omega] at hl
      have hp : ∀ t ∈ l, ∀ rest, Stops rest → ∃ t', parseR m (textT t ++ rest) = (t', rest, true) ∧ canonT t' = canonT t := fun t ht rest hr => ih t ht m rest ((goodL_iff _ _).1 hl t ht) ((wfL_iff l).1 hwl t ht) hr
      have hc : canonT (.node kk 0 f ⟨#[]⟩ l) = .node 4 0 0 ⟨#[]⟩ (canonL l) := by rw [canonT, hf, hk]
      have h00 : canonB 0 = 0 := canon_zero
      rw [hc, textT, if_pos hk, parseR, List.cons_append, if_pos (by simp), List.tail_cons]
      unfold listR
      cases l with
      | nil =>
        rw [textsT, List.nil_append, List.singleton_append, if_pos (by simp), List.tail_cons]
        exact ⟨_, rfl, by rw [canonT, h00]⟩
      | cons t us =>
        have he : textsT (t :: us) ++ [93] ++ rest = textT t ++ tailT us ++ 93 :: rest := by rw [textsT]; simp
        obtain ⟨c, r, hc', h93, -⟩ := textT_head t
        obtain ⟨l', hl1, hl2⟩ := loopR_text (parseR m) (t :: us) hp rest t us [] ((textT t ++ tailT us ++ 93 :: rest).length + 1) (fun u hu => hu) (by
          have := tail_length us
          simp only [List.length_append, List.length_cons]; omega)
        rw [he, if_neg (by rw [hc']; simpa using h93), hl1, List.nil_append]
        exact ⟨_, rfl, by rw [canonT, h00, hl2]⟩
    · have ha := atom_of hh hk
      obtain ⟨h1, h2, h3⟩ := atom_parse kk n f s rest hr
      obtain ⟨t', ht1, ht2⟩ := atomR_atom ha hwn hwf
      have ht : textT (.node kk n f s l) = atomT kk n f s := by rw [textT, if_neg hk]
      refine ⟨t', ?_, ht2⟩
      rw [ht]
      cases k with
      | zero => rw [parseR, if_neg h3, h1, h2, ht1]
      | succ k => rw [parseR, if_neg h3, h1, h2, ht1]

/-- Parse, as the program has it, and as the reference has it. -/
def ParseP (s : List UInt8) : VT × Bool := if s ≠ [] ∧ textTop (parseP 8 s).1 = s then ((parseP 8 s).1, true) else (zeroT, false)
def ParseR (s : List UInt8) : VT × Bool := if (parseR 8 s).2.2 = true ∧ (parseR 8 s).2.1 = [] ∧ textTop (parseR 8 s).1 = s then ((parseR 8 s).1, true) else (zeroT, false)
theorem stops_nil : Stops [] := by intro c hc; cases hc
theorem textTop_some {t : VT} {s : List UInt8} (h : textTop t = s) (hs : s ≠ []) : goodT 8 t = true ∧ textT t = s := by
  unfold textTop at h
  split at h
  · rename_i hg; exact ⟨hg, h⟩
  · exact absurd h.symm hs
theorem parseR_nil : (parseR 8 []).2.2 = false := by
  rw [parseR, if_neg (by simp)]
  show (atomR []).2 = false
  unfold atomR
  rw [if_neg (by simp), numberR_nil, if_neg (by decide), if_neg (by simp), if_neg (by simp)]
theorem parse_both (s : List UInt8) (hw1 : wfT (parseP 8 s).1) (hw2 : wfT (parseR 8 s).1) : (ParseP s).2 = (ParseR s).2 ∧ canonT (ParseP s).1 = canonT (ParseR s).1 ∧ ((ParseP s).2 = true → textTop (ParseP s).1 = s) := by
  by_cases hp : s ≠ [] ∧ textTop (parseP 8 s).1 = s
  · obtain ⟨hs, ht⟩ := hp
    obtain ⟨hg, hx⟩ := textTop_some ht hs
    obtain ⟨t', h1, h2⟩ := parseR_text _ 8 [] hg hw1 stops_nil
    rw [List.append_nil, hx] at h1
    have hr : ParseR s = (t', true) := by
      unfold ParseR
      rw [h1, if_pos ⟨rfl, rfl, by rw [textTop_of_canon h2, ht]⟩]
    have hpp : ParseP s = ((parseP 8 s).1, true) := by unfold ParseP; rw [if_pos ⟨hs, ht⟩]
    rw [hr, hpp]
    exact ⟨rfl, h2.symm, fun _ => ht⟩
  · have hpp : ParseP s = (zeroT, false) := by unfold ParseP; rw [if_neg hp]
    by_cases hr : (parseR 8 s).2.2 = true ∧ (parseR 8 s).2.1 = [] ∧ textTop (parseR 8 s).1 = s
    · exfalso
      obtain ⟨h1, h2, h3⟩ := hr
      have hs : s ≠ [] := by
        rintro rfl
        rw [parseR_nil] at h1
        cases h1
      obtain ⟨hg, hx⟩ := textTop_some h3 hs
      have := parseP_text _ 8 [] hg hw2 stops_nil
      rw [List.append_nil, hx] at this
      refine hp ⟨hs, ?_⟩
      rw [this]
      show textTop (canonT _) = s
      rw [textTop_of_canon (canonT_idem _), h3]
    · have hrr : ParseR s = (zeroT, false) := by unfold ParseR; rw [if_neg hr]
      rw [hrr, hpp]
      exact ⟨rfl, rfl, fun h => by cases h⟩
end Go.Proofs.YtpijpeocdlnhiaaGreatDoor
