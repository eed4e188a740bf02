/- The names of files. -/
import Derived.Test.YtjhhmljebflanaaDoorShelf
import Derived.Test.YtjhhmljebflanaaDoorDisk
import Derived.Shelf.Strings.SlTrimAscii
namespace Go.Proofs.YtjhhmljebflanaaDoor
set_option linter.unusedVariables false
set_option linter.unusedSimpArgs false
open Go.RowKit

def allowedL : List UInt8 := [97, 98, 99, 100, 101, 102, 103, 104, 105, 106, 107, 108, 109, 110, 111, 112, 113, 114, 115, 116, 117, 118, 119, 120, 121, 122, 48, 49, 50, 51, 52, 53, 54, 55, 56, 57, 45, 46]
def okC (c : UInt8) : Bool := allowedL.contains c
/-- A string is a name of a file. -/
def namedB (n : ByteArray) : Bool := decide (1 ≤ n.size ∧ n.size ≤ 100) && n.data.toList.all okC

theorem indexByte_neg (c : UInt8) : ∀ l : List UInt8, (Lib.indexByte l c = -1 ∧ l.contains c = false) ∨ (0 ≤ Lib.indexByte l c ∧ l.contains c = true)
  | [] => .inl ⟨rfl, rfl⟩
  | b :: l => by
    rw [Lib.indexByte, List.contains_cons]
    by_cases h : b = c
    · subst h; right; simp
    · have h1 : (b == c) = false := by simpa using h
      have h2 : (c == b) = false := by simpa using fun e => h e.symm
      simp only [h1, h2, Bool.false_or, Bool.false_eq_true, if_false]
      rcases indexByte_neg c l with ⟨h3, h4⟩ | ⟨h3, h4⟩
      · left; simp [h3, h4]; simpa using h4
      · right
        have : (Lib.indexByte l c == -1) = false := by simp; omega
        simp only [this, Bool.false_eq_true, if_false]
        exact ⟨by omega, h4⟩

set_option maxRecDepth 100000 in
theorem named1_any (c : UInt8) (w : World) :
    Calls Tryd.prog 56 #[.int .u8 c.toNat] w fun e w' => e = .returned (.bool (!okC c)) ∧ w' = w := by
  have HI := Lib.hid (Tryd.strings_IndexByte ⟨allowedL.toArray⟩ c.toNat w)
  have hc : (c.toNat : Int).toNat.toUInt8 = c := by
    rw [Int.toNat_natCast]; exact UInt8.ofNat_toNat
  rw [hc] at HI
  have HN : Hid (decide (Lib.indexByte allowedL c < 0) = !okC c) := by
    unfold okC
    rcases indexByte_neg c allowedL with ⟨h1, h2⟩ | ⟨h1, h2⟩
    · rw [Hid, h1, h2]; rfl
    · rw [Hid, h2]; simp; omega
  clear hc
  go_enter Tryd.func56, Tryd.ntmps56
  go_wp2_with fail
  refine HI.out.mono ?_
  rintro e w1 ⟨rfl, rfl⟩
  go_wp2
  go_ret
  exact ⟨congrArg (fun b => Ending.returned (.bool b)) HN.out, rfl⟩

set_option maxRecDepth 100000 in
set_option maxHeartbeats 1000000 in
theorem indexB_any (a : Option Addr) (c : Nat) (l : List UInt8) (w : World) (h : Reads w (.slice a l.length c) l.length 1 (byts l)) (hl : l.length ≤ 100000) :
    Calls Tryd.prog 68 #[.slice a l.length c, .func (.func 56) #[] #[]] w fun e w' => (∃ k : Int, e = .returned (.int .i64 k) ∧ (decide (0 ≤ k) = !l.all okC)) ∧ w' = w := by
  have hlen : l.length ≤ c := by obtain ⟨-, a', c', he, hle, -, -⟩ := h; cases he; exact hle
  have HC : Hid (∀ (j : Nat) (hj : j < l.length), ∃ b o, a = some ⟨b, o, none⟩ ∧ w.cell? ⟨b, o + j, none⟩ = some (.int .u8 l[j].toNat)) := by
    intro j hj
    obtain ⟨b, o, c', hv, -, -, hc⟩ := h.at (by omega)
    cases hv
    refine ⟨b, o, rfl, hc j _ ?_⟩
    rw [byts, List.getElem?_map, List.getElem?_eq_getElem hj]; rfl
  clear h
  go_enter Tryd.func68, Tryd.ntmps68
  go_wp2_with fail
  go_loopw [8] (fun i w' => ∃ m : Nat, m ≤ l.length ∧ i = .int .i64 m ∧ w' = w ∧ Hid (∀ j (hj : j < l.length), j < m → okC l[j] = true)) (fun i _ => l.length - (RowKit.intOf i).toNat)
  case atStart => exact ⟨0, by omega, rfl, rfl, fun j _ h => by omega⟩
  case round =>
    obtain ⟨m, hm, rfl, rfl, HLOW⟩ := hrel
    by_cases hlt : m < l.length
    · obtain ⟨b, o, rfl, hc0⟩ := HC.out m hlt
      have HK := Lib.hid (named1_any l[m] wr)
      go_wp2_with fail
      refine HK.out.mono ?_
      rintro e w1 ⟨rfl, rfl⟩
      by_cases hok : okC l[m] = true
      · rw [hok]
        clear hc0 HK
        go_wp2
        go_roundw
        case rel =>
          refine ⟨m + 1, by omega, by go_num, (by first | rfl | trivial), fun j hj hjm => ?_⟩
          rcases Nat.lt_or_ge j m with h3 | h3
          · exact HLOW.out j hj h3
          · have : j = m := by omega
            subst this; exact hok
        case measure => simp [RowKit.intOf]; omega
      · have hok' : okC l[m] = false := by simpa using hok
        rw [hok']
        clear hc0 HK
        go_wp2
        go_ret
        refine ⟨⟨m, rfl, ?_⟩, rfl⟩
        have : l.all okC = false := by
          rw [List.all_eq_false]
          exact ⟨l[m], List.getElem_mem hlt, hok⟩
        rw [this]; simp
    · obtain rfl : m = l.length := by omega
      go_wp2
      go_ret
      refine ⟨⟨-1, rfl, ?_⟩, rfl⟩
      have : l.all okC = true := by
        rw [List.all_eq_true]
        intro x hx
        obtain ⟨j, hj, rfl⟩ := List.mem_iff_getElem.1 hx
        exact HLOW.out j hj hj
      rw [this]; rfl

set_option maxRecDepth 100000 in
theorem containsB_any (a : Option Addr) (c : Nat) (l : List UInt8) (w : World) (h : Reads w (.slice a l.length c) l.length 1 (byts l)) (hl : l.length ≤ 100000) :
    Calls Tryd.prog 55 #[.slice a l.length c, .func (.func 56) #[] #[]] w fun e w' => e = .returned (.bool (!l.all okC)) ∧ w' = w := by
  have HI := Lib.hid (indexB_any a c l w h hl)
  go_enter Tryd.func55, Tryd.ntmps55
  go_wp2_with fail
  refine HI.out.mono ?_
  rintro e w1 ⟨⟨k, rfl, hk⟩, rfl⟩
  have HK := Lib.hid hk
  clear hk
  go_wp2
  go_ret
  exact ⟨congrArg (fun b => Ending.returned (.bool b)) HK.out, rfl⟩

theorem dropWhile_all {α : Type} (p : α → Bool) : ∀ l : List α, (∀ x ∈ l, p x = true) → l.dropWhile p = []
  | [], _ => rfl
  | a :: l, h => by rw [List.dropWhile_cons, if_pos (h a (by simp))]; exact dropWhile_all p l (fun x hx => h x (by simp [hx]))
theorem trimS_all {l cs : List UInt8} (h : l.all (cs.contains ·) = true) : Lib.trimS l cs = [] := by
  unfold Lib.trimS Lib.trimLeftS Lib.trimRightS
  rw [List.all_eq_true] at h
  have e : l.reverse.dropWhile (cs.contains ·) = [] := by
    exact dropWhile_all _ _ (fun x hx => h x (List.mem_reverse.1 hx))
  rw [e]; rfl

theorem size_list (s : ByteArray) : s.data.toList.length = s.size := (Lib.size_eq s).symm

theorem reads_bytes (W : World) (s : ByteArray) (c : Nat) (fr : Nat × Nat) (hc : s.size ≤ c) :
    Reads (W.drew.alloc (.cells (bytesRow s c) 5 fr)) (.slice (some ⟨W.heap.size, 0, none⟩) s.size c) s.size 1 (byts s.data.toList) := by
  refine ⟨by rw [byts_length, size_list]; omega, _, c, rfl, hc, (fun h => by cases h), fun ad had j u hu => ?_⟩
  cases had
  rw [Addr.add_lit, Nat.zero_add]
  have hj : j < s.data.size := by
    have := (List.getElem?_eq_some_iff.1 hu).1
    rw [byts_length, size_list] at this; exact this
  refine cellAt (heap_alloc_new W.drew _) j ?_
  rw [bytesRow_at s c j hj, ← hu, byts, List.getElem?_map, List.getElem?_eq_getElem (by simpa using hj)]
  simp [u8v]

set_option maxRecDepth 100000 in
set_option maxHeartbeats 1000000 in
theorem named_any (s : ByteArray) (w : World) :
    Calls Tryd.prog 45 #[.string s] w fun e w' => e = .returned (.bool (namedB s)) ∧ Below w.heap.size w w' := by
  by_cases h1 : 1 ≤ s.size
  · by_cases h2 : s.size ≤ 100
    · have HT := Lib.hid (Any.strings_Trim_laid (ρ := Tryd.lays160_ren) Tryd.lays160 (by kernel_rfl) s ⟨allowedL.toArray⟩ w (by omega) (by decide) (ascii_of_all (by decide)))
      obtain ⟨G, hG⟩ : ∃ G, G = s.data.toList.all okC := ⟨_, rfl⟩
      have HG := Lib.hid hG
      have HN : Hid (namedB s = G) := by
        rw [Hid, namedB, decide_eq_true (show 1 ≤ s.size ∧ s.size ≤ 100 from ⟨h1, h2⟩), Bool.true_and, hG]
      have HTR : Hid (G = true → (⟨(Lib.trimS s.data.toList allowedL).toArray⟩ : ByteArray).toList.isEmpty = true) := by
        intro h
        rw [Lib.toList_data]
        have : Lib.trimS s.data.toList allowedL = [] := trimS_all (by rw [← h, hG]; rfl)
        rw [this]; rfl
      have HTF : Hid (s.data.toList.length = s.size) := size_list s
      generalize (Lib.trimS s.data.toList allowedL) = tt at *
      clear hG
      go_enter Tryd.func45, Tryd.ntmps45
      go_wp2_with fail
      refine HT.out.mono ?_
      rintro e w1 ⟨rfl, hb1⟩
      have HB1 := Lib.hid hb1
      clear hb1 HT
      cases tt with
      | nil =>
        have hcv := run_bytes_of_string (P := Tryd.prog) w1 9 22 5 s Tryd.underlying9 Tryd.underlying22 Tryd.underlying5
        have hge := grownCap_ge w1 s.size 0 5
        have HRB := Lib.hid (reads_bytes w1 s _ ((bytesRow s (grownCap w1 s.size 0 5)).size, (bytesRow s (grownCap w1 s.size 0 5)).size + 1) hge)
        have HBB := Lib.hid (HB1.out.drew.alloc HB1.out.size (.cells (bytesRow s (grownCap w1 s.size 0 5)) 5 ((bytesRow s (grownCap w1 s.size 0 5)).size, (bytesRow s (grownCap w1 s.size 0 5)).size + 1)))
        generalize (w1.drew.alloc (.cells (bytesRow s (grownCap w1 s.size 0 5)) 5 ((bytesRow s (grownCap w1 s.size 0 5)).size, (bytesRow s (grownCap w1 s.size 0 5)).size + 1))) = w2 at *
        generalize grownCap w1 s.size 0 5 = cp at *
        have HCB := Lib.hid (containsB_any (some ⟨w1.heap.size, 0, none⟩) cp s.data.toList w2 (by rw [HTF.out]; exact HRB.out) (by rw [HTF.out]; omega))
        rw [HTF.out, ← HG.out] at HCB
        clear HRB HTR hge
        go_wp2_with fail
        refine HCB.out.mono ?_
        rintro e w3 ⟨rfl, rfl⟩
        go_wp2
        go_ret
        refine ⟨congrArg (fun b => Ending.returned (.bool b)) ?_, HBB.out⟩
        first | (rw [HN.out]; done) | (rw [HN.out]; simp)
      | cons t0 tt =>
        have HF : Hid (G = false) := by
          rw [Hid]; exact Bool.eq_false_iff.2 (fun h => by have := HTR.out h; rw [Lib.toList_data] at this; cases this)
        clear HTR
        go_wp2
        go_ret
        exact ⟨congrArg (fun b => Ending.returned (.bool b)) (HN.out.trans HF.out).symm, HB1.out⟩
    · have HN : Hid (namedB s = false) := by
        rw [Hid, namedB, decide_eq_false (fun h => h2 h.2)]; rfl
      go_enter Tryd.func45, Tryd.ntmps45
      go_wp2
      go_ret
      exact ⟨congrArg (fun b => Ending.returned (.bool b)) HN.out.symm, Below.refl _ _⟩
  · have HN : Hid (namedB s = false) := by
      rw [Hid, namedB, decide_eq_false (fun h => h1 h.1)]; rfl
    go_enter Tryd.func45, Tryd.ntmps45
    go_wp2
    go_ret
    exact ⟨congrArg (fun b => Ending.returned (.bool b)) HN.out.symm, Below.refl _ _⟩

set_option maxRecDepth 100000 in
theorem run1_any (s : ByteArray) (w : World) :
    Calls Tryd.prog 44 #[.string s] w fun e w' => e = .returned (.bool (!namedB s)) ∧ Below w.heap.size w w' := by
  have HI := Lib.hid (named_any s w)
  go_enter Tryd.func44, Tryd.ntmps44
  go_wp2_with fail
  refine HI.out.mono ?_
  rintro e w1 ⟨rfl, hb⟩
  have HB := Lib.hid hb
  clear hb HI
  go_wp2
  go_ret
  exact ⟨rfl, HB.out⟩

set_option maxRecDepth 100000 in
set_option maxHeartbeats 1000000 in
theorem indexS_any (a : Option Addr) (c : Nat) (l : List ByteArray) (w : World) (h : Reads w (.slice a l.length c) l.length 1 (l.map Value.string)) (hl : l.length ≤ 100000) :
    Calls Tryd.prog 53 #[.slice a l.length c, .func (.func 44) #[] #[]] w fun e w' => (∃ k : Int, e = .returned (.int .i64 k) ∧ (decide (0 ≤ k) = !l.all namedB)) ∧ Below w.heap.size w w' := by
  have hlen : l.length ≤ c := by obtain ⟨-, a', c', he, hle, -, -⟩ := h; cases he; exact hle
  have HC : Hid (∀ (j : Nat) (hj : j < l.length), ∃ b o, a = some ⟨b, o, none⟩ ∧ b < w.heap.size ∧ w.cell? ⟨b, o + j, none⟩ = some (.string l[j])) := by
    intro j hj
    obtain ⟨b, o, c', hv, -, hb, hc⟩ := h.at (by omega)
    cases hv
    refine ⟨b, o, rfl, hb, hc j _ ?_⟩
    rw [List.getElem?_map, List.getElem?_eq_getElem hj]; rfl
  clear h
  go_enter Tryd.func53, Tryd.ntmps53
  go_wp2_with fail
  go_loopw [8] (fun i w' => ∃ m : Nat, m ≤ l.length ∧ i = .int .i64 m ∧ Hid (Below w.heap.size w w') ∧ Hid (∀ j (hj : j < l.length), j < m → namedB l[j] = true)) (fun i _ => l.length - (RowKit.intOf i).toNat)
  case atStart => exact ⟨0, by omega, rfl, Below.refl _ _, fun j _ h => by omega⟩
  case round =>
    obtain ⟨m, hm, rfl, HBE, HLOW⟩ := hrel
    by_cases hlt : m < l.length
    · obtain ⟨b, o, rfl, hbl, hc00⟩ := HC.out m hlt
      have hc0 := (HBE.out.cell (p := ⟨b, o + m, none⟩) hbl).trans hc00
      have HK := Lib.hid (run1_any l[m] wr)
      clear hc00
      go_wp2_with fail
      refine HK.out.mono ?_
      rintro e w1 ⟨rfl, hb1⟩
      have HB1 := Lib.hid (HBE.out.trans (hb1.mono HBE.out.size))
      clear hb1
      by_cases hok : namedB l[m] = true
      · rw [hok]
        clear hc0 HK
        go_wp2
        go_roundw
        case rel =>
          refine ⟨m + 1, by omega, by go_num, HB1, fun j hj hjm => ?_⟩
          rcases Nat.lt_or_ge j m with h3 | h3
          · exact HLOW.out j hj h3
          · have : j = m := by omega
            subst this; exact hok
        case measure => simp [RowKit.intOf]; omega
      · have hok' : namedB l[m] = false := by simpa using hok
        rw [hok']
        clear hc0 HK
        go_wp2
        go_ret
        refine ⟨⟨m, rfl, ?_⟩, HB1.out⟩
        have : l.all namedB = false := by
          rw [List.all_eq_false]
          exact ⟨l[m], List.getElem_mem hlt, hok⟩
        rw [this]; simp
    · obtain rfl : m = l.length := by omega
      go_wp2
      go_ret
      refine ⟨⟨-1, rfl, ?_⟩, HBE.out⟩
      have : l.all namedB = true := by
        rw [List.all_eq_true]
        intro x hx
        obtain ⟨j, hj, rfl⟩ := List.mem_iff_getElem.1 hx
        exact HLOW.out j hj hj
      rw [this]; rfl

set_option maxRecDepth 100000 in
theorem containsS_any (a : Option Addr) (c : Nat) (l : List ByteArray) (w : World) (h : Reads w (.slice a l.length c) l.length 1 (l.map Value.string)) (hl : l.length ≤ 100000) :
    Calls Tryd.prog 43 #[.slice a l.length c, .func (.func 44) #[] #[]] w fun e w' => e = .returned (.bool (!l.all namedB)) ∧ Below w.heap.size w w' := by
  have HI := Lib.hid (indexS_any a c l w h hl)
  go_enter Tryd.func43, Tryd.ntmps43
  go_wp2_with fail
  refine HI.out.mono ?_
  rintro e w1 ⟨⟨k, rfl, hk⟩, hb⟩
  have HK := Lib.hid hk
  have HB := Lib.hid hb
  clear hk hb
  go_wp2
  go_ret
  exact ⟨congrArg (fun b => Ending.returned (.bool b)) HK.out, HB.out⟩
end Go.Proofs.YtjhhmljebflanaaDoor
