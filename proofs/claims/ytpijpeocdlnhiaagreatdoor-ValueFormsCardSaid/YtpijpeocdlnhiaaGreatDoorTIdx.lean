/- strings.IndexAny at the cutset of a space and a bracket, at every string. -/
import Derived.Test.YtpijpeocdlnhiaaGreatDoorTPlainB
import Derived.Test.YtpijpeocdlnhiaaGreatDoorShelf
import Derived.Laws.Runes
import Derived.Laws.RangeAny
import Derived.WalkMore
import Derived.Lib.OthersKept
namespace Go.Proofs.YtpijpeocdlnhiaaGreatDoor
set_option linter.unusedVariables false
set_option linter.unusedSimpArgs false
open Go.RowKit

abbrev cutB : ByteArray := ⟨#[32, 93]⟩
set_option maxRecDepth 1000000 in
set_option maxHeartbeats 8000000 in
theorem irune_err (w : World) :
    Calls Tryz.prog 100 #[.string cutB, .int .i32 65533] w fun e w' => e = .returned (.int .i64 (-1)) ∧ Below w.heap.size w w' := by
  go_enter Tryz.func100, Tryz.ntmps100
  go_wp2_with fail
  go_loopg [5, 6] 2 (fun g _ _ wx => ∃ i : Nat, i + g = 2 ∧ wx = w.iter cutB i)
  case atStart => exact ⟨0, rfl, rfl⟩
  case round =>
    obtain ⟨i, hig, rfl⟩ := hrel
    cases gk with
    | zero =>
      obtain rfl : i = 2 := by omega
      have hnx := run_next_end (P := Tryz.prog) w cutB 2
      have h2 : ¬ 2 < cutB.size := by decide
      go_wp2
      go_ret
      exact ⟨rfl, (Below.refl _ _).alloc (Nat.le_refl _) _⟩
    | succ g =>
      have hi : i < cutB.size := by show i < 2; omega
      have ha : (cutB[i]'hi).toNat < 128 := by
        have : i = 0 ∨ i = 1 := by omega
        rcases this with rfl | rfl
        · show (32 : UInt8).toNat < 128; decide
        · show (93 : UInt8).toNat < 128; decide
      have hnx := fun ty => run_next_ascii (P := Tryz.prog) w cutB i ty hi ha
      generalize cutB[i]'hi = x at *
      have hx : (((x.toNat : Nat) : Int) == 65533) = false := by rw [beq_eq_false_iff_ne]; omega
      go_wp2
      go_roundg g
      case measure => omega
      case rel => exact ⟨i + 1, by omega, rfl⟩
set_option maxRecDepth 1000000 in
set_option maxHeartbeats 8000000 in
theorem irune_gen (c : ByteArray) (hc : c.size = 2) (hc1 : ∀ h : 1 < c.size, c[1]'h = 93) (hce : (c.extract 2 c.size).data.toList = []) (r : Int) (h1 : 128 ≤ r) (h2 : r ≤ 2147483647) (h3 : r ≠ 65533) (w : World) :
    Calls Tryz.prog 100 #[.string c, .int .i32 r] w fun e w' => e = .returned (.int .i64 (-1)) ∧ Below w.heap.size w w' := by
  have hne : (r == 65533) = false := by rw [beq_eq_false_iff_ne]; exact h3
  by_cases hv : Lib.validRune r = true
  · have hvr := fun W => Tryz.utf8_ValidRune r W
    rw [hv] at hvr
    have hvv : Utf8.valid r = true := by rw [validRune_eq]; exact hv
    obtain ⟨he1, he2, he3⟩ := encode_facts r hvv h1
    have hen := fun W => run_convert_int_string (P := Tryz.prog) W 21 9 .i32 r (by kernel_rfl) Tryz.underlying9
    generalize Utf8.encode r = rs at *
    have HVR := Lib.hid hvr
    have HCE := Lib.hid hce
    have hcz : 2 ≤ (c.size : Int) := by omega
    have hcy : (c.size : Int) ≤ 2 := by omega
    have h12 : 1 < c.size := by omega
    have h12' : (1 : Int) < (c.size : Int) := by omega
    clear hce hvr hvv hv hc
    go_enter Tryz.func100, Tryz.ntmps100
    go_wp2_with fail
    refine (HVR.out _).mono ?_
    rintro e w1 ⟨rfl, rfl⟩
    go_wp2_with fail
    go_step3
    go_wp2_with fail
    go_loop [9] (fun vi => vi = .int .i64 ((rs.size : Int) - 1)) (fun _ => 0)
    case atStart => rfl
    case round =>
      subst hrel
      by_cases hsz : rs.size = 2
      · have hlt : 1 < rs.size := by omega
        have hx : 128 ≤ (rs[1]'hlt).toNat := by
          have h := he3 (by omega)
          simp only [hsz] at h
          exact h
        obtain ⟨x, hxe⟩ : ∃ x, x = rs[1]'hlt := ⟨_, rfl⟩
        rw [← hxe] at hx
        have hxe2 := hxe.symm
        have hi1 : (rs.size : Int) - 1 = 1 := by omega
        have h93' : ((93 : Int) != (x.toNat : Int)) = true := by rw [bne_iff_ne]; omega
        have hI : ∀ W, Calls Tryz.prog 125 #[.string (c.extract 2 c.size), .int .u8 (x.toNat : Int)] W fun e w' => e = .returned (.int .i64 (-1)) ∧ w' = W := fun W => by
          have h := Tryz.strings_IndexByte (c.extract 2 c.size) (x.toNat : Int) W
          rw [HCE.out] at h
          exact h
        have HI := Lib.hid hI
        have HB0 : Hid (Below w1.heap.size w1 w1.drew) := (Below.refl _ _).drew
        have hsl : ∀ W, (Instr.slice 9 (.string c) (some (.int .i64 2)) none none).run Tryz.prog W = .ok (.string (c.extract 2 c.size)) W := fun W => run_slice_string_l W 9 c Tryz.underlying9 .i64 2 (by decide) hcz
        have hsl2 : ∀ W, (Instr.sliceAt 9 (.string c) (some (.int .i64 2)) none none).run Tryz.prog W = .ok (.string (c.extract 2 c.size)) W := fun W => by rw [run_sliceAt_string W 9 _ _ _ _ Tryz.underlying9]; exact hsl W
        have hsum : IntKind.i64.wrap (1 + 1) = 2 := by decide
        have hsum2 : IntKind.i64.wrap 2 = 2 := by decide
        rw [hi1]
        clear he1 he2 he3 hxe hI hne h3
        go_wp2_with fail
        go_step3
        go_wp2_with fail
        go_region
        all_goals
          generalize w1.drew = wd at *
          have HB1 : Hid (Below wd.heap.size wd wd.drew) := (Below.refl _ _).drew
          have HB11 : Hid (Below wd.heap.size wd wd) := Below.refl _ _
          go_wp2_with fail
          go_region_held3 (fun w' => Hid (Below w1.heap.size w1 w')) (exact HB0.out.trans ((show Hid (Below wd.heap.size wd _) by assumption).out.mono HB0.out.size))
            (first
            | (go_at_call 125; refine (HI.out _).mono ?_; rintro e w4 ⟨rfl, rfl⟩)
            | fail)
          all_goals
            go_wp2_with fail
            try rw [Exit.noGoto_ret]
            simp (config := { zetaDelta := true }) only [Exit.inBlock, Exit.then, Exit.noGoto]
            go_ret
            exact ⟨rfl, HB0.out.trans (HB1.out.mono HB0.out.size)⟩
      · have hge : 2 ≤ (rs.size : Int) - 1 := by omega
        go_wp2
        try rw [Exit.noGoto_ret]
        go_ret
        exact ⟨rfl, Below.refl _ _⟩
  · have hvr := fun W => Tryz.utf8_ValidRune r W
    have hvf : Lib.validRune r = false := by simpa using hv
    rw [hvf] at hvr
    go_enter Tryz.func100, Tryz.ntmps100
    go_wp2_with fail
    refine (hvr _).mono ?_
    rintro e w1 ⟨rfl, rfl⟩
    go_wp2
    go_ret
    exact ⟨rfl, Below.refl _ _⟩
theorem irune_high (r : Int) (h1 : 128 ≤ r) (h2 : r ≤ 2147483647) (w : World) :
    Calls Tryz.prog 100 #[.string cutB, .int .i32 r] w fun e w' => e = .returned (.int .i64 (-1)) ∧ Below w.heap.size w w' := by
  by_cases h3 : r = 65533
  · subst h3; exact irune_err w
  · exact irune_gen cutB rfl (fun _ => rfl) rfl r h1 h2 h3 w

/-- Where the word at a text's beginning ends, as IndexAny tells it. -/
def ixW (s : List UInt8) : Int := if wN s < s.length then (wN s : Int) else -1
theorem indexAny_ix (s : List UInt8) : Lib.indexAny s [32, 93] = ixW s := by
  unfold ixW wN
  induction s with
  | nil => rfl
  | cons c l ih =>
    rw [Lib.indexAny, List.findIdx_cons, List.length_cons]
    have hc : ([32, 93] : List UInt8).contains c = stopC c := by
      unfold stopC
      rw [Bool.eq_iff_iff]
      simp [List.contains_cons]
    rw [hc, ih]
    generalize List.findIdx stopC l = k at *
    generalize l.length = n at *
    cases stopC c
    · simp only [Bool.false_eq_true, if_false, cond_false]
      by_cases h : k < n
      · have h1 : ¬ ((k : Int) == -1) = true := by intro e; have := beq_iff_eq.1 e; omega
        rw [if_pos h, if_neg h1, if_pos (by omega)]; omega
      · rw [if_neg h, if_pos (by rfl), if_neg (by omega)]
    · simp
theorem zv140 (w : World) : (zeroValue 140).run Tryz.prog w = .ok (.agg (Array.replicate 256 (.bool false))) w := by kernel_rfl
/-- None of the first i bytes ends a word. -/
def NoStop (s : List UInt8) (i : Nat) : Prop := ∀ (j : Nat) b, j < i → s[j]? = some b → stopC b = false
theorem ix_hit {s : List UInt8} {i : Nat} {x : UInt8} (hn : NoStop s i) (hx : s[i]? = some x) (hc : stopC x = true) : ixW s = i := by
  have hlt := (List.getElem?_eq_some_iff.1 hx).1
  have h : wN s = i := by
    unfold wN
    rw [List.findIdx_eq hlt]
    refine ⟨?_, fun j hj => ?_⟩
    · rw [← (List.getElem?_eq_some_iff.1 hx).2] at hc; exact hc
    · have := hn j _ hj (List.getElem?_eq_getElem (by omega))
      rw [this]
  unfold ixW
  rw [h, if_pos hlt]
theorem ix_none {s : List UInt8} (hn : NoStop s s.length) : ixW s = -1 := by
  have h : wN s = s.length := by
    unfold wN
    rw [List.findIdx_eq_length]
    intro x hx
    obtain ⟨j, hj, rfl⟩ := List.mem_iff_getElem.1 hx
    rw [hn j _ hj (List.getElem?_eq_getElem hj)]
  unfold ixW
  rw [h, if_neg (Nat.lt_irrefl _)]
theorem below_iterAt {w1 W : World} (h : Below w1.heap.size w1 W) (s : ByteArray) (p : Nat) : Below w1.heap.size w1 (W.iterAt w1.heap.size s p) :=
  ⟨h.os, h.tape, h.output, by show w1.heap.size ≤ (W.heap.setIfInBounds _ _).size; rw [Array.size_setIfInBounds]; exact h.size, fun k hk => by
    show (W.heap.setIfInBounds _ _)[k]? = _
    rw [Array.getElem?_setIfInBounds_ne (by omega)]
    exact h.block k hk⟩
theorem ib_stop (x : UInt8) : stopC x = decide (0 ≤ Lib.indexByte [32, 93] x) := by
  by_cases h1 : x = 32
  · subst h1; rfl
  · by_cases h2 : x = 93
    · subst h2; rfl
    · have hs : stopC x = false := by
        unfold stopC
        rw [Bool.or_eq_false_iff, beq_eq_false_iff_ne, beq_eq_false_iff_ne]
        exact ⟨h1, h2⟩
      have h3 := Lib.contains_iff_indexByte [32, 93] x
      rw [hs, ← h3]
      simp [h1, h2]
theorem decode_span (s : ByteArray) (i : Nat) (h : i < s.size) (ha : 128 ≤ (s[i]'h).toNat) : i + (Utf8.decode s i).2 ≤ s.size ∧ ∀ k, k < (Utf8.decode s i).2 → 128 ≤ (s.get! (i + k)).toNat := by
  have hn : ¬ (s[i]'h).toNat < 128 := by omega
  have h0 : s.get! (i + 0) = s[i]'h := by
    show s.get! i = _
    simp [ByteArray.get!, getElem!_pos, h]
    rfl
  have one : i + 1 ≤ s.size ∧ ∀ k, k < 1 → 128 ≤ (s.get! (i + k)).toNat := ⟨by omega, fun k hk => by
    obtain rfl : k = 0 := by omega
    rw [h0]; exact ha⟩
  have h0' : 128 ≤ (s.get! (i + 0)).toNat := by rw [h0]; exact ha
  simp only [Utf8.decode, h0, hn, if_false]
  split
  · rename_i hc
    simp only [Bool.and_eq_true, decide_eq_true_eq, beq_iff_eq] at hc
    split
    · refine ⟨by simp only []; omega, fun k hk => ?_⟩
      simp only [] at hk
      have : k = 0 ∨ k = 1 := by omega
      rcases this with rfl | rfl
      · exact h0'
      · omega
    · exact one
  · split
    · rename_i hc
      simp only [Bool.and_eq_true, decide_eq_true_eq, beq_iff_eq] at hc
      split
      · refine ⟨by simp only []; omega, fun k hk => ?_⟩
        simp only [] at hk
        have : k = 0 ∨ k = 1 ∨ k = 2 := by omega
        rcases this with rfl | rfl | rfl
        · exact h0'
        · omega
        · omega
      · exact one
    · split
      · rename_i hc
        simp only [Bool.and_eq_true, decide_eq_true_eq, beq_iff_eq] at hc
        split
        · refine ⟨by simp only []; omega, fun k hk => ?_⟩
          simp only [] at hk
          have : k = 0 ∨ k = 1 ∨ k = 2 ∨ k = 3 := by omega
          rcases this with rfl | rfl | rfl | rfl
          · exact h0'
          · omega
          · omega
          · omega
        · exact one
      · exact one
set_option maxRecDepth 100000 in
set_option maxHeartbeats 4000000 in
theorem idx_short (s : ByteArray) (hs : s.size ≤ 8) (w : World) :
    Calls Tryz.prog 68 #[.string s, .string cutB] w fun e w' => e = .returned (.int .i64 (ixW s.data.toList)) ∧ Below w.heap.size w w' := by
  have h8z : decide ((8 : Int) < (s.size : Int)) = false := decide_eq_false (by omega)
  obtain ⟨R, hR⟩ : ∃ R, R = ixW s.data.toList := ⟨_, rfl⟩
  rw [← hR]
  have HR := Lib.hid hR
  have HU := Lib.hid (Tryz.strings_shouldUseASCIISet (s.size : Int) w)
  rw [h8z] at HU
  clear hR
  go_enter Tryz.func68, Tryz.ntmps68
  go_wp2_with fail
  refine HU.out.mono ?_
  rintro e w1 ⟨rfl, rfl⟩
  go_wp2_with fail
  go_loopg [9, 10] s.size (fun g _ _ wx => ∃ (i : Nat) (W : World), i ≤ s.size ∧ s.size ≤ i + g ∧ wx = W ∧ Hid (NoStop s.data.toList i) ∧ Hid (W.heap[w1.heap.size]? = some (.stringIter s i)) ∧ Hid (Below w1.heap.size w1 W))
  case atStart => exact ⟨0, _, by omega, by omega, rfl, fun _ _ h => absurd h (Nat.not_lt_zero _), heap_alloc_new _ _, (Below.refl _ _).alloc (Nat.le_refl _) _⟩
  case round =>
    obtain ⟨i, W, hi, hig, rfl, HN, HI, HB⟩ := hrel
    by_cases hlt : i < s.size
    · obtain ⟨g, rfl⟩ : ∃ g, gk = g + 1 := ⟨gk - 1, by omega⟩
      have hnx := fun ty => Lib.run_next_any_at (P := Tryz.prog) wr w1.heap.size s i ty HI.out hlt
      have hHI := Lib.iterAt_heap wr w1.heap.size s i (i + (Utf8.decode s i).2) HI.out
      have hBI : Below w1.heap.size w1 (wr.iterAt w1.heap.size s (i + (Utf8.decode s i).2)) := below_iterAt HB.out s _
      have hnext : ∀ k, i ≤ k → (∀ j, i ≤ j → j < k → ∀ b, s.data.toList[j]? = some b → stopC b = false) → NoStop s.data.toList k := fun k hk h j b hj hb => by
        rcases Nat.lt_or_ge j i with hlt | hge
        · exact HN.out j b hlt hb
        · exact h j hge hj b hb
      have HX := Lib.hid hnext
      by_cases hlow : (s[i]'hlt).toNat < 128
      · have hd := decode_ascii s i hlt hlow
        have hxg : s.data.toList[i]? = some (s[i]'hlt) := Lib.data_getElem? s i hlt
        rw [hd] at hnx hHI hBI
        generalize s[i]'hlt = x at *
        have HXG := Lib.hid hxg
        have HHI := Lib.hid hHI
        have HBI := Lib.hid hBI
        have HIR : Hid (∀ W, Calls Tryz.prog 100 #[.string cutB, .int .i32 (x.toNat : Int)] W fun e w' => e = .returned (.int .i64 (Lib.indexByte [32, 93] x)) ∧ w' = W) := fun W => by
          have h := Tryz.strings_IndexRune_ascii cutB (x.toNat : Int) W (by omega) (by omega)
          rw [show ((x.toNat : Int)).toNat.toUInt8 = x by simp] at h
          exact h
        have hib := ib_stop x
        clear hd hxg hHI hBI hnext
        cases hst : stopC x
        · rw [hst] at hib
          have hneg : Lib.indexByte [32, 93] x < 0 := by have := of_decide_eq_false hib.symm; omega
          clear hib
          generalize Lib.indexByte [32, 93] x = q at *
          have hq : ¬ 0 ≤ q := by omega
          go_wp2_with fail
          refine (HIR.out _).mono ?_
          rintro e w3 ⟨rfl, rfl⟩
          go_wp2_with fail
          go_roundg g
          case measure => omega
          case rel =>
            refine ⟨i + 1, _, by omega, by omega, rfl, ?_, HHI.out, HBI.out⟩
            exact HX.out (i + 1) (by omega) (fun j h1 h2 b hb => by
              have : j = i := by omega
              subst this
              rw [HXG.out] at hb
              cases hb; exact hst)
        · rw [hst] at hib
          have hneg : 0 ≤ Lib.indexByte [32, 93] x := of_decide_eq_true hib.symm
          clear hib
          generalize Lib.indexByte [32, 93] x = q at *
          go_wp2_with fail
          refine (HIR.out _).mono ?_
          rintro e w3 ⟨rfl, rfl⟩
          go_wp2_with fail
          go_ret
          refine ⟨?_, HBI.out⟩
          rw [HR.out, ix_hit HN.out HXG.out hst]; rfl
      · have hge : 128 ≤ (s[i]'hlt).toNat := by omega
        obtain ⟨hc1, hc2⟩ := decode_high s i hlt hge
        have hc3 := decode_le s i
        obtain ⟨hs1, hs2⟩ := decode_span s i hlt hge
        have HHI := Lib.hid hHI
        have HBI := Lib.hid hBI
        have HS2 := Lib.hid hs2
        clear hHI hBI hnext hs2
        generalize Utf8.decode s i = d at *
        obtain ⟨c, wd⟩ := d
        simp only [] at *
        have HIR : Hid (∀ W, Calls Tryz.prog 100 #[.string cutB, .int .i32 (c : Int)] W fun e w' => e = .returned (.int .i64 (-1)) ∧ Below W.heap.size W w') := fun W => irune_high (c : Int) (by omega) (by omega) W
        go_wp2_with fail
        refine (HIR.out _).mono ?_
        rintro e w3 ⟨rfl, hb3⟩
        have HB3 := Lib.hid (HBI.out.trans (hb3.mono HBI.out.size))
        have HH3 := Lib.hid ((hb3.block _ (lt_of_heap HHI.out)).trans HHI.out)
        clear hb3
        go_wp2_with fail
        go_roundg g
        case measure => omega
        case rel =>
          refine ⟨i + wd, _, by omega, by omega, rfl, ?_, HH3.out, HB3.out⟩
          exact HX.out (i + wd) (by omega) (fun j h1 h2 b hb => by
            have h := HS2.out (j - i) (by omega)
            rw [show i + (j - i) = j by omega] at h
            have hj : j < s.size := by omega
            have hg : s.get! j = b := by
              have h3 := Lib.data_getElem? s j hj
              rw [hb] at h3
              have h4 : s.get! j = s[j]'hj := by
                simp [ByteArray.get!, getElem!_pos, hj]; rfl
              rw [h4]; exact (Option.some.inj h3).symm
            rw [hg] at h
            unfold stopC
            rw [Bool.or_eq_false_iff, beq_eq_false_iff_ne, beq_eq_false_iff_ne]
            exact ⟨fun e => by rw [e] at h; exact absurd h (by decide), fun e => by rw [e] at h; exact absurd h (by decide)⟩)
    · obtain rfl : i = s.size := by omega
      have hnx := fun ty => Lib.run_next_end_at (P := Tryz.prog) wr w1.heap.size s s.size ty HI.out hlt
      go_wp2
      go_ret
      refine ⟨?_, HB.out⟩
      rw [HR.out, ix_none (by rw [← Lib.size_eq]; exact HN.out)]; rfl

theorem idx_any (s : ByteArray) (hs : s.size ≤ 1000000) (w : World) :
    Calls Tryz.prog 68 #[.string s, .string cutB] w fun e w' => e = .returned (.int .i64 (ixW s.data.toList)) ∧ Below w.heap.size w w' := by
  by_cases h : s.size ≤ 8
  · exact idx_short s h w
  · refine (Tryz.strings_IndexAny_long zv140 s cutB w (by decide) (by omega) (by omega) (by decide) (fun j b hj => by
      match j with
      | 0 => cases hj; decide
      | 1 => cases hj; decide
      | j + 2 => cases hj)).mono ?_
    rintro e w' ⟨rfl, rfl⟩
    refine ⟨?_, ((Below.refl _ _).alloc (Nat.le_refl _) _).alloc (by simp) _⟩
    rw [← indexAny_ix]
end Go.Proofs.YtpijpeocdlnhiaaGreatDoor
