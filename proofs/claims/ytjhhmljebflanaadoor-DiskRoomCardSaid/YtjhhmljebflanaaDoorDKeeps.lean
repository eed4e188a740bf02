/- DiskKeeps: changing bytes that were given or returned changes no file. -/
import Derived.Test.YtjhhmljebflanaaDoorDPlans
import Derived.Test.YtjhhmljebflanaaDoorDEqual
import Derived.Test.YtjhhmljebflanaaDoorDNil
import Derived.Test.YtjhhmljebflanaaDoorDRemove
namespace Go.Proofs.YtjhhmljebflanaaDoor
set_option linter.unusedVariables false
set_option linter.unusedSimpArgs false
open Go.RowKit

/-- A row of bytes of whatever values, in a block of T. -/
def Bumps (w : World) (a : Option Addr) (n c : Nat) (T : Nat → Prop) : Prop :=
  n = 0 ∨ ∃ g off cur, a = some ⟨g, off, none⟩ ∧ T g ∧ n ≤ c ∧ w.heap[g]? = some (.cells cur 5 (0, 0)) ∧ ∀ j, j < n → ∃ z : Int, cur[off + j]? = some (.int .u8 z)

theorem Row.bumps {w : World} {b : List UInt8} {a : Option Addr} {c : Nat} {T : Nat → Prop} (h : Row w 5 1 (.slice a b.length c) b.length (byts b) T) : Bumps w a b.length c T := by
  rcases Nat.eq_zero_or_pos b.length with h0 | h0
  · exact .inl h0
  · obtain ⟨g, off, cap, cur, hv, hS, hg, h1, h2, h3, h4, h5⟩ := h.open h0
    cases hv
    refine .inr ⟨g, off, cur, rfl, hS, h1, hg, fun j hj => ⟨(b[j]).toNat, ?_⟩⟩
    have h6 : (byts b)[j]? = some (u8v b[j]) := by rw [byts, List.getElem?_map, List.getElem?_eq_getElem hj]; rfl
    rw [← h4, List.getElem?_take_of_lt (by omega), List.getElem?_drop, Array.getElem?_toList] at h6
    exact h6

theorem Bumps.put {w : World} {g off n c : Nat} {T : Nat → Prop} {cur : Array Value} (hT : T g) (hn : n ≤ c) (h : w.heap[g]? = some (.cells cur 5 (0, 0))) (hz : ∀ j, j < n → ∃ z : Int, cur[off + j]? = some (.int .u8 z)) (i : Nat) (u : Int) :
    Bumps (w.setCell ⟨g, i, none⟩ (.int .u8 u)) (some ⟨g, off, none⟩) n c T := by
  refine .inr ⟨g, off, _, rfl, hT, hn, heap_store h _ _, fun j hj => ?_⟩
  rw [Array.getElem?_setIfInBounds]
  obtain ⟨z', hz'⟩ := hz j hj
  split
  · rename_i he
    rw [← he] at hz'
    have := (Array.getElem?_eq_some_iff.1 hz').1
    rw [if_pos this]; exact ⟨_, rfl⟩
  · exact ⟨z', hz'⟩

theorem Row.tight {w : World} {e : TypeId} {size : Nat} {v : Value} {n : Nat} {xs : List Value} {S : Nat → Prop} (h : Row w e size v n xs S) : Row w e size v n xs (fun k => S k ∧ k < w.heap.size) := by
  refine ⟨h.1, ?_⟩
  rcases h.2 with h2 | ⟨g, off, cap, cur, hv, hg, hh, r⟩
  · exact .inl h2
  · exact .inr ⟨g, off, cap, cur, hv, ⟨hg, lt_of_heap hh⟩, hh, r⟩

theorem Row.at_block {w : World} {e : TypeId} {size : Nat} {ad : Addr} {n c : Nat} {xs : List Value} {S : Nat → Prop} (h : Row w e size (.slice (some ad) n c) n xs S) : S ad.block := by
  rcases h.2 with ⟨h2, -⟩ | ⟨g, off, cap, cur, hv, hg, -⟩
  · cases h2
  · cases hv; exact hg

set_option maxRecDepth 100000 in
set_option maxHeartbeats 2000000 in
theorem keeps_any (b : List UInt8) (ba : Option Addr) (bc : Nat) (w : World) (hrb : Reads w (.slice ba b.length bc) b.length 1 (byts b))
    (hba : ∀ ad, ba = some ad → 0 < b.length → ad.block < w.heap.size) (hbl : b.length ≤ maxLen) :
    Calls Tryd.prog 6 #[.slice ba b.length bc] w fun e w' => e = .returned (.bool true) ∧ Below w.heap.size w w' := by
  have HRB := Lib.hid hrb
  unfold maxLen at hbl
  clear hrb hba
  go_enter Tryd.func6, Tryd.ntmps6
  go_wp2_with fail
  refine (new_any 10000 w).mono ?_
  rintro e w1 ⟨x, rfl, hr1, hb1⟩
  obtain ⟨bx, rfl⟩ : ∃ bx, x = .pointer (some ⟨bx, 0, none⟩) := by
    obtain ⟨bx, bm, col, pv, h, -⟩ := hr1
    exact ⟨bx, h⟩
  have HB1 := Lib.hid hb1
  by_cases hbig : 1000 < b.length
  · clear hr1 hb1
    go_wp2_with fail
    refine (alive_any _).mono ?_
    rintro e w2 ⟨rfl, hb⟩
    have HB := Lib.hid (HB1.out.trans (hb.mono HB1.out.size))
    clear hb
    go_wp2
    go_ret
    exact ⟨rfl, HB.out⟩
  · have HD1 : Hid (DRep w1 (.pointer (some ⟨bx, 0, none⟩)) ⟨10000, [], 0, false⟩ (fun k => w.heap.size ≤ k ∧ k < w1.heap.size)) := hr1.tight
    clear hr1 hb1
    go_wp2_with fail
    refine (bclone_any ba b.length bc (byts b) w1 (HRB.out.later HB1.out) (byts_one b) (by omega)).mono ?_
    rintro e w2 ⟨v, rfl, hr2, hb2⟩
    obtain ⟨-, oa, oc, hv, -⟩ := hr2.reads
    subst hv
    have HO2 := Lib.hid hr2.tight
    have HB2 := Lib.hid (HB1.out.trans (hb2.mono HB1.out.size))
    have HS2 := Lib.hid hb2.size
    have HD2 := Lib.hid (HD1.out.frame (fun k _ hk => hb2.block k hk))
    clear hr2 hb2 HD1
    go_wp2_with fail
    have h3 := create_any (.pointer (some ⟨bx, 0, none⟩)) nX _ _ w2 HD2.out (by decide)
    rw [create_one nX_ok (by decide)] at h3
    refine h3.mono ?_
    rintro e w3 ⟨rfl, hr3, hc3⟩
    have hs2 := HS2.out
    have HB3 := Lib.hid (HB2.out.trans (hc3.toBelow (B := w.heap.size) HB2.out.size (fun n hn h => by omega)))
    have HD3 : Hid (DRep w3 (.pointer (some ⟨bx, 0, none⟩)) ⟨10000, [⟨nX, [], 0⟩], 0, false⟩ (fun k => w.heap.size ≤ k ∧ ¬ (w1.heap.size ≤ k ∧ k < w2.heap.size) ∧ k < w3.heap.size)) :=
      hr3.tight.mono (fun k hk => by have := HB1.out.size; have := hk.2; rcases hk.1 with h | h <;> exact ⟨by omega, by omega, by omega⟩)
    have HO3 := Lib.hid (HO2.out.frame (fun k hk hl => hc3.block k hl (fun e => by omega)))
    have HS3 := Lib.hid hc3.size
    clear h3 hr3 hc3 HD2 HO2
    go_wp2_with fail
    have h4 := append_any (.pointer (some ⟨bx, 0, none⟩)) nX b oa oc _ _ w3 HD3.out (by decide) (by simp [sum_one]) (by omega) HO3.out.reads (fun ad had _ hk => by subst had; have := HO3.out.at_block; exact hk.2.1 this)
    rw [append_one nX_ok (by decide) (by simp only [List.length_nil]; omega)] at h4
    refine h4.mono ?_
    rintro e w4 ⟨rfl, hr4, hc4⟩
    have HB4 := Lib.hid (HB3.out.trans (hc4.toBelow (B := w.heap.size) HB3.out.size (fun n hn h => by omega)))
    have HS4 := Lib.hid hc4.size
    have hs3 := HS3.out
    have HD4 : Hid (DRep w4 (.pointer (some ⟨bx, 0, none⟩)) ⟨10000, [⟨nX, b, 0⟩], 0, false⟩ (fun k => w.heap.size ≤ k ∧ ¬ (w1.heap.size ≤ k ∧ k < w2.heap.size) ∧ k < w4.heap.size)) :=
      hr4.tight.mono (fun k hk => by have := HB3.out.size; have := hk.2; rcases hk.1 with h | h <;> exact ⟨by omega, by omega, by omega⟩)
    have HO4 := Lib.hid (HO3.out.frame (fun k hk hl => hc4.block k hl (fun e => e.2.1 hk))).bumps
    clear h4 hr4 hc4 HD3 HO3
    go_wp2_with fail
    go_loopw [37] (fun i w' => ∃ m : Nat, m ≤ b.length ∧ i = .int .i64 m ∧ Hid (Chg (fun k => w1.heap.size ≤ k ∧ k < w2.heap.size) w4 w') ∧ Hid (Bumps w' oa b.length oc (fun k => w1.heap.size ≤ k ∧ k < w2.heap.size))) (fun i _ => b.length - (RowKit.intOf i).toNat)
    case atStart => exact ⟨0, Nat.zero_le _, rfl, Chg.refl _ _, HO4⟩
    case round =>
      obtain ⟨m, hm, rfl, HC, HU⟩ := hrel
      by_cases hlt : m < b.length
      · obtain ⟨g, off, cur, rfl, hT, hnc, hg, hz⟩ := HU.out.resolve_left (by omega)
        obtain ⟨z, hzm⟩ := hz m hlt
        have hc1 : wr.cell? ⟨g, off + m, none⟩ = some (.int .u8 z) := cellAt hg _ hzm
        have hf1 := freeAt hg (off + m)
        have HG := Lib.hid hg
        have HZ := Lib.hid hz
        have HT := Lib.hid hT
        clear hg hz hzm hT
        go_wp2
        generalize hzz : IntKind.u8.wrap (z + 1) = z2 at *
        go_roundw
        case rel => exact ⟨m + 1, by omega, by go_num, HC.out.setCell (.inl HT.out) _, Bumps.put HT.out hnc HG.out HZ.out _ _⟩
        case measure => simp [RowKit.intOf]; omega
      · obtain rfl : m = b.length := by omega
        have HD5 := Lib.hid (HD4.out.frame (fun k hk hl => HC.out.block k hl hk.2.1))
        have HB5 := Lib.hid (HB4.out.trans (HC.out.toBelow (B := w.heap.size) HB4.out.size (fun n hn h => by have := HB1.out.size; omega)))
        have HW45 := Lib.hid HC.out.size
        have HBW5 := Lib.hid HB5.out.size
        clear HD4 HB4 HC HU HO4
        obtain ⟨w5, rfl⟩ : ∃ w5, w5 = wr := ⟨_, rfl⟩
        go_wp2_with fail
        have h6 := read_any (.pointer (some ⟨bx, 0, none⟩)) nX _ _ w5 HD5.out (by simp only [sum_one]; omega)
        rw [read_one] at h6
        refine h6.mono ?_
        rintro e w6 ⟨v, rfl, hr6, hb6⟩
        obtain ⟨-, a6, c6, hv, -⟩ := hr6.reads
        simp only at hv
        subst hv
        have HD6 := Lib.hid (HD5.out.frame (fun k _ hk => hb6.block k hk))
        have HB6 := Lib.hid (HB5.out.trans (hb6.mono HB5.out.size))
        have HR6 := Lib.hid hr6.tight
        have HS6 := Lib.hid hb6.size
        clear h6 hr6 hb6 HD5 HB5
        go_wp2_with fail
        have h7 := bequal_any a6 ba c6 bc b b w6 HR6.out.reads (HRB.out.later HB6.out) (by omega) (by omega)
        have hde : decide (b = b) = true := decide_eq_true (Eq.refl b)
        rw [hde] at h7
        refine h7.mono ?_
        rintro e w7 ⟨rfl, hb7⟩
        have HD7 := Lib.hid (HD6.out.frame (fun k _ hk => hb7.block k hk))
        have HB7 := Lib.hid (HB6.out.trans (hb7.mono HB6.out.size))
        have HR7 := Lib.hid (HR6.out.frame (fun k _ hk => hb7.block k hk)).bumps
        clear h7 hde hb7 HD6 HB6 HR6
        go_wp2_with fail
        go_loopw [57] (fun i w' => ∃ m : Nat, m ≤ b.length ∧ i = .int .i64 m ∧ Hid (Chg (fun k => w5.heap.size ≤ k ∧ k < w6.heap.size) w7 w') ∧ Hid (Bumps w' a6 b.length c6 (fun k => w5.heap.size ≤ k ∧ k < w6.heap.size))) (fun i _ => b.length - (RowKit.intOf i).toNat)
        case atStart => exact ⟨0, Nat.zero_le _, rfl, Chg.refl _ _, HR7⟩
        case round =>
          obtain ⟨m, hm, rfl, HC, HU⟩ := hrel
          by_cases hlt : m < b.length
          · obtain ⟨g, off, cur, rfl, hT, hnc, hg, hz⟩ := HU.out.resolve_left (by omega)
            obtain ⟨z, hzm⟩ := hz m hlt
            have hc1 : wr.cell? ⟨g, off + m, none⟩ = some (.int .u8 z) := cellAt hg _ hzm
            have hf1 := freeAt hg (off + m)
            have HG := Lib.hid hg
            have HZ := Lib.hid hz
            have HT := Lib.hid hT
            clear hg hz hzm hT
            go_wp2
            generalize hzz : IntKind.u8.wrap (z + 1) = z2 at *
            go_roundw
            case rel => exact ⟨m + 1, by omega, by go_num, HC.out.setCell (.inl HT.out) _, Bumps.put HT.out hnc HG.out HZ.out _ _⟩
            case measure => simp [RowKit.intOf]; omega
          · obtain rfl : m = b.length := by omega
            have hs4 := HS4.out
            have hs6 := HS6.out
            have HD8 := Lib.hid (HD7.out.frame (fun k hk hl => HC.out.block k hl (fun e => by have := HW45.out; omega)))
            have HB8 := Lib.hid (HB7.out.trans (HC.out.toBelow (B := w.heap.size) HB7.out.size (fun n hn h => by have := HBW5.out; omega)))
            clear HD7 HB7 HC HU HR7
            obtain ⟨w8, rfl⟩ : ∃ w8, w8 = wr := ⟨_, rfl⟩
            go_wp2_with fail
            have h9 := read_any (.pointer (some ⟨bx, 0, none⟩)) nX _ _ w8 HD8.out (by simp only [sum_one]; omega)
            rw [read_one] at h9
            refine h9.mono ?_
            rintro e w9 ⟨v, rfl, hr9, hb9⟩
            obtain ⟨-, a9, c9, hv, -⟩ := hr9.reads
            simp only at hv
            subst hv
            have HB9 := Lib.hid (HB8.out.trans (hb9.mono HB8.out.size))
            have HR9 := Lib.hid hr9.reads
            clear h9 hr9 hb9 HD8 HB8
            go_wp2_with fail
            refine (arm_nil _ _).mono ?_
            rintro e w10 ⟨rfl, rfl⟩
            go_wp2_with fail
            have HBA : Hid (Below w10.heap.size w10 (w10.alloc (.cells #[.int .i64 1] 3))) := (Below.refl _ _).alloc (Nat.le_refl _) _
            generalize w10.alloc (.cells #[.int .i64 1] 3) = w11 at *
            have HB11 := Lib.hid (HB9.out.trans (HBA.out.mono HB9.out.size))
            have HR11 := Lib.hid (HR9.out.later HBA.out)
            clear HBA HR9 HB9
            refine (crash_nil _ _ _ _).mono ?_
            rintro e w12 ⟨rfl, rfl⟩
            go_wp2_with fail
            refine (read_nil _ _).mono ?_
            rintro e w12 ⟨rfl, rfl⟩
            go_wp2_with fail
            refine (alive_any _).mono ?_
            rintro e w13 ⟨rfl, hb⟩
            have HB13 := Lib.hid (HB11.out.trans (hb.mono HB11.out.size))
            have HR13 := Lib.hid (HR11.out.later hb)
            clear hb HB11 HR11
            go_wp2_with fail
            have h14 := bequal_any a9 ba c9 bc b b w13 HR13.out (HRB.out.later HB13.out) (by omega) (by omega)
            have hde : decide (b = b) = true := decide_eq_true (Eq.refl b)
            rw [hde] at h14
            refine h14.mono ?_
            rintro e w14 ⟨rfl, hb⟩
            have HB14 := Lib.hid (HB13.out.trans (hb.mono HB13.out.size))
            clear hb HB13 HR13 h14 hde
            go_wp2_with fail
            refine (create_nil nX _).mono ?_
            rintro e w15 ⟨rfl, hb⟩
            have HB15 := Lib.hid (HB14.out.trans (hb.mono HB14.out.size))
            clear hb HB14
            go_wp2_with fail
            refine (append_nil nX ba b.length bc _).mono ?_
            rintro e w16 ⟨rfl, hb⟩
            have HB16 := Lib.hid (HB15.out.trans (hb.mono HB15.out.size))
            clear hb HB15
            go_wp2_with fail
            refine (sync_nil nX _).mono ?_
            rintro e w17 ⟨rfl, hb⟩
            have HB17 := Lib.hid (HB16.out.trans (hb.mono HB16.out.size))
            clear hb HB16
            go_wp2_with fail
            refine (rename_nil nX _ _).mono ?_
            rintro e w18 ⟨rfl, hb⟩
            have HB18 := Lib.hid (HB17.out.trans (hb.mono HB17.out.size))
            clear hb HB17
            go_wp2_with fail
            refine (remove_nil nX _).mono ?_
            rintro e w19 ⟨rfl, hb⟩
            have HB19 := Lib.hid (HB18.out.trans (hb.mono HB18.out.size))
            clear hb HB18
            go_wp2_with fail
            refine (list_nil _).mono ?_
            rintro e wl ⟨rfl, rfl⟩
            go_wp2_with fail
            refine (used_nil _).mono ?_
            rintro e wl ⟨rfl, rfl⟩
            go_wp2_with fail
            refine (down_nil _).mono ?_
            rintro e wl ⟨rfl, rfl⟩
            go_wp2
            go_ret
            exact ⟨rfl, HB19.out⟩
end Go.Proofs.YtjhhmljebflanaaDoor
