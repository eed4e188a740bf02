/- DiskPlans: a planned failure happens at exactly this change. -/
import Derived.Test.YtjhhmljebflanaaDoorDAlive
namespace Go.Proofs.YtjhhmljebflanaaDoor
set_option linter.unusedVariables false
set_option linter.unusedSimpArgs false
open Go.RowKit

def nX : ByteArray := ⟨#[120]⟩
theorem nX_ok : namedB nX = true := by decide
def reps (m : Nat) (b : List UInt8) : List UInt8 := (List.replicate m b).flatten
theorem reps_length (m : Nat) (b : List UInt8) : (reps m b).length = m * b.length := by
  unfold reps
  induction m with
  | zero => simp
  | succ m ih => rw [List.replicate_succ, List.flatten_cons, List.length_append, ih, Nat.add_mul]; omega
theorem reps_succ (m : Nat) (b : List UInt8) : reps (m + 1) b = reps m b ++ b := by
  unfold reps
  rw [List.replicate_succ', List.flatten_append]; simp

set_option maxRecDepth 100000 in
set_option maxHeartbeats 2000000 in
theorem plans_any (k0 : Nat) (hk0 : k0 < 256) (b : List UInt8) (ba : Option Addr) (bc : Nat) (w : World) (hrb : Reads w (.slice ba b.length bc) b.length 1 (byts b)) (hba : ∀ ad, ba = some ad → 0 < b.length → ad.block < w.heap.size) (hbl : b.length ≤ maxLen) :
    Calls Tryd.prog 3 #[.int .u8 k0, .slice ba b.length bc] w fun e w' => e = .returned (.bool true) ∧ Below w.heap.size w w' := by
  have HRB := Lib.hid hrb
  have HBA := Lib.hid hba
  unfold maxLen at hbl
  clear hrb hba
  obtain ⟨k, hk⟩ : ∃ k, k = k0 % 50 := ⟨_, rfl⟩
  have hkl : k < 50 := by omega
  have hkk : ((k0 : Int) % 50) = (k : Int) := by omega
  have HKK := Lib.hid hkk
  clear hk hkk
  go_enter Tryd.func3, Tryd.ntmps3
  go_wp2_with fail
  refine (live_new 100000 w).mono ?_
  rintro e w1 ⟨x, rfl, ⟨bx, rfl⟩, hl⟩
  have HL := Lib.hid (show Live w w1 (.pointer (some ⟨bx, 0, none⟩)) ⟨100000, [], 0, false⟩ from hl)
  clear hl
  by_cases hbig : 100 < b.length
  · go_wp2_with fail
    refine (alive_any _).mono ?_
    rintro e w2 ⟨rfl, hb⟩
    have HB := Lib.hid ((HL.out.below hb).2)
    clear hb
    go_wp2
    go_ret
    exact ⟨rfl, HB.out⟩
  · go_wp2_with fail
    rw [HKK.out]
    have h2 := live_create HL.out nX (by decide)
    rw [create_one nX_ok (by decide)] at h2
    refine h2.mono ?_
    rintro e w2 ⟨rfl, hl⟩
    have HL2 := Lib.hid (show Live w w2 (.pointer (some ⟨bx, 0, none⟩)) ⟨100000, [⟨nX, [], 0⟩], 0, false⟩ from hl)
    clear hl h2 HL
    go_wp2_with fail
    refine (live_arm HL2.out _).mono ?_
    rintro e w3 ⟨rfl, hl⟩
    have hmx : max ((k : Int) + 1) 0 = (k : Int) + 1 := by omega
    simp only [hmx] at hl
    have HL3 := Lib.hid (show Live w w3 (.pointer (some ⟨bx, 0, none⟩)) ⟨100000, [⟨nX, reps 0 b, 0⟩], (k : Int) + 1 - (0 : Nat), false⟩ from by simpa [reps] using hl)
    clear hl HL2 hmx
    go_wp2_with fail
    go_loopw [35] (fun i w' => ∃ m : Nat, m ≤ k ∧ i = .int .i64 m ∧ Hid (Live w w' (.pointer (some ⟨bx, 0, none⟩)) ⟨100000, [⟨nX, reps m b, 0⟩], (k : Int) + 1 - m, false⟩)) (fun i _ => k - (RowKit.intOf i).toNat)
    case atStart => exact ⟨0, by omega, rfl, HL3⟩
    case round =>
      obtain ⟨m, hm, rfl, HLm⟩ := hrel
      have hrl : m * b.length ≤ 50 * 100 := Nat.mul_le_mul (by omega) (by omega)
      have HRW := Lib.hid (HRB.out.later HLm.out.2)
      by_cases hlt : m < k
      · go_wp2_with fail
        have h4 := live_append HLm.out nX b ba bc (by simp only; omega) (by simp only [sum_one, reps_length]; omega) (by omega) HRW.out HBA.out
        rw [append_one nX_ok (by omega) (by rw [reps_length]; omega)] at h4
        refine h4.mono ?_
        rintro e w4 ⟨rfl, hl⟩
        have hpl : max ((k : Int) + 1 - m - 1) 0 = (k : Int) + 1 - (m + 1 : Nat) := by omega
        rw [hpl, ← reps_succ] at hl
        have HL4 := Lib.hid hl
        clear hl h4 hpl
        go_wp2_with fail
        refine (live_down HL4.out).mono ?_
        rintro e w5 ⟨rfl, rfl⟩
        go_wp2
        go_roundw
        case rel => exact ⟨m + 1, by omega, by go_num, HL4⟩
        case measure => simp [RowKit.intOf]; omega
      · obtain rfl : m = k := by omega
        have hpl : ((m : Int) + 1 - m) = 1 := by omega
        rw [hpl] at HLm
        clear hpl
        go_wp2_with fail
        have h4 := live_append HLm.out nX b ba bc (by constructor <;> simp) (by simp only [sum_one, reps_length]; omega) (by omega) HRW.out HBA.out
        rw [append_planned] at h4
        refine h4.mono ?_
        rintro e w4 ⟨rfl, hl⟩
        have HL4 := Lib.hid (show Live w w4 (.pointer (some ⟨bx, 0, none⟩)) ⟨100000, [⟨nX, reps m b, 0⟩], 0, true⟩ from hl)
        clear hl h4 HLm HRW
        go_wp2_with fail
        have h5 := live_sync HL4.out nX (by constructor <;> simp)
        rw [sync_down] at h5
        refine h5.mono ?_
        rintro e w5 ⟨rfl, hl⟩
        have HL5 := Lib.hid (show Live w w5 (.pointer (some ⟨bx, 0, none⟩)) ⟨100000, [⟨nX, reps m b, 0⟩], 0, true⟩ from hl)
        clear hl h5 HL4
        go_wp2_with fail
        have h6 := live_used HL5.out (by simp only [sum_one, reps_length]; omega)
        simp only [sum_one, reps_length] at h6
        refine h6.mono ?_
        rintro e w6 ⟨rfl, hl⟩
        have HL6 := Lib.hid hl
        clear hl h6 HL5
        go_wp2_with fail
        have h7 := live_read HL6.out nX (by simp only [sum_one, reps_length]; omega)
        rw [read_down] at h7
        refine h7.mono ?_
        rintro e w7 ⟨a7, c7, rfl, -, -, hl⟩
        have HL7 := Lib.hid hl
        clear hl h7 HL6
        go_wp2_with fail
        have h8 := live_crash HL7.out none 0 [] (by simp) (fun f hf => by simp at hf; subst hf; show (1 : Nat) ≤ maxLen; unfold maxLen; decide) (Reads.nil _ _) (by simp) (fun ad h => by cases h)
        refine h8.mono ?_
        rintro e w8 ⟨ss, ⟨hs1, hs2⟩, rfl, hl⟩
        rw [crash_one hs1 hs2] at hl
        have HL8 := Lib.hid (show Live w w8 (.pointer (some ⟨bx, 0, none⟩)) ⟨100000, [⟨nX, [], 0⟩], 0, false⟩ from hl)
        clear hl h8 HL7 hs1 hs2
        go_wp2_with fail
        refine (alive_any _).mono ?_
        rintro e w9 ⟨rfl, hb⟩
        have HL9 := Lib.hid (HL8.out.below hb)
        clear hb HL8
        have hw1 : IntKind.i64.wrap ((m : Int) * (b.length : Int)) = (m : Int) * (b.length : Int) := IntWalk.i64_in _ (by
          have : ((m * b.length : Nat) : Int) ≤ 5000 := by omega
          have h0 : (0 : Int) ≤ (m : Int) * (b.length : Int) := by rw [← Int.natCast_mul]; omega
          rw [Int.natCast_mul] at this
          omega)
        go_wp2_with fail
        refine (live_down HL9.out).mono ?_
        rintro e w10 ⟨rfl, rfl⟩
        go_wp2_with fail
        have h11 := live_used HL9.out (by decide)
        refine h11.mono ?_
        rintro e w11 ⟨rfl, hl⟩
        have HL11 := Lib.hid hl
        clear hl h11 HL9
        go_wp2_with fail
        have h12 := live_sync HL11.out nX (by decide)
        rw [sync_one nX_ok (by decide)] at h12
        refine h12.mono ?_
        rintro e w12 ⟨rfl, hl⟩
        have HB := Lib.hid hl.2
        clear hl h12 HL11
        go_wp2
        go_ret
        exact ⟨rfl, HB.out⟩
end Go.Proofs.YtjhhmljebflanaaDoor
