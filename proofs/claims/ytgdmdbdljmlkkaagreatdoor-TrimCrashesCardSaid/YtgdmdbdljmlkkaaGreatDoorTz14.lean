/- Sum2 -/
import Derived.Test.YtgdmdbdljmlkkaaGreatDoorTz13
import Derived.Laws.BitsLemmas
import Derived.Laws.BitsAllLaws
import Derived.Deep.MidRow
import Derived.Deep.RegionLaw
import Derived.Deep.Cut
import Derived.Outline
import Derived.Deep.RegionHeld3
import Derived.StillTailTactics
set_option maxRecDepth 100000
set_option linter.unusedVariables false
set_option linter.unusedSimpArgs false
namespace Go.Proofs.YtgdmdbdljmlkkaaGreatDoor
abbrev W32 := BitVec 32
def polyB : W32 := 0x82F63B78#32
def sh1 (x : W32) : W32 := (x >>> 1) ^^^ (if x.getLsbD 0 then polyB else 0#32)
def shN : Nat → W32 → W32
 | 0, x => x
 | n + 1, x => shN n (sh1 x)
def sh8 (x : W32) : W32 := shN 8 x
theorem shN_succ (n : Nat) (x : W32) : shN (n + 1) x = sh1 (shN n x) := by
 induction n generalizing x with
 | zero => rfl
 | succ n ih => rw [shN, ih]; rfl
theorem sh1_xor (x y : W32) : sh1 (x ^^^ y) = sh1 x ^^^ sh1 y := by
 have hp : polyB ^^^ polyB = 0#32 := by decide
 have e : ∀ a b p : W32, (a ^^^ b) ^^^ p = (a ^^^ p) ^^^ b := fun a b p => by rw [BitVec.xor_assoc, BitVec.xor_comm b p, ← BitVec.xor_assoc]
 unfold sh1
 rw [BitVec.ushiftRight_xor_distrib, BitVec.getLsbD_xor]
 cases x.getLsbD 0 <;> cases y.getLsbD 0
 · simp
 · simp [BitVec.xor_assoc]
 · simp [e]
 · simp only [bne_self_eq_false, Bool.false_eq_true, if_false, if_true, BitVec.xor_zero]
   rw [← BitVec.xor_assoc, ← e (x >>> 1) (y >>> 1) polyB, BitVec.xor_assoc _ polyB polyB, hp, BitVec.xor_zero]
theorem shN_xor (n : Nat) (x y : W32) : shN n (x ^^^ y) = shN n x ^^^ shN n y := by
 induction n generalizing x y with
 | zero => rfl
 | succ n ih => rw [shN, shN, shN, sh1_xor, ih]
theorem sh1_even (x : W32) (h : x.getLsbD 31 = false) : sh1 (x <<< 1) = x := by
 unfold sh1
 have h0 : (x <<< 1).getLsbD 0 = false := by simp
 rw [h0]
 simp only [Bool.false_eq_true, if_false, BitVec.xor_zero]
 apply BitVec.eq_of_getLsbD_eq
 intro i hi
 rw [BitVec.getLsbD_ushiftRight, BitVec.getLsbD_shiftLeft]
 by_cases h31 : i = 31
 · subst h31
   have h2 : x.getLsbD 31 = false := h
   rw [show 1 + 31 = 32 from rfl, h2]
   simp
 · have : 1 + i < 32 := by omega
   simp [this]
theorem shN_even (x : W32) : ∀ n, n ≤ 8 → shN n ((x >>> 8) <<< 8) = (x >>> 8) <<< (8 - n)
 | 0, _ => rfl
 | n + 1, hn => by
   rw [shN_succ, shN_even x n (by omega), show 8 - n = (8 - (n + 1)) + 1 by omega, BitVec.shiftLeft_add]
   apply sh1_even
   rw [BitVec.getLsbD_shiftLeft, BitVec.getLsbD_ushiftRight]
   have : x.getLsbD (8 + (31 - (8 - (n + 1)))) = false := BitVec.getLsbD_of_ge _ _ (by omega)
   rw [this]; simp
theorem split8 (x : W32) : x = ((x >>> 8) <<< 8) ^^^ (x &&& 255#32) := by
 apply BitVec.eq_of_getLsbD_eq
 intro i hi
 rw [BitVec.getLsbD_xor, BitVec.getLsbD_and, BitVec.getLsbD_shiftLeft, BitVec.getLsbD_ushiftRight]
 have hm : (255#32).getLsbD i = decide (i < 8) := by
   have h0 : ∀ j : Fin 32, (255#32).getLsbD j.val = decide (j.val < 8) := by decide +kernel
   exact h0 ⟨i, hi⟩
 rw [hm]
 by_cases h8 : i < 8
 · simp [h8]
 · have : 8 + (i - 8) = i := by omega
   simp [h8, hi, this]
theorem sh8_table (x : W32) : sh8 x = (x >>> 8) ^^^ sh8 (x &&& 255#32) := by
 have h := shN_xor 8 ((x >>> 8) <<< 8) (x &&& 255#32)
 rw [← split8 x, shN_even x 8 (by omega)] at h
 simpa [sh8] using h
def feedB (r : W32) (c : UInt8) : W32 := sh8 (r ^^^ BitVec.ofNat 32 c.toNat)
theorem feed_table (r : W32) (c : UInt8) : feedB r c = (r >>> 8) ^^^ sh8 ((r ^^^ BitVec.ofNat 32 c.toNat) &&& 255#32) := by
 unfold feedB
 rw [sh8_table, BitVec.ushiftRight_xor_distrib]
 have : (BitVec.ofNat 32 c.toNat) >>> 8 = 0#32 := by
   apply BitVec.eq_of_toNat_eq
   have hc := c.toNat_lt
   simp [BitVec.toNat_ushiftRight, Nat.shiftRight_eq_div_pow]
   omega
 rw [this, BitVec.xor_zero]
def crcR (r : W32) (l : List UInt8) : W32 := l.foldl feedB r
theorem crcR_snoc (r : W32) (l : List UInt8) (c : UInt8) : crcR r (l ++ [c]) = feedB (crcR r l) c := by unfold crcR; rw [List.foldl_append]; rfl
def crcB (l : List UInt8) : W32 := ~~~ crcR (~~~ 0#32) l
def le4 (x : W32) : List UInt8 := [UInt8.ofNat x.toNat, UInt8.ofNat (x.toNat / 256), UInt8.ofNat (x.toNat / 65536), UInt8.ofNat (x.toNat / 16777216)]
def sealB (b : List UInt8) : List UInt8 := b ++ le4 (crcB b)
def frameB (b : List UInt8) : List UInt8 := sealB (le4 (BitVec.ofNat 32 b.length) ++ b)
theorem le4_length (x : W32) : (le4 x).length = 4 := rfl
theorem sealB_length (b : List UInt8) : (sealB b).length = b.length + 4 := by simp [sealB, le4_length]
theorem frameB_length (b : List UInt8) : (frameB b).length = b.length + 8 := by simp [frameB, sealB_length, le4_length]; omega
def num4 (b : List UInt8) : Nat := (b.getD 0 0).toNat + 256 * (b.getD 1 0).toNat + 65536 * (b.getD 2 0).toNat + 16777216 * (b.getD 3 0).toNat
theorem num4_le4 (n : Nat) (h : n < 4294967296) (l : List UInt8) : num4 (le4 (BitVec.ofNat 32 n) ++ l) = n := by
 have e : (BitVec.ofNat 32 n).toNat = n := by rw [BitVec.toNat_ofNat]; exact Nat.mod_eq_of_lt h
 unfold num4 le4
 rw [e]
 simp only [List.cons_append, List.nil_append, List.getD_cons_zero, List.getD_cons_succ]
 have o : ∀ m : Nat, (UInt8.ofNat m).toNat = m % 256 := fun m => by simp
 rw [o, o, o, o]
 omega
def openB (b : List UInt8) : Option (List UInt8) := if 4 ≤ b.length ∧ sealB (b.take (b.length - 4)) = b then some (b.take (b.length - 4)) else none
theorem openB_seal (b : List UInt8) : openB (sealB b) = some b := by
 have h1 := sealB_length b
 have h2 : (sealB b).take ((sealB b).length - 4) = b := by rw [h1, Nat.add_sub_cancel]; unfold sealB; simp
 unfold openB
 rw [h2, if_pos ⟨by omega, rfl⟩]
def nextB (b : List UInt8) : Option (List UInt8 × Nat) :=
 if b.length < 8 then none
 else if 1048576 < num4 b ∨ b.length < num4 b + 8 then none
 else match openB (b.take (num4 b + 8)) with
   | none => none
   | some x => some (x.drop 4, num4 b + 8)
theorem frameB_eq (r : List UInt8) : frameB r = le4 (BitVec.ofNat 32 r.length) ++ (r ++ le4 (crcB (le4 (BitVec.ofNat 32 r.length) ++ r))) := by
 unfold frameB sealB; rw [List.append_assoc]
theorem nextB_frame (r l : List UInt8) (h : r.length ≤ 1048576) : nextB (frameB r ++ l) = some (r, r.length + 8) := by
 have h1 := frameB_length r
 have hn : num4 (frameB r ++ l) = r.length := by rw [frameB_eq, List.append_assoc, num4_le4 _ (by omega)]
 have ht : (frameB r ++ l).take (r.length + 8) = frameB r := by rw [← h1]; simp
 unfold nextB
 rw [hn, ht]
 have hl : (frameB r ++ l).length = r.length + 8 + l.length := by rw [List.length_append, h1]
 rw [if_neg (by omega), if_neg (by omega)]
 have ho : openB (frameB r) = some (le4 (BitVec.ofNat 32 r.length) ++ r) := openB_seal _
 rw [ho]
 simp [le4]
theorem nextB_pos {b x : List UInt8} {n : Nat} (h : nextB b = some (x, n)) : 8 ≤ n ∧ n ≤ b.length ∧ n ≤ 1048584 ∧ x.length + 8 = n := by
 unfold nextB at h
 split at h
 · cases h
 · split at h
   · cases h
   · split at h
     · cases h
     · rename_i x0 ho
       injection h with h
       obtain ⟨rfl, rfl⟩ := Prod.mk.inj h
       unfold openB at ho
       split at ho
       · rename_i h4
         injection ho with ho
         subst ho
         simp only [List.length_drop, List.length_take]
         omega
       · cases ho
theorem nextB_nil : nextB [] = none := rfl
def splitN : Nat → List UInt8 → List (List UInt8) × Nat
 | 0, _ => ([], 0)
 | f + 1, b => match nextB b with
   | none => ([], 0)
   | some (x, n) => (x :: (splitN f (b.drop n)).1, n + (splitN f (b.drop n)).2)
theorem splitN_more (f g : Nat) (b : List UInt8) (hf : b.length ≤ f) (hg : b.length ≤ g) : splitN f b = splitN g b := by
 induction f generalizing g b with
 | zero =>
   obtain rfl : b = [] := List.eq_nil_of_length_eq_zero (by omega)
   cases g with
   | zero => rfl
   | succ g => rw [splitN, splitN, nextB_nil]
 | succ f ih =>
   cases g with
   | zero =>
     obtain rfl : b = [] := List.eq_nil_of_length_eq_zero (by omega)
     rw [splitN, splitN, nextB_nil]
   | succ g =>
     rw [splitN, splitN]
     cases hn : nextB b with
     | none => rfl
     | some p =>
       obtain ⟨x, n⟩ := p
       have h8 := nextB_pos hn
       simp only
       rw [ih g (b.drop n) (by rw [List.length_drop]; omega) (by rw [List.length_drop]; omega)]
def splitB (b : List UInt8) : List (List UInt8) × Nat := splitN b.length b
theorem splitB_none {b : List UInt8} (h : nextB b = none) : splitB b = ([], 0) := by
 unfold splitB
 cases hb : b.length with
 | zero => rfl
 | succ f => rw [splitN, h]
theorem splitB_some {b x : List UInt8} {n : Nat} (h : nextB b = some (x, n)) : splitB b = (x :: (splitB (b.drop n)).1, n + (splitB (b.drop n)).2) := by
 have h8 := nextB_pos h
 unfold splitB
 obtain ⟨f, hf⟩ : ∃ f, b.length = f + 1 := ⟨b.length - 1, by omega⟩
 rw [hf, splitN, h]
 simp only
 rw [splitN_more f (b.drop n).length (b.drop n) (by rw [List.length_drop]; omega) (Nat.le_refl _)]
def framesB (l : List (List UInt8)) : List UInt8 := (l.map frameB).flatten
theorem framesB_append (a b : List (List UInt8)) : framesB (a ++ b) = framesB a ++ framesB b := by simp [framesB]
theorem splitB_frames (l : List (List UInt8)) (p : List UInt8) (hl : ∀ r ∈ l, r.length ≤ 1048576) (hp : nextB p = none) : splitB (framesB l ++ p) = (l, (framesB l).length) := by
 induction l with
 | nil => exact splitB_none hp
 | cons r l ih =>
   have e : framesB (r :: l) ++ p = frameB r ++ (framesB l ++ p) := by simp [framesB]
   rw [e, splitB_some (nextB_frame r _ (hl r (by simp)))]
   have hd : (frameB r ++ (framesB l ++ p)).drop (r.length + 8) = framesB l ++ p := by rw [← frameB_length r]; simp
   rw [hd, ih (fun x hx => hl x (by simp [hx]))]
   have h2 : framesB (r :: l) = frameB r ++ framesB l := by simp [framesB]
   rw [h2, List.length_append, frameB_length]
theorem splitB_le (b : List UInt8) : (splitB b).2 ≤ b.length := by
 unfold splitB
 suffices h : ∀ f (b : List UInt8), (splitN f b).2 ≤ b.length from h _ _
 intro f
 induction f with
 | zero => intro b; exact Nat.zero_le _
 | succ f ih =>
   intro b
   rw [splitN]
   cases hn : nextB b with
   | none => exact Nat.zero_le _
   | some p =>
     obtain ⟨x, n⟩ := p
     have h8 := nextB_pos hn
     have := ih (b.drop n)
     rw [List.length_drop] at this
     simp only
     omega
theorem w32_lt (x : W32) : x.toNat < 4294967296 := x.isLt
theorem w32_bd (x : W32) : (0 : Int) ≤ (x.toNat : Int) ∧ (x.toNat : Int) < 4294967296 := by have := x.isLt; omega
theorem xor32 (x y : W32) : bits .xor .u32 (x.toNat : Int) (y.toNat : Int) = ((x ^^^ y).toNat : Int) := by
 rw [u32_xor_nat _ _ (w32_lt x) (w32_lt y), BitVec.toNat_xor]
theorem and32 (x y : W32) : bits .and .u32 (x.toNat : Int) (y.toNat : Int) = ((x &&& y).toNat : Int) := by
 rw [u32_and_nat _ _ (w32_lt x) (w32_lt y), BitVec.toNat_and]
theorem not32 (x : W32) : bits .xor .u32 IntKind.u32.max (x.toNat : Int) = ((~~~x).toNat : Int) := by
 have h := xor32 (BitVec.allOnes 32) x
 rw [show (((BitVec.allOnes 32).toNat : Nat) : Int) = IntKind.u32.max from rfl] at h
 rw [h, BitVec.allOnes_xor]
theorem half32 (x : W32) : (x.toNat : Int) / (2 : Int) = ((x >>> 1).toNat : Int) := by
 rw [BitVec.toNat_ushiftRight, Nat.shiftRight_eq_div_pow]; rfl
theorem byte32 (x : W32) : (x.toNat : Int) / (256 : Int) = ((x >>> 8).toNat : Int) := by
 rw [BitVec.toNat_ushiftRight, Nat.shiftRight_eq_div_pow]; rfl
theorem one_and (x : W32) : x &&& 1#32 = if x.getLsbD 0 then 1#32 else 0#32 := by
 have h0 : ∀ j : Fin 32, (1#32).getLsbD j.val = decide (j.val = 0) := by decide +kernel
 apply BitVec.eq_of_getLsbD_eq
 intro i hi
 rw [BitVec.getLsbD_and, h0 ⟨i, hi⟩]
 by_cases h : i = 0
 · subst h
   cases x.getLsbD 0 <;> simp
 · cases x.getLsbD 0
   · simp [h]
   · simp only [h, decide_false, Bool.and_false, if_true]
     rw [h0 ⟨i, hi⟩]; simp [h]
theorem odd32 (x : W32) : bits .and .u32 (x.toNat : Int) 1 = if x.getLsbD 0 then 1 else 0 := by
 have h := and32 x 1#32
 rw [show (((1#32).toNat : Nat) : Int) = 1 from rfl, one_and] at h
 rw [h]
 cases x.getLsbD 0 <;> rfl
theorem polyB_toNat : (polyB.toNat : Int) = 2197175160 := rfl
theorem sh1_prog (x : W32) : bits .xor .u32 ((x.toNat : Int) / 2) (bits .and .u32 2197175160 (IntKind.u32.wrap (-(bits .and .u32 (x.toNat : Int) 1)))) = ((sh1 x).toNat : Int) := by
 rw [odd32, half32]
 unfold sh1
 cases x.getLsbD 0
 · have h := xor32 (x >>> 1) 0#32
   have h2 := and32 polyB 0#32
   rw [polyB_toNat] at h2
   simp only [Bool.false_eq_true, if_false]
   rw [show IntKind.u32.wrap (-0) = (((0#32).toNat : Nat) : Int) from by decide, h2, show (polyB &&& 0#32) = 0#32 from by decide, h]
 · have h := xor32 (x >>> 1) polyB
   have h2 := and32 polyB (BitVec.allOnes 32)
   rw [polyB_toNat] at h2
   simp only [if_true]
   rw [show IntKind.u32.wrap (-1) = (((BitVec.allOnes 32).toNat : Nat) : Int) from by decide, h2, show (polyB &&& BitVec.allOnes 32) = polyB from by decide, h]
theorem sh1_odd (x : W32) (h : x.getLsbD 0 = true) : bits .xor .u32 ((x.toNat : Int) / 2) 2197175160 = ((sh1 x).toNat : Int) := by
 have h1 := xor32 (x >>> 1) polyB
 rw [polyB_toNat] at h1
 rw [half32, h1]
 unfold sh1
 rw [if_pos h]
theorem sh1_even' (x : W32) (h : x.getLsbD 0 = false) : (x.toNat : Int) / 2 = ((sh1 x).toNat : Int) := by
 rw [half32]
 unfold sh1
 rw [h, if_neg (by decide), BitVec.xor_zero]
theorem u8_32 (c : UInt8) : (c.toNat : Int) = (((BitVec.ofNat 32 c.toNat).toNat : Nat) : Int) := by
 have := c.toNat_lt
 rw [BitVec.toNat_ofNat, Nat.mod_eq_of_lt (by omega)]
theorem xor_byte (x : W32) (c : UInt8) : bits .xor .u32 (x.toNat : Int) (c.toNat : Int) = ((x ^^^ BitVec.ofNat 32 c.toNat).toNat : Int) := by
 rw [u8_32, xor32]
theorem and255 (x : W32) : (x &&& 255#32).toNat = x.toNat % 256 := by
 rw [BitVec.toNat_and]
 exact Nat.and_two_pow_sub_one_eq_mod x.toNat 8
def slotN (r : W32) (c : UInt8) : Nat := (r.toNat % 256) ^^^ c.toNat
theorem slotN_lt (r : W32) (c : UInt8) : slotN r c < 256 := Nat.xor_lt_two_pow (n := 8) (Nat.mod_lt _ (by decide)) c.toNat_lt
theorem slotN_prog (r : W32) (c : UInt8) : bits .xor .u8 ((r.toNat : Int) % 256) (c.toNat : Int) = (slotN r c : Int) := by
 rw [show ((r.toNat : Int) % 256) = ((r.toNat % 256 : Nat) : Int) from by omega, u8_xor_nat _ _ (Nat.mod_lt _ (by decide)) c.toNat_lt]
 rfl
theorem slotN_bits (r : W32) (c : UInt8) : (r ^^^ BitVec.ofNat 32 c.toNat) &&& 255#32 = BitVec.ofNat 32 (slotN r c) := by
 apply BitVec.eq_of_toNat_eq
 have h1 := c.toNat_lt
 have h2 := slotN_lt r c
 rw [and255, BitVec.toNat_xor, BitVec.toNat_ofNat, BitVec.toNat_ofNat, Nat.mod_eq_of_lt (show c.toNat < 2 ^ 32 by omega), Nat.mod_eq_of_lt (show slotN r c < 2 ^ 32 by omega)]
 unfold slotN
 have := Nat.xor_mod_two_pow (a := r.toNat) (b := c.toNat) (n := 8)
 rw [show (2 : Nat) ^ 8 = 256 from rfl] at this
 rw [this, Nat.mod_eq_of_lt (show c.toNat < 256 from h1)]
theorem feed_prog (r : W32) (c : UInt8) : bits .xor .u32 ((r.toNat : Int) / 256) ((sh8 (BitVec.ofNat 32 (slotN r c))).toNat : Int) = ((feedB r c).toNat : Int) := by
 rw [byte32, xor32, ← slotN_bits, ← feed_table]
def tabE (k i : Nat) : Value := if i < k then .int .u32 ((sh8 (BitVec.ofNat 32 i)).toNat : Int) else .int .u32 0
def tabN (k : Nat) : Array Value := Array.ofFn (n := 256) fun i => tabE k i.val
theorem tabN_size (k : Nat) : (tabN k).size = 256 := by simp [tabN]
theorem tabN_get (k i : Nat) (h : i < 256) : (tabN k)[i]? = some (tabE k i) := by
 unfold tabN
 rw [Array.getElem?_eq_getElem (by simpa using h)]
 simp
theorem tabN_zero : tabN 0 = Array.replicate 256 (.int .u32 0) := by
 apply Array.ext
 · simp [tabN]
 · intro i h1 h2; simp [tabN, tabE]
theorem tabN_succ (k : Nat) (h : k < 256) : (tabN k).setIfInBounds k (.int .u32 ((sh8 (BitVec.ofNat 32 k)).toNat : Int)) = tabN (k + 1) := by
 apply Array.ext
 · simp [tabN]
 · intro i h1 h2
   rw [Array.getElem_setIfInBounds (by simpa using h1)]
   by_cases hi : k = i
   · subst hi; simp [tabN, tabE]
   · rw [if_neg hi]
     simp only [tabN, Array.getElem_ofFn, tabE]
     by_cases hk : i < k
     · rw [if_pos hk, if_pos (by omega)]
     · rw [if_neg hk, if_neg (by omega)]
theorem tabN_one (k : Nat) : ∀ v ∈ (tabN k).toList, v.oneCell' = true := by
 intro v hv
 obtain ⟨i, hi, rfl⟩ := List.mem_iff_getElem.1 hv
 simp only [tabN, Array.getElem_toList, Array.getElem_ofFn, tabE]
 split <;> rfl
end Go.Proofs.YtgdmdbdljmlkkaaGreatDoor
namespace Go.Proofs.YtgdmdbdljmlkkaaGreatDoor
open Go.RowKit
theorem shift_any (x : W32) (w : World) :
   Calls Tryz.prog 249 #[.int .u32 x.toNat] w fun e w' => e = .returned (.int .u32 (sh8 x).toNat) ∧ w' = w := by
 go_enter Tryz.func249, Tryz.ntmps249
 go_wp2
 go_loop [0, 3] (fun v i => ∃ k : Nat, k ≤ 8 ∧ i = .int .i64 k ∧ v = .int .u32 (shN k x).toNat) (fun _ i => 8 - (RowKit.intOf i).toNat)
 case atStart => exact ⟨0, by omega, rfl, rfl⟩
 case round =>
   obtain ⟨k, hk, rfl, rfl⟩ := hrel
   have HS := Lib.hid (shN_succ k x)
   have hb := w32_bd (shN k x)
   by_cases hlt : k < 8
   · go_wp2
     go_round
     case rel => exact ⟨k + 1, by omega, by go_num, by rw [HS.out, ← sh1_prog, IntKind.wrap_u32]⟩
     case measure => simp [RowKit.intOf]; omega
   · obtain rfl : k = 8 := by omega
     go_wp2
     go_ret
     exact ⟨rfl, rfl⟩
theorem shift_nat (k : Nat) (hk : k < 4294967296) (w : World) :
   Calls Tryz.prog 249 #[.int .u32 (k : Int)] w fun e w' => e = .returned (.int .u32 (sh8 (BitVec.ofNat 32 k)).toNat) ∧ w' = w := by
 have h := shift_any (BitVec.ofNat 32 k) w
 rw [BitVec.toNat_ofNat, Nat.mod_eq_of_lt (show k < 2 ^ 32 from hk)] at h
 exact h
theorem zeroTab (w : World) : (zeroValue 273).run Tryz.prog w = .ok (.agg (tabN 0)) w := by
 rw [tabN_zero]; kernel_rfl
theorem infoTab : (Tryz.prog.info? 273).map (·.size) = some 256 := by kernel_rfl
theorem setCells_whole {w : World} {b : Nat} {cur cs : Array Value} {e : TypeId} (h : w.heap[b]? = some (.cells cur e (0, 0))) (hs : cs.size = cur.size) :
   (w.setCells b 0 cs.toList).heap[b]? = some (.cells cs e (0, 0)) := by
 rw [setCells_same b e cs.toList 0 w cur h (by simp [hs])]
 congr 2
 have : cur.toList.drop (0 + cs.toList.length) = [] := List.drop_of_length_le (by simp [hs])
 rw [this]; simp
theorem there_whole {w : World} {b : Nat} {cur : Array Value} {e : TypeId} (h : w.heap[b]? = some (.cells cur e (0, 0))) : w.there b 0 cur.size := fun j hj => by
 rw [Nat.zero_add]
 exact ⟨by rw [cellAt h j (Array.getElem?_eq_getElem hj)]; rfl, freeAt h j⟩
set_option maxHeartbeats 400000 in
theorem table_any (w : World) :
   Calls Tryz.prog 236 #[] w fun e w' => e = .returned (.agg (tabN 256)) ∧ Below w.heap.size w w' := by
 have hz := zeroTab
 go_enter Tryz.func236, Tryz.ntmps236
 go_upto_region 4 with fail
 clear hz
 have HB : Hid (Below w.heap.size w ((w.alloc (.cells (tabN 0) 273)).alloc (.cells (tabN 0) 273))) := ((Below.refl _ _).alloc (Nat.le_refl _) _).alloc (by simp) _
 have HO : Hid (((w.alloc (.cells (tabN 0) 273)).alloc (.cells (tabN 0) 273)).heap[w.heap.size]? = some (.cells (tabN 0) 273 (0, 0))) := (alloc2_low w _ _).trans (heap_alloc_new w _)
 have HT : Hid (((w.alloc (.cells (tabN 0) 273)).alloc (.cells (tabN 0) 273)).heap[w.heap.size + 1]? = some (.cells (tabN 0) 273 (0, 0))) := alloc2_high w _ _ (heap_alloc_new _ _)
 generalize (w.alloc (.cells (tabN 0) 273)).alloc (.cells (tabN 0) 273) = wa at *
 go_loopw [4] (fun i w' => ∃ k : Nat, k ≤ 256 ∧ i = .int .i64 k ∧ Hid (w'.heap[w.heap.size]? = some (.cells (tabN 0) 273 (0, 0))) ∧ Hid (w'.heap[w.heap.size + 1]? = some (.cells (tabN k) 273 (0, 0))) ∧ Hid (Below w.heap.size w w')) (fun i _ => 256 - (RowKit.intOf i).toNat)
 case atStart => exact ⟨0, by omega, rfl, HO, HT, HB⟩
 case round =>
   obtain ⟨k, hk, rfl, HO, HT, HB⟩ := hrel
   by_cases hlt : k < 256
   · obtain ⟨old, hc⟩ : ∃ old, wr.cell? ⟨w.heap.size + 1, k, none⟩ = some old := ⟨_, cellAt HT.out k (tabN_get k k hlt)⟩
     have hf := freeAt HT.out k
     go_wp2_with (go_at_call 249; refine (shift_nat k (by omega) _).mono ?_; rintro e w' ⟨rfl, rfl⟩)
     go_roundw
     case rel =>
       refine ⟨k + 1, by omega, by go_num, ?_, ?_, HB.out.setCell (p := ⟨w.heap.size + 1, k, none⟩) (by simp) _⟩
       · exact (Below.heap_setCell _ _ _ _ (by simp)).trans HO.out
       · have := heap_store HT.out k (.int .u32 ((sh8 (BitVec.ofNat 32 k)).toNat : Int))
         rw [tabN_succ k hlt] at this
         exact this
     case measure => simp [RowKit.intOf]; omega
   · obtain rfl : k = 256 := by omega
     go_upto_region 8 with fail
     have HR : Hid ((wr.setCells w.heap.size 0 (tabN 256).toList).heap[w.heap.size]? = some (.cells (tabN 256) 273 (0, 0))) := setCells_whole HO.out (by rw [tabN_size, tabN_size])
     have HC : Hid (Below w.heap.size w (wr.setCells w.heap.size 0 (tabN 256).toList)) := by
       refine HB.out.trans (((Chg.refl (fun k => k = w.heap.size) wr).setCells (.inl rfl) 0 (tabN 256).toList).toBelow HB.out.size (fun n hn e => ?_))
       have e2 : n = w.heap.size := e
       omega
     have hth : wr.there w.heap.size 0 (tabN 256).size := by have := there_whole HO.out; rwa [tabN_size] at this ⊢
     have HTH := Lib.hid hth
     clear hth
     go_wp2_with (first
       | (refine wpList_load_row (P := Tryz.prog) rfl 273 _ rfl (w.heap.size + 1) rfl 273 (tabN 256) (0, 0) _ HT.out Tryz.underlying273 rfl (by rw [tabN_size]; exact infoTab) ?_)
       | (refine wpList_store_mid (P := Tryz.prog) rfl 273 _ _ rfl w.heap.size 0 (tabN 256) rfl rfl HTH.out (by rw [tabN_size]; exact infoTab) (Array.all_eq_true_iff_forall_mem.2 (fun v hv => tabN_one 256 v (by simpa using hv))) ?_))
     refine bodyPost_ret (results_cell_row (P := Tryz.prog) Tryz.results236 _ _ w.heap.size 273 (tabN 256) (0, 0) _ rfl HR.out Tryz.underlying273 rfl (by rw [tabN_size]; exact infoTab)) rfl ⟨rfl, HC.out⟩
theorem take_getU {l : List UInt8} {k : Nat} (h : k < l.length) (r : W32) : crcR r (l.take (k + 1)) = feedB (crcR r (l.take k)) l[k] := by
 rw [List.take_succ_eq_append_getElem h, crcR_snoc]
theorem tabE_full {i : Nat} (h : i < 256) : tabE 256 i = .int .u32 ((sh8 (BitVec.ofNat 32 i)).toNat : Int) := if_pos h
structure IsTab (T : Array Value) : Prop where
 size : T.size = 256
 get : ∀ i, i < 256 → T[i]? = some (.int .u32 ((sh8 (BitVec.ofNat 32 i)).toNat : Int))
 one : ∀ v ∈ T, v.oneCell' = true
theorem table_tab (w : World) : Calls Tryz.prog 236 #[] w fun e w' => ∃ T, e = .returned (.agg T) ∧ IsTab T ∧ Below w.heap.size w w' :=
 (table_any w).mono fun e w' ⟨he, hb⟩ => ⟨tabN 256, he, ⟨tabN_size 256, fun i hi => (tabN_get 256 i hi).trans (by rw [tabE_full hi]), fun v hv => tabN_one 256 v (by simpa using hv)⟩, hb⟩
set_option maxHeartbeats 1000000 in
theorem more_any (s : W32) (ba : Option Addr) (bc : Nat) (l : List UInt8) (w : World) (h : Reads w (.slice ba l.length bc) l.length 1 (byts l)) (hl : l.length ≤ 1000000000) :
   Calls Tryz.prog 208 #[.int .u32 s.toNat, .slice ba l.length bc] w fun e w' => e = .returned (.int .u32 (~~~ crcR (~~~ s) l).toNat) ∧ Below w.heap.size w w' := by
 have HR := Lib.hid h
 obtain ⟨Z, hz, hzs⟩ : ∃ Z : Array Value, (∀ w, (zeroValue 273).run Tryz.prog w = .ok (.agg Z) w) ∧ Z.size = 256 := ⟨tabN 0, zeroTab, tabN_size 0⟩
 have HZ := Lib.hid hzs
 obtain ⟨s2, hs2⟩ : ∃ s2 : W32, s2 = ~~~ s := ⟨_, rfl⟩
 obtain ⟨E, hE⟩ : ∃ E : W32, E = ~~~ crcR s2 l := ⟨_, rfl⟩
 have hns : bits .xor .u32 IntKind.u32.max (s.toNat : Int) = (s2.toNat : Int) := by rw [hs2]; exact not32 s
 have hne : bits .xor .u32 IntKind.u32.max ((crcR s2 l).toNat : Int) = (E.toNat : Int) := by rw [hE]; exact not32 _
 rw [← hs2, ← hE]
 have HNE := Lib.hid hne
 clear h hzs hs2 hE hne
 go_enter Tryz.func208, Tryz.ntmps208
 go_wp2_with fail
 refine (table_tab _).mono ?_
 rintro e w1 ⟨T, rfl, hT, hb1⟩
 have HB1 := Lib.hid hb1
 have HTab := Lib.hid hT
 have HT0 : Hid ((w1.alloc (.cells Z 273)).heap[w1.heap.size]? = some (.cells Z 273 (0, 0))) := heap_alloc_new _ _
 have HTH : Hid ((w1.alloc (.cells Z 273)).there w1.heap.size 0 T.size) := by
   have := there_whole HT0.out
   rwa [HZ.out, ← hT.size] at this
 have HT1 : Hid (((w1.alloc (.cells Z 273)).setCells w1.heap.size 0 T.toList).heap[w1.heap.size]? = some (.cells T 273 (0, 0))) := setCells_whole HT0.out (by rw [HZ.out, hT.size])
 have HBT : Hid (Below w.heap.size w ((w1.alloc (.cells Z 273)).setCells w1.heap.size 0 T.toList)) := by
   refine (hb1.alloc hb1.size _).trans (((Chg.refl (fun k => k = w1.heap.size) _).setCells (.inl rfl) 0 T.toList).toBelow (by rw [World.size_alloc]; have := hb1.size; omega) (fun n hn e => ?_))
   have e2 : n = w1.heap.size := e
   have := hb1.size
   omega
 have HIN : Hid ((Tryz.prog.info? 273).map (·.size) = some T.size) := by rw [Hid, hT.size]; exact infoTab
 have HON : Hid (T.all (·.oneCell') = true) := Array.all_eq_true_iff_forall_mem.2 (fun v hv => hT.one v hv)
 clear hb1 hT
 go_wp2_with (refine wpList_store_mid (P := Tryz.prog) rfl 273 _ _ rfl w1.heap.size 0 T rfl rfl HTH.out HIN.out HON.out ?_)
 have HRT := Lib.hid (HR.out.later HBT.out)
 generalize (w1.alloc (.cells Z 273)).setCells w1.heap.size 0 T.toList = wt at *
 generalize w1.heap.size = bt at *
 clear HT0 HTH hz HIN HON
 clear hns
 go_loop [6, 14] (fun r i => ∃ k : Nat, k ≤ l.length ∧ i = .int .i64 k ∧ r = .int .u32 (crcR s2 (l.take k)).toNat) (fun _ i => l.length - (RowKit.intOf i).toNat)
 case atStart => exact ⟨0, by omega, rfl, rfl⟩
 case round =>
   obtain ⟨k, hk, rfl, rfl⟩ := hrel
   by_cases hlt : k < l.length
   · obtain ⟨b, o, c, he, hcap, hb, hcell⟩ := HRT.out.at (by omega)
     cases he
     have hc0 : wt.cell? ⟨b, o + k, none⟩ = some (.int .u8 l[k].toNat) := by simpa using hcell k (.int .u8 l[k].toNat) (by simp [byts, u8v, hlt])
     clear hcell
     have HF := Lib.hid (take_getU hlt s2)
     generalize l[k] = x at *
     generalize crcR s2 (l.take k) = R at *
     have hxl := slotN_lt R x
     have hxi := slotN_prog R x
     have hxb : (0 : Int) ≤ (slotN R x : Int) ∧ (slotN R x : Int) < 256 := by omega
     have hct := cellAt HT1.out (slotN R x) (HTab.out.get _ hxl)
     have hRb := w32_bd R
     have hxu := x.toNat_lt
     have HP := feed_prog R x
     have HPH := Lib.hid HP
     clear HP
     go_wp2
     go_round
     case rel => exact ⟨k + 1, by omega, by go_num, by rw [HF.out, ← HPH.out]⟩
     case measure => simp [RowKit.intOf]; omega
   · obtain rfl : k = l.length := by omega
     rw [List.take_length]
     have hn2 := HNE.out
     generalize crcR s2 l = R at *
     go_wp2
     go_ret
     exact ⟨rfl, HBT.out⟩
end Go.Proofs.YtgdmdbdljmlkkaaGreatDoor
