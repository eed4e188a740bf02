/- The bytes of payloads that are no list: bin.Int, bin.Text, the methods of the kinds.
The bytes of a list of payloads. -/
import Derived.Test.YtpijpeocdlnhiaaGreatDoorUint
import Derived.Test.YtpijpeocdlnhiaaGreatDoorKind
import Derived.Test.YtpijpeocdlnhiaaGreatDoorTPlainC
import Derived.Deep.AppendSrc
namespace Go.Proofs.YtpijpeocdlnhiaaGreatDoor
set_option linter.unusedVariables false
set_option linter.unusedSimpArgs false
open Go.RowKit

/-- append of a string onto an owned row of bytes. -/
theorem run_append_row_str {P : Program} {t u e : TypeId} {z : Value} (hE : ElemOf P t e z 1 1) (hu : P.underlying u = some .string) (ty : TypeId) (w : World) (S : Nat → Prop)
    (v : Value) (n : Nat) (xs : List Value) (hrow : Row w e 1 v n xs S) (hn0 : 0 < n) (s : ByteArray) (h63 : n + s.size ≤ maxLen) (hbytes : n + s.size ≤ 140737488355328) :
    ∃ v' w', (Builtin.append_ #[t, u] ty #[v, .string s]).run P w = .ok v' w' ∧ Row w' e 1 v' (n + s.size) (xs ++ byts s.data.toList) (fun k => S k ∨ w.heap.size ≤ k) ∧ Chg S w w' := by
  obtain ⟨i, hi, hz, hs, hb⟩ := info_parts hE.info
  have hSrc : Src P i.size u (.string s) s.size (byts s.data.toList) w := by rw [hs]; exact Src.ofString w hu s
  have hl : (byts s.data.toList).length = s.size * i.size := by rw [byts_length, hs, Nat.mul_one, bsize]
  rcases hrow.2 with ⟨rfl, rfl⟩ | ⟨g, off, cap, cur, rfl, hS, hg, hn, hm, hcs, ht⟩
  · omega
  · rw [← hs] at hrow hcs ht
    by_cases hroom : n + s.size ≤ cap
    · have hfit : off + n * i.size + (byts s.data.toList).length ≤ cur.size := by
        rw [hl, Nat.add_assoc, ← Nat.add_mul]
        have := Nat.mul_le_mul_right i.size hroom
        omega
      have hr := run_append_room_src (P := P) w t u ty e i hE.und hi g off n cap (.string s) s.size (byts s.data.toList) hSrc hroom
        (fun j hj => by rw [cellAt hg (off + n * i.size + j) (Array.getElem?_eq_getElem (by omega))]; rfl) (fun j hj => freeAt hg _)
      have hsame := setCells_same g e (byts s.data.toList) (off + n * i.size) w cur hg hfit
      refine ⟨_, _, hr, ⟨by rw [List.length_append, hrow.1, hl, hs, Nat.mul_one, Nat.mul_one, Nat.mul_one], .inr ⟨g, off, cap, _, rfl, .inl hS, hsame, hroom, hm, ?_, ?_⟩⟩, ?_⟩
      · simp only [List.size_toArray, List.length_append, List.length_take, List.length_drop, Array.length_toList]
        rw [hs] at *
        omega
      · simp only
        have hxl : xs.length = n * i.size := hrow.1
        have e1 : cur.toList.take (off + n * i.size) = cur.toList.take off ++ xs := by
          rw [← ht, List.take_add]
        rw [e1]
        have hto : (cur.toList.take off).length = off := by rw [List.length_take]; simp; omega
        rw [List.append_assoc, List.append_assoc, List.drop_left' hto, ← List.append_assoc]
        rw [List.take_left' (by rw [List.length_append, hxl, hl, hs]; omega)]
      · have hos := setCells_os g (byts s.data.toList) (off + n * i.size) w
        exact ⟨hos.1, hos.2.1, hos.2.2, by rw [setCells_size]; exact Nat.le_refl _, fun k hk hkS => setCells_other g (byts s.data.toList) _ w k (fun e => hkS (by rw [e]; exact hS))⟩
    · obtain ⟨hl0, _⟩ := hrow
      have holds : ∀ j u, xs[j]? = some u → w.drew.cell? ((⟨g, off, none⟩ : Addr).add j) = some u := by
        intro j u hu
        have hrd : Reads w (.slice (some ⟨g, off, none⟩) n cap) n i.size xs := Row.reads (S := S) ⟨hl0, .inr ⟨g, off, cap, cur, rfl, hS, hg, hn, hm, hcs, ht⟩⟩
        obtain ⟨_, ao, c', hv, _, _, hc⟩ := hrd
        cases hv
        exact hc _ rfl j u hu
      have hold := run_firstCells_some (P := P) w.drew i.size n ⟨g, off, none⟩ n cap xs hl0 holds
      have hlen : (xs ++ byts s.data.toList).length = (n + s.size) * i.size := by rw [List.length_append, hl0, hl, Nat.add_mul]
      have hge := grownCap_ge w (n + s.size) cap e
      have hcm : grownCap w (n + s.size) cap e ≤ maxLen := grownCap_le_maxLen w (n + s.size) cap e h63
      have hzs : z.cells.size = i.size := by rw [hs]; exact hE.zsize
      have hr := run_append_grow_src (P := P) w t u ty e i z hE.und hi hz (some ⟨g, off, none⟩) n cap xs hold (.string s) s.size (byts s.data.toList) hSrc (by omega) (by simp only [maxLen] at h63; omega) (growslice_fits (by omega) (by rw [hb, Nat.mul_one]; exact hbytes))
      refine ⟨_, _, hr, ⟨by rw [hlen, hs], .inr ⟨w.heap.size, 0, _, _, rfl, .inr (Nat.le_refl _), heap_alloc_new w.drew _, hge, hcm, ?_, ?_⟩⟩, ?_⟩
      · simp only [Array.size_append, List.size_toArray, size_zeroCells, hzs, hlen, hs]
        omega
      · simp only [Array.toList_append, List.drop_zero]
        rw [List.take_left' (by rw [hlen, hs])]
      · refine (Chg.refl S w).grown (row := none) ?_ (fun k hk => by cases hk)
        exact ⟨rfl, rfl, rfl, by simp, fun k hk _ => heap_alloc_old w.drew _ k hk⟩
theorem wpList_row_str {P : Program} {t u e : TypeId} {z : Value} (hE : ElemOf P t e z 1 1) (hu : P.underlying u = some .string) {w : World} {ops : Array Oper} {rest : List Oper} {o : Oper} {a : Act} {Q : Exit → Act → World → Prop} (hgd : o.guard = none) {sl x : Operand}
    (ho : o.op = .call { callee := .builtin .append, args := #[sl, x], argTypes := #[t, u] })
    {S : Nat → Prop} {v : Value} {n : Nat} {xs : List Value} (hs : a.eval sl = v) (hown : Row w e 1 v n xs S) (hn0 : 0 < n)
    {s : ByteArray} (hx : a.eval x = .string s) (h63 : n + s.size ≤ maxLen) (hbytes : n + s.size ≤ 140737488355328)
    (h : ∀ v' w', Row w' e 1 v' (n + s.size) (xs ++ byts s.data.toList) (fun k => S k ∨ w.heap.size ≤ k) → Chg S w w' → wpList P ops Q rest (a.put o.dst v') w') : wpList P ops Q (o :: rest) a w := by
  refine wpList_plain hgd fun K hK => ?_
  subst hs
  obtain ⟨v', w', hrun, r1, r2⟩ := run_append_row_str hE hu o.type w S _ n xs hown hn0 s h63 hbytes
  unfold Oper.wp
  simp [execOp, ho, resolve, invoke, builtin, hx, hrun, Result.andThen]
  exact hK _ _ (h v' w' r1 r2)
/-- A number with a sign as one without. -/
def zz (n : Int) : Nat := if 0 ≤ n then (2 * n).toNat else (2 * (-(n + 1)) + 1).toNat
theorem BytesP.mono {w0 w : World} {l : List UInt8} {e : Ending} {w' : World} (hb : Below w0.heap.size w0 w) (h : BytesP w l e w') : BytesP w0 l e w' := by
  obtain ⟨a, c, rfl, hr, hb2⟩ := h
  exact ⟨a, c, rfl, hr.mono (fun k hk => Nat.le_trans hb.size hk), hb.trans (hb2.mono hb.size)⟩
theorem xor_ones (a : Nat) (ha : a < 18446744073709551616) : bits .xor .u64 (a : Int) 18446744073709551615 = ((18446744073709551615 - a : Nat) : Int) := by
  have h := u64_xor_nat a 18446744073709551615 ha (by decide)
  have e : (a ^^^ 18446744073709551615) = 18446744073709551615 - a := by
    have h1 : (BitVec.ofNat 64 a ^^^ BitVec.allOnes 64).toNat = (~~~ (BitVec.ofNat 64 a)).toNat := by rw [BitVec.xor_allOnes]
    rw [BitVec.toNat_xor, BitVec.toNat_not, BitVec.toNat_ofNat, Nat.mod_eq_of_lt ha] at h1
    exact h1
  rw [← e]
  exact h
theorem zz_bits (n : Int) (hn : -9223372036854775808 ≤ n ∧ n ≤ 9223372036854775807) :
    bits BinOp.xor IntKind.u64 (IntKind.u64.wrap (wrap64 (n * 2))) (IntKind.u64.wrap (n / 9223372036854775808)) = (zz n : Int) := by
  rw [IntKind.wrap_u64, IntKind.wrap_u64]
  unfold wrap64 zz
  split
  · rename_i h
    have e1 : ((n * 2 + 9223372036854775808) % 18446744073709551616 - 9223372036854775808) % 18446744073709551616 = (((2 * n).toNat : Nat) : Int) := by omega
    have e2 : n / 9223372036854775808 % 18446744073709551616 = ((0 : Nat) : Int) := by omega
    rw [e1, e2, u64_xor_nat _ _ (by omega) (by decide)]
    simp
  · rename_i h
    obtain ⟨a, ha⟩ : ∃ a : Nat, (a : Int) = n * 2 + 18446744073709551616 := ⟨(n * 2 + 18446744073709551616).toNat, by omega⟩
    have e1 : ((n * 2 + 9223372036854775808) % 18446744073709551616 - 9223372036854775808) % 18446744073709551616 = (a : Int) := by omega
    have e2 : n / 9223372036854775808 % 18446744073709551616 = 18446744073709551615 := by omega
    rw [e1, e2, xor_ones a (by omega)]
    omega
theorem zz_lt (n : Int) (hn : -9223372036854775808 ≤ n ∧ n ≤ 9223372036854775807) : zz n < 18446744073709551616 := by unfold zz; split <;> omega
set_option maxRecDepth 100000 in
set_option maxHeartbeats 1000000 in
theorem bint_any (n : Int) (hn : -9223372036854775808 ≤ n ∧ n ≤ 9223372036854775807) (w : World) : Calls Tryz.prog 216 #[.int .i64 n] w (BytesP w (uintL (zz n))) := by
  have HU := Lib.hid (uint_any (zz n) (zz_lt n hn) w)
  have hz := zz_bits n hn
  generalize zz n = z at *
  go_enter Tryz.func216, Tryz.ntmps216
  go_wp2_with fail
  refine HU.out.mono ?_
  rintro e w2 ⟨a, c, rfl, hr, hb⟩
  go_wp2
  go_ret
  exact ⟨a, c, rfl, hr, hb⟩
set_option maxRecDepth 100000 in
set_option maxHeartbeats 1000000 in
theorem btext_any (s : ByteArray) (hs : s.size ≤ 1000000) (w : World) : Calls Tryz.prog 223 #[.string s] w (BytesP w (uintL s.size ++ s.data.toList)) := by
  have HU := Lib.hid (uint_any s.size (by omega) w)
  have hU10 := uintL_ten (x := s.size) (by omega)
  have hUp := uintL_pos s.size
  have hl : (uintL s.size ++ s.data.toList).length = (uintL s.size).length + s.size := by rw [List.length_append, bsize]
  have hsc : ((s.size : Nat) : Int) % 18446744073709551616 = (s.size : Int) := by omega
  have HLL := Lib.hid hl
  have HBA := Lib.hid (byts_append (uintL s.size) s.data.toList)
  unfold BytesP
  rw [hl, HBA.out]
  clear hl
  generalize uintL s.size = U at *
  go_enter Tryz.func223, Tryz.ntmps223
  go_wp2_with fail
  refine HU.out.mono ?_
  rintro e w2 ⟨a, c, rfl, hr, hb⟩
  go_wp2_with (refine wpList_row_str elemU8 Tryz.underlying9 rfl rfl (S := fun k => w.heap.size ≤ k) (v := .slice a U.length c) (n := U.length) (xs := byts U) rfl hr (by omega) rfl (by unfold maxLen; omega) (by omega) ?_
               intro v5 w5 hr5 hch5
               obtain ⟨a5, c5, rfl⟩ : ∃ a5 c5, v5 = .slice a5 (U.length + s.size) c5 := (by obtain ⟨-, a5, c5, h, -⟩ := hr5.reads; exact ⟨a5, c5, h⟩)
               have HR5 := Lib.hid hr5
               have HCH5 := Lib.hid hch5
               clear hr5 hch5)
  go_ret
  have hb' := hb.size
  exact ⟨a5, c5, rfl, HR5.out.mono (fun k hk => by rcases hk with hk | hk; exact hk; omega), hb.trans (HCH5.out.toBelow (B := w.heap.size) hb.size (fun n hn h => by omega))⟩
set_option maxRecDepth 100000 in
set_option maxHeartbeats 1000000 in
theorem none_bytes (v : VV) (w : World) : Calls Tryz.prog 210 #[.agg #[], v.val] w (BytesP w []) := by
  obtain ⟨k, n, f, s, a, l, c⟩ := v
  dsimp only [VV.val]
  go_enter Tryz.func210, Tryz.ntmps210
  go_wp2
  go_ret
  exact ⟨none, 0, rfl, Row.nil _ _ _ _, ((Below.refl _ _).alloc (Nat.le_refl _) _).alloc (by simp) _⟩
set_option maxRecDepth 100000 in
set_option maxHeartbeats 1000000 in
theorem int_bytes (v : VV) (hn : -9223372036854775808 ≤ v.n ∧ v.n ≤ 9223372036854775807) (w : World) : Calls Tryz.prog 213 #[.agg #[], v.val] w (BytesP w (uintL (zz v.n))) := by
  obtain ⟨k, n, f, s, a, l, c⟩ := v
  dsimp only [VV.val] at *
  have HB1 : Hid (Below w.heap.size w ((w.alloc (.cells #[] 104)).alloc (.cells #[.int .i64 k, .int .i64 n, .float .f64 f, .string s, .slice a l c] 26))) := ((Below.refl _ _).alloc (Nat.le_refl _) _).alloc (by simp) _
  have HU := Lib.hid (bint_any n hn ((w.alloc (.cells #[] 104)).alloc (.cells #[.int .i64 k, .int .i64 n, .float .f64 f, .string s, .slice a l c] 26)))
  go_enter Tryz.func213, Tryz.ntmps213
  go_wp2_with fail
  refine HU.out.mono ?_
  rintro e w2 h2
  obtain ⟨a2, c2, rfl, hr, hb⟩ := h2.mono HB1.out
  go_wp2
  go_ret
  exact ⟨a2, c2, rfl, hr, hb⟩
set_option maxRecDepth 100000 in
set_option maxHeartbeats 1000000 in
theorem text_bytes (v : VV) (hs : v.s.size ≤ 1000000) (w : World) : Calls Tryz.prog 220 #[.agg #[], v.val] w (BytesP w (uintL v.s.size ++ v.s.data.toList)) := by
  obtain ⟨k, n, f, s, a, l, c⟩ := v
  dsimp only [VV.val] at *
  have HB1 : Hid (Below w.heap.size w ((w.alloc (.cells #[] 106)).alloc (.cells #[.int .i64 k, .int .i64 n, .float .f64 f, .string s, .slice a l c] 26))) := ((Below.refl _ _).alloc (Nat.le_refl _) _).alloc (by simp) _
  have HU := Lib.hid (btext_any s hs ((w.alloc (.cells #[] 106)).alloc (.cells #[.int .i64 k, .int .i64 n, .float .f64 f, .string s, .slice a l c] 26)))
  generalize uintL s.size ++ s.data.toList = U at *
  go_enter Tryz.func220, Tryz.ntmps220
  go_wp2_with fail
  refine HU.out.mono ?_
  rintro e w2 h2
  obtain ⟨a2, c2, rfl, hr, hb⟩ := h2.mono HB1.out
  go_wp2
  go_ret
  exact ⟨a2, c2, rfl, hr, hb⟩
/-- The first m of the eight bytes of a number, the greatest first. -/
def beN (b m : Nat) : List UInt8 := (List.range m).map fun i => UInt8.ofNat (b / 2 ^ (56 - 8 * i) % 256)
theorem beN_succ (b m : Nat) : beN b (m + 1) = beN b m ++ [UInt8.ofNat (b / 2 ^ (56 - 8 * m) % 256)] := by
  unfold beN; rw [List.range_succ, List.map_append]; rfl
theorem beN_length (b m : Nat) : (beN b m).length = m := by unfold beN; simp
set_option maxRecDepth 100000 in
set_option maxHeartbeats 4000000 in
theorem float_bytes (v : VV) (hf : v.f < 18446744073709551616) (w : World) : Calls Tryz.prog 217 #[.agg #[], v.val] w (BytesP w (beN (canonB v.f) 8)) := by
  obtain ⟨k, n, f, s, a0, l, c0⟩ := v
  dsimp only [VV.val] at *
  have HV1 : Hid (((w.alloc (.cells #[] 105)).alloc (.cells #[.int .i64 k, .int .i64 n, .float .f64 f, .string s, .slice a0 l c0] 26)).heap[w.heap.size + 1]? = some (.cells #[.int .i64 k, .int .i64 n, .float .f64 f, .string s, .slice a0 l c0] 26 (0, 0))) := by
    have h := heap_alloc_new (w.alloc (.cells #[] 105)) (.cells #[.int .i64 k, .int .i64 n, .float .f64 f, .string s, .slice a0 l c0] 26)
    rw [World.size_alloc] at h
    exact h
  have HB1 : Hid (Below w.heap.size w ((w.alloc (.cells #[] 105)).alloc (.cells #[.int .i64 k, .int .i64 n, .float .f64 f, .string s, .slice a0 l c0] 26))) := ((Below.refl _ _).alloc (Nat.le_refl _) _).alloc (by simp) _
  have HS1 : Hid (((w.alloc (.cells #[] 105)).alloc (.cells #[.int .i64 k, .int .i64 n, .float .f64 f, .string s, .slice a0 l c0] 26)).heap.size = w.heap.size + 2) := by simp [Hid]
  have HNB := Lib.hid (nbits_any f hf)
  generalize canonB f = cb at *
  go_enter Tryz.func217, Tryz.ntmps217
  go_upto_region 3 with fail
  generalize ((w.alloc (.cells #[] 105)).alloc (.cells #[.int .i64 k, .int .i64 n, .float .f64 f, .string s, .slice a0 l c0] 26)) = wd at *
  go_loopw [5, 6] (fun o i w' => ∃ (m : Nat) (a : Option Addr) (c : Nat), m ≤ 8 ∧ i = .int .i64 (56 - 8 * (m : Int)) ∧ o = .slice a m c ∧ Hid (Row w' 5 1 (.slice a m c) m (byts (beN cb m)) (fun b => w.heap.size + 2 ≤ b)) ∧ Hid (w'.heap[w.heap.size + 1]? = some (.cells #[.int .i64 k, .int .i64 n, .float .f64 f, .string s, .slice a0 l c0] 26 (0, 0))) ∧ Hid (Below w.heap.size w w') ∧ Hid (w.heap.size + 2 ≤ w'.heap.size)) (fun _ i _ => (RowKit.intOf i + 8).toNat)
  case atStart => exact ⟨0, none, 0, by omega, rfl, rfl, Row.nil _ _ _ _, HV1.out, HB1.out, Nat.le_of_eq HS1.out.symm⟩
  case round =>
    obtain ⟨m, a, c, hm, rfl, rfl, HR, HV, HBE, HSZ⟩ := hrel
    by_cases hlt : m < 8
    · have hx2 := cellAt HV.out 2 rfl
      have hge : decide (8 * (m : Int) ≤ 56) = true := by simp; omega
      have hsh : ¬ (56 - 8 * (m : Int)) < 0 := by omega
      go_wp2_with fail
      refine (HNB.out _).mono ?_
      rintro e w3 ⟨rfl, rfl⟩
      have hval : ((cb : Int) / 2 ^ (56 - 8 * m) % 256) = (((UInt8.ofNat (cb / 2 ^ (56 - 8 * m) % 256)).toNat : Nat) : Int) := by
        rw [UInt8.toNat_ofNat', Nat.mod_mod]
        rfl
      have HVAL := Lib.hid hval
      clear hval
      go_wp2_with (refine wpList_row elemU8 rfl rfl (S := fun b => w.heap.size + 2 ≤ b) (v := .slice a m c) (n := m) (xs := byts (beN cb m)) rfl (HR.out.frame (fun k _ hk => Below.heap_alloc _ _ _ hk)) (y := .slice (some ⟨wr.heap.size, 0, none⟩) 1 1) (m := 1) (news := [.int .u8 ((cb : Int) / 2 ^ (56 - 8 * m) % 256)]) rfl (reads_one wr _ _) (one_of rfl) (by unfold maxLen; omega) (by omega) ?_
                   intro v5 w5 hr5 hch5
                   obtain ⟨a5, c5, rfl⟩ : ∃ a5 c5, v5 = .slice a5 (m + 1) c5 := (by obtain ⟨-, a5, c5, h, -⟩ := hr5.reads; exact ⟨a5, c5, h⟩)
                   have HR5 := Lib.hid hr5
                   have HCH5 := Lib.hid hch5
                   have HV5 := Lib.hid (hch5.heap ((Below.heap_alloc _ _ _ (lt_of_heap HV.out)).trans HV.out) (by omega))
                   clear hr5 hch5)
      go_roundw
      case rel =>
        refine ⟨m + 1, a5, c5, by omega, ?_, rfl, ?_, HV5.out, ?_, ?_⟩
        · congr 1; omega
        · have e : byts (beN cb (m + 1)) = byts (beN cb m) ++ [.int .u8 ((cb : Int) / 2 ^ (56 - 8 * m) % 256)] := by
            rw [beN_succ, byts_append, HVAL.out]; rfl
          rw [Hid, e]
          exact HR5.out.mono (fun k hk => by rcases hk with hk | hk; exact hk; have h1 := HSZ.out; simp only [World.size_alloc] at hk; omega)
        · have h4 := HBE.out.size
          exact (HBE.out.alloc (by omega) _).trans (HCH5.out.toBelow (B := w.heap.size) (by simp only [World.size_alloc]; omega) (fun n hn h => by omega))
        · have h1 := HSZ.out
          have h5 := HCH5.out.size
          rw [Hid]
          simp only [World.size_alloc] at h5
          omega
      case measure => simp [RowKit.intOf]; omega
    · have hge : decide (8 * (m : Int) ≤ 56) = false := by simp; omega
      obtain rfl : m = 8 := by omega
      go_wp2_with fail
      go_ret
      have hl : (beN cb 8).length = 8 := beN_length _ _
      unfold BytesP
      rw [hl]
      exact ⟨a, c, rfl, HR.out.mono (fun k hk => by omega), HBE.out⟩
end Go.Proofs.YtpijpeocdlnhiaaGreatDoor
namespace Go.Proofs.YtpijpeocdlnhiaaGreatDoor
set_option linter.unusedVariables false
set_option linter.unusedSimpArgs false
open Go.RowKit

def atomF (k n : Int) (f : Nat) (s : ByteArray) : List UInt8 :=
  if k = 1 then uintL (zz n) else if k = 2 then beN (canonB f) 8 else if k = 3 then uintL s.size ++ s.data.toList else []
mutual
/-- The bytes of a payload. -/
def formT : VT → List UInt8
  | .node k n f s l => uintL k.toNat ++ (if k = 4 then uintL l.length ++ formsT l else atomF k n f s)
def formsT : List VT → List UInt8
  | [] => []
  | t :: ts => formT t ++ formsT ts
end
theorem formsT_append (a b : List VT) : formsT (a ++ b) = formsT a ++ formsT b := by
  induction a with
  | nil => rw [List.nil_append, formsT, List.nil_append]
  | cons t a ih => rw [List.cons_append, formsT, formsT, ih, List.append_assoc]
theorem formsT_take (l : List VT) (m : Nat) (h : m < l.length) : formsT (l.take (m + 1)) = formsT (l.take m) ++ formT l[m] := by
  rw [List.take_succ_eq_append_getElem h, formsT_append, formsT, formsT, List.append_nil]
theorem formsT_le (l : List VT) (m : Nat) : (formsT (l.take m)).length ≤ (formsT l).length := by
  have h : formsT l = formsT (l.take m) ++ formsT (l.drop m) := by rw [← formsT_append, List.take_append_drop]
  rw [h, List.length_append]
  omega
def FormC (t : VT) : Prop := ∀ (v : VV) (S : Nat → Prop) (w : World), TRead w S t v → Calls Tryz.prog 43 #[v.val] w (BytesP w (formT t))
set_option maxRecDepth 100000 in
set_option maxHeartbeats 4000000 in
theorem list_bytes (n : Int) (f : Nat) (s : ByteArray) (l : List VT) (hl : l.length ≤ 1000000) (htl : (uintL l.length ++ formsT l).length ≤ 1000000) (IH : ∀ t ∈ l, FormC t) (v : VV) (S : Nat → Prop) (w : World) (hv : TRead w S (.node 4 n f s l) v) :
    Calls Tryz.prog 224 #[.agg #[], v.val] w (BytesP w (uintL l.length ++ formsT l)) := by
  have HV := Lib.hid hv
  have hval : v.val = .agg #[.int .i64 4, .int .i64 n, .float .f64 f, .string s, .slice v.a l.length v.c] := hv.val
  have hlen : l.length ≤ v.c := by obtain ⟨vs, hr, _⟩ := hv.elems; obtain ⟨_, _, _, he, hle, _⟩ := hr; cases he; exact hle
  rw [hval]
  have HI := Lib.hid IH
  clear hv hval IH
  obtain ⟨va, hva⟩ : ∃ va, va = v.a := ⟨_, rfl⟩
  have HVA := Lib.hid hva
  rw [← hva]
  clear hva
  have HV1 : Hid (((w.alloc (.cells #[] 107)).alloc (.cells #[.int .i64 4, .int .i64 n, .float .f64 f, .string s, .slice va l.length v.c] 26)).heap[w.heap.size + 1]? = some (.cells #[.int .i64 4, .int .i64 n, .float .f64 f, .string s, .slice va l.length v.c] 26 (0, 0))) := by
    have h := heap_alloc_new (w.alloc (.cells #[] 107)) (.cells #[.int .i64 4, .int .i64 n, .float .f64 f, .string s, .slice va l.length v.c] 26)
    rw [World.size_alloc] at h
    exact h
  have HB1 : Hid (Below w.heap.size w ((w.alloc (.cells #[] 107)).alloc (.cells #[.int .i64 4, .int .i64 n, .float .f64 f, .string s, .slice va l.length v.c] 26))) := ((Below.refl _ _).alloc (Nat.le_refl _) _).alloc (by simp) _
  have HS1 : Hid (((w.alloc (.cells #[] 107)).alloc (.cells #[.int .i64 4, .int .i64 n, .float .f64 f, .string s, .slice va l.length v.c] 26)).heap.size = w.heap.size + 2) := by simp [Hid]
  have HU := Lib.hid (uint_any l.length (by omega))
  have HTL : Hid (∀ m, (uintL l.length ++ formsT (l.take m)).length ≤ 1000000) := fun m => by
    have := formsT_le l m
    rw [List.length_append] at htl ⊢
    omega
  clear htl
  obtain ⟨R, hR⟩ : ∃ R, R = uintL l.length ++ formsT l := ⟨_, rfl⟩
  rw [← hR]
  have HRR := Lib.hid hR
  clear hR
  go_enter Tryz.func224, Tryz.ntmps224
  go_upto_region 1 with fail
  generalize ((w.alloc (.cells #[] 107)).alloc (.cells #[.int .i64 4, .int .i64 n, .float .f64 f, .string s, .slice va l.length v.c] 26)) = wd at *
  obtain ⟨hx0, hx1, hx2, hx3, hx4⟩ := cells5 HV1.out
  go_wp2_with fail
  refine (HU.out wd).mono ?_
  rintro e w2 ⟨a, c, rfl, hr, hb⟩
  have HR2 : Hid (Row w2 5 1 (.slice a (uintL l.length).length c) (uintL l.length).length (byts (uintL l.length)) (fun k => w.heap.size + 2 ≤ k)) := hr.mono (fun k hk => by have := HS1.out; omega)
  have HB2 : Hid (Below w.heap.size w w2) := HB1.out.trans (hb.mono HB1.out.size)
  have HV2 := Lib.hid ((hb.block _ (lt_of_heap HV1.out)).trans HV1.out)
  have HS2 : Hid (w.heap.size + 2 ≤ w2.heap.size) := by have h1 := HS1.out; have h2 := hb.size; rw [Hid]; omega
  clear hr hb hx0 hx1 hx2 hx3 hx4
  obtain ⟨hx0, hx1, hx2, hx3, hx4⟩ := cells5 HV2.out
  go_wp2_with fail
  clear hx0 hx1 hx2 hx3 hx4
  obtain ⟨U, hU⟩ : ∃ U, U = uintL l.length := ⟨_, rfl⟩
  rw [← hU] at HR2 HTL HRR ⊢
  clear hU HU
  go_loopw [5, 16] (fun o i w' => ∃ (m : Nat) (acc : List UInt8) (a : Option Addr) (c : Nat), m ≤ l.length ∧ i = .int .i64 m ∧ o = .slice a acc.length c ∧ Hid (acc = U ++ formsT (l.take m)) ∧ Hid (Row w' 5 1 (.slice a acc.length c) acc.length (byts acc) (fun b => w.heap.size + 2 ≤ b)) ∧ Hid (Below w.heap.size w w') ∧ Hid (w.heap.size + 2 ≤ w'.heap.size)) (fun _ i _ => l.length - (RowKit.intOf i).toNat)
  case atStart => exact ⟨0, U, a, c, by omega, rfl, rfl, by rw [Hid, List.take_zero, formsT, List.append_nil], HR2.out, HB2.out, HS2.out⟩
  case round =>
    obtain ⟨m, acc, a, c, hm, rfl, rfl, HA, HR, HBE, HSZ⟩ := hrel
    by_cases hlt : m < l.length
    · obtain ⟨b, o, hb0, hcap, hblt, -, p, hp, hc0, hc1, hc2, hc3, hc4⟩ := (HV.out.later HBE.out).child m hlt
      obtain rfl : va = some ⟨b, o, none⟩ := HVA.out.trans hb0
      clear hb0
      have hin := List.getElem_mem hlt
      have HC : Hid (∀ W, Below wr.heap.size wr W → Calls Tryz.prog 43 #[p.val] W (BytesP W (formT l[m]))) :=
        fun W hW => HI.out l[m] hin p S W (hp.later hW)
      have HA2 : Hid (acc ++ formT l[m] = U ++ formsT (l.take (m + 1))) := by rw [Hid, HA.out, formsT_take l m hlt, List.append_assoc]
      have hle : acc.length + (formT l[m]).length ≤ 1000000 := by
        have h := HTL.out (m + 1)
        rw [← HA2.out, List.length_append] at h
        exact h
      generalize formT l[m] = tx at *
      clear hp hin HA
      obtain ⟨pk, pn, pf, ps, pa, pl, pc⟩ := p
      dsimp only [VV.val] at *
      go_upto_region 5 with fail
      have HXx : Hid ((wr.alloc (.cells #[.int .i64 pk, .int .i64 pn, .float .f64 pf, .string ps, .slice pa pl pc] 26)).heap[wr.heap.size]? = some (.cells #[.int .i64 pk, .int .i64 pn, .float .f64 pf, .string ps, .slice pa pl pc] 26 (0, 0))) := heap_alloc_new wr _
      have HBx : Hid (Below wr.heap.size wr (wr.alloc (.cells #[.int .i64 pk, .int .i64 pn, .float .f64 pf, .string ps, .slice pa pl pc] 26))) := (Below.refl _ _).alloc (Nat.le_refl _) _
      clear hc0 hc1 hc2 hc3 hc4
      have HRx := Lib.hid (HR.out.frame (fun k hk hl => HBx.out.block k hl))
      have HCx := Lib.hid (HC.out _ HBx.out)
      generalize (wr.alloc (.cells #[.int .i64 pk, .int .i64 pn, .float .f64 pf, .string ps, .slice pa pl pc] 26)) = wx at *
      obtain ⟨hx0, hx1, hx2, hx3, hx4⟩ := cells5 HXx.out
      go_wp2_with fail
      refine HCx.out.mono ?_
      rintro e w4 ⟨a2, c2, rfl, hr2, hb4⟩
      have HB4 := Lib.hid (HBx.out.trans (hb4.mono HBx.out.size))
      have HR4 := Lib.hid (HRx.out.frame (fun k hk hl => hb4.block k hl))
      have HY4 := Lib.hid hr2.reads
      clear hb4 hr2 hx0 hx1 hx2 hx3 hx4
      go_wp2_with (refine wpList_row elemU8 rfl rfl (S := fun b => w.heap.size + 2 ≤ b) (v := .slice a acc.length c) (n := acc.length) (xs := byts acc) rfl HR4.out (y := .slice a2 tx.length c2) (m := tx.length) (news := byts tx) rfl HY4.out (byts_one tx) (by unfold maxLen; omega) (by omega) ?_
                   intro v5 w5 hr5 hch5
                   obtain ⟨a5, c5, rfl⟩ : ∃ a5 c5, v5 = .slice a5 (acc.length + tx.length) c5 := (by obtain ⟨-, a5, c5, h, -⟩ := hr5.reads; exact ⟨a5, c5, h⟩)
                   have HR5 := Lib.hid hr5
                   have HCH5 := Lib.hid hch5
                   clear hr5 hch5)
      go_roundw
      case rel =>
        have hln : (acc ++ tx).length = acc.length + tx.length := List.length_append
        have h4 := HB4.out.size
        have h5 := HSZ.out
        have h6 := HBE.out.size
        refine ⟨m + 1, acc ++ tx, a5, c5, by omega, by go_num, by rw [hln], HA2.out, ?_, ?_, ?_⟩
        · rw [Hid, hln, byts_append]
          exact HR5.out.mono (fun k hk => by rcases hk with hk | hk; exact hk; omega)
        · exact (HBE.out.trans (HB4.out.mono HBE.out.size)).trans (HCH5.out.toBelow (B := w.heap.size) (by omega) (fun n hn h => by omega))
        · have h7 := HCH5.out.size
          rw [Hid]
          omega
      case measure => simp [RowKit.intOf]; omega
    · obtain rfl : m = l.length := by omega
      rw [List.take_length] at HA
      obtain rfl : acc = R := HA.out.trans HRR.out.symm
      go_wp2_with fail
      go_ret
      exact ⟨a, c, rfl, HR.out.mono (fun k hk => by omega), HBE.out⟩
end Go.Proofs.YtpijpeocdlnhiaaGreatDoor
