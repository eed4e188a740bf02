/- value.Count and the reference's.
The reference's forms: numbers, numbers with a sign, bytes; then its form of a payload.
The reference's form of a payload, kind by kind. Printed by a program.
The reference's form of a number with a fraction and of a list; then of every payload; the reference's Bytes.
The reference's form of a number with a fraction; then of every payload; the reference's Bytes. -/
import Derived.Test.YtpijpeocdlnhiaaGreatDoorVClone
import Derived.Test.YtpijpeocdlnhiaaGreatDoorArms
import Derived.Test.YtpijpeocdlnhiaaGreatDoorWeight
import Derived.Test.YtpijpeocdlnhiaaGreatDoorBytesC
import Derived.Test.YtpijpeocdlnhiaaGreatDoorTRight
namespace Go.Proofs.YtpijpeocdlnhiaaGreatDoor
set_option linter.unusedVariables false
set_option linter.unusedSimpArgs false
open Go.RowKit

mutual
/-- How many payloads there are in a payload. -/
def countT : VT → Nat
  | .node _ _ _ _ l => 1 + countL l
def countL : List VT → Nat
  | [] => 0
  | t :: ts => countT t + countL ts
end
theorem countL_append (a b : List VT) : countL (a ++ b) = countL a + countL b := by
  induction a with
  | nil => rw [List.nil_append, countL]; omega
  | cons t a ih => rw [List.cons_append, countL, countL, ih]; omega
theorem countL_take (l : List VT) (m : Nat) (h : m < l.length) : countL (l.take (m + 1)) = countL (l.take m) + countT l[m] := by
  rw [List.take_succ_eq_append_getElem h, countL_append, countL, countL]; omega
theorem countL_le (l : List VT) (m : Nat) : countL (l.take m) ≤ countL l := by
  have h : countL l = countL (l.take m) + countL (l.drop m) := by rw [← countL_append, List.take_append_drop]
  omega
theorem count_cost (t : VT) : countT t ≤ costT t := by
  induction t using VT.ind with
  | _ k n f s l ih =>
    rw [countT, costT]
    have h : ∀ m : List VT, (∀ t ∈ m, countT t ≤ costT t) → countL m ≤ costL m := by
      intro m
      induction m with
      | nil => intro _; exact Nat.le_refl _
      | cons a m im => intro h; rw [countL, costL]; have h1 := h a (by simp); have h2 := im (fun t ht => h t (by simp [ht])); omega
    have := h l ih
    omega
set_option maxRecDepth 100000 in
set_option maxHeartbeats 4000000 in
theorem vcount_any (t : VT) : ∀ (v : VV) (S : Nat → Prop) (w : World), TRead w S t v → countT t ≤ 1000000 →
    Calls Tryz.prog 18 #[v.val] w fun e w' => e = .returned (.int .i64 (countT t)) ∧ Below w.heap.size w w' := by
  induction t using VT.ind with
  | _ k n f s l ih =>
    intro v S w hv hc
    have HV := Lib.hid hv
    have hval : v.val = .agg #[.int .i64 k, .int .i64 n, .float .f64 f, .string s, .slice v.a l.length v.c] := hv.val
    rw [hval]
    rw [countT] at hc ⊢
    have hle : ∀ m, 1 + countL (l.take m) ≤ 1000000 := fun m => by have := countL_le l m; omega
    have HI := Lib.hid ih
    have HLE := Lib.hid hle
    clear hv hval ih hle
    obtain ⟨va, hva⟩ : ∃ va, va = v.a := ⟨_, rfl⟩
    have HVA := Lib.hid hva
    rw [← hva]
    clear hva
    obtain ⟨R, hR⟩ : ∃ R, R = 1 + countL l := ⟨_, rfl⟩
    rw [← hR] at hc ⊢
    have HRR := Lib.hid hR
    clear hR
    have hlen : l.length ≤ v.c := by obtain ⟨vs, hr, _⟩ := HV.out.elems; obtain ⟨_, _, _, he, hle, _⟩ := hr; cases he; exact hle
    have hl0 : l.length ≤ maxLen := HV.out.small
    have HX : Hid ((w.alloc (.cells #[.int .i64 k, .int .i64 n, .float .f64 f, .string s, .slice va l.length v.c] 26)).heap[w.heap.size]? = some (.cells #[.int .i64 k, .int .i64 n, .float .f64 f, .string s, .slice va l.length v.c] 26 (0, 0))) := heap_alloc_new w _
    have HBel : Hid (Below w.heap.size w (w.alloc (.cells #[.int .i64 k, .int .i64 n, .float .f64 f, .string s, .slice va l.length v.c] 26))) := (Below.refl _ _).alloc (Nat.le_refl _) _
    unfold maxLen at hl0
    go_enter Tryz.func18, Tryz.ntmps18
    go_upto_region 1 with fail
    generalize w.alloc (.cells #[.int .i64 k, .int .i64 n, .float .f64 f, .string s, .slice va l.length v.c] 26) = wa at *
    obtain ⟨x0, x1, x2, x3, x4⟩ := cells5 HX.out
    go_wp2_with fail
    clear x0 x1 x2 x3 x4
    go_loopw [3, 9] (fun o i w' => ∃ m : Nat, m ≤ l.length ∧ i = .int .i64 m ∧ o = .int .i64 ((1 + countL (l.take m) : Nat) : Int) ∧ Hid (Below w.heap.size w w')) (fun _ i _ => l.length - (RowKit.intOf i).toNat)
    case atStart => exact ⟨0, by omega, rfl, rfl, HBel.out⟩
    case round =>
      obtain ⟨m, hm, rfl, rfl, HBE⟩ := hrel
      by_cases hlt : m < l.length
      · obtain ⟨b, o, hb0, hcap, hblt, -, p, hp, hc0, hc1, hc2, hc3, hc4⟩ := (HV.out.later HBE.out).child m hlt
        obtain rfl : va = some ⟨b, o, none⟩ := HVA.out.trans hb0
        clear hb0
        have hm1 := HLE.out (m + 1)
        have htk := countL_take l m hlt
        have hin := List.getElem_mem hlt
        have HC : Hid (∀ W, Below wr.heap.size wr W → Calls Tryz.prog 18 #[p.val] W fun e w' => e = .returned (.int .i64 (countT l[m])) ∧ Below W.heap.size W w') :=
          fun W hW => HI.out l[m] hin p S W (hp.later hW) (by omega)
        obtain ⟨A, hA⟩ : ∃ A, A = 1 + countL (l.take m) := ⟨_, rfl⟩
        rw [← hA]
        have hA2 : A + countT l[m] = 1 + countL (l.take (m + 1)) := by omega
        have hA3 : A + countT l[m] ≤ 1000000 := by omega
        have HA2 := Lib.hid hA2
        generalize countT l[m] = x at *
        clear hp hin htk hm1 hA hA2
        obtain ⟨pk, pn, pf, ps, pa, pl, pc⟩ := p
        dsimp only [VV.val] at *
        go_upto_region 5 with fail
        have HXx : Hid ((wr.alloc (.cells #[.int .i64 pk, .int .i64 pn, .float .f64 pf, .string ps, .slice pa pl pc] 26)).heap[wr.heap.size]? = some (.cells #[.int .i64 pk, .int .i64 pn, .float .f64 pf, .string ps, .slice pa pl pc] 26 (0, 0))) := heap_alloc_new wr _
        have HBx : Hid (Below wr.heap.size wr (wr.alloc (.cells #[.int .i64 pk, .int .i64 pn, .float .f64 pf, .string ps, .slice pa pl pc] 26))) := (Below.refl _ _).alloc (Nat.le_refl _) _
        clear hc0 hc1 hc2 hc3 hc4
        have HCx := Lib.hid (HC.out _ HBx.out)
        generalize (wr.alloc (.cells #[.int .i64 pk, .int .i64 pn, .float .f64 pf, .string ps, .slice pa pl pc] 26)) = wx at *
        obtain ⟨hx0, hx1, hx2, hx3, hx4⟩ := cells5 HXx.out
        go_wp2_with fail
        refine HCx.out.mono ?_
        rintro e w4 ⟨rfl, hb4⟩
        have HB4 := Lib.hid (HBE.out.trans ((HBx.out.trans (hb4.mono HBx.out.size)).mono HBE.out.size))
        clear hb4 hx0 hx1 hx2 hx3 hx4
        go_wp2_with fail
        go_roundw
        case rel =>
          refine ⟨m + 1, by omega, by go_num, ?_, HB4.out⟩
          rw [← HA2.out]
          go_num
        case measure => simp [RowKit.intOf]; omega
      · obtain rfl : m = l.length := by omega
        rw [List.take_length, ← HRR.out]
        go_wp2_with fail
        go_ret
        exact ⟨rfl, HBE.out⟩
set_option maxRecDepth 100000 in
set_option maxHeartbeats 4000000 in
theorem rcount_any (t : VT) : ∀ (v : VV) (S : Nat → Prop) (w : World), TRead w S t v → countT t ≤ 1000000 →
    Calls Tryz.prog 19 #[v.val] w fun e w' => e = .returned (.int .i64 (countT t)) ∧ Below w.heap.size w w' := by
  induction t using VT.ind with
  | _ k n f s l ih =>
    intro v S w hv hc
    have HV := Lib.hid hv
    have hval : v.val = .agg #[.int .i64 k, .int .i64 n, .float .f64 f, .string s, .slice v.a l.length v.c] := hv.val
    rw [hval]
    rw [countT] at hc ⊢
    have hle : ∀ m, 1 + countL (l.take m) ≤ 1000000 := fun m => by have := countL_le l m; omega
    have HI := Lib.hid ih
    have HLE := Lib.hid hle
    clear hv hval ih hle
    obtain ⟨va, hva⟩ : ∃ va, va = v.a := ⟨_, rfl⟩
    have HVA := Lib.hid hva
    rw [← hva]
    clear hva
    obtain ⟨R, hR⟩ : ∃ R, R = 1 + countL l := ⟨_, rfl⟩
    rw [← hR] at hc ⊢
    have HRR := Lib.hid hR
    clear hR
    have hlen : l.length ≤ v.c := by obtain ⟨vs, hr, _⟩ := HV.out.elems; obtain ⟨_, _, _, he, hle, _⟩ := hr; cases he; exact hle
    have hl0 : l.length ≤ maxLen := HV.out.small
    have HX : Hid ((w.alloc (.cells #[.int .i64 k, .int .i64 n, .float .f64 f, .string s, .slice va l.length v.c] 26)).heap[w.heap.size]? = some (.cells #[.int .i64 k, .int .i64 n, .float .f64 f, .string s, .slice va l.length v.c] 26 (0, 0))) := heap_alloc_new w _
    have HBel : Hid (Below w.heap.size w (w.alloc (.cells #[.int .i64 k, .int .i64 n, .float .f64 f, .string s, .slice va l.length v.c] 26))) := (Below.refl _ _).alloc (Nat.le_refl _) _
    unfold maxLen at hl0
    go_enter Tryz.func19, Tryz.ntmps19
    go_upto_region 1 with fail
    generalize w.alloc (.cells #[.int .i64 k, .int .i64 n, .float .f64 f, .string s, .slice va l.length v.c] 26) = wa at *
    go_wp2_with fail
    go_loopw [3, 4] (fun o i w' => ∃ m : Nat, m ≤ l.length ∧ i = .int .i64 m ∧ o = .int .i64 ((1 + countL (l.take m) : Nat) : Int) ∧ Hid (w'.heap[w.heap.size]? = some (.cells #[.int .i64 k, .int .i64 n, .float .f64 f, .string s, .slice va l.length v.c] 26 (0, 0))) ∧ Hid (Below w.heap.size w w')) (fun _ i _ => l.length - (RowKit.intOf i).toNat)
    case atStart => exact ⟨0, by omega, rfl, rfl, HX.out, HBel.out⟩
    case round =>
      obtain ⟨m, hm, rfl, rfl, HXr, HBE⟩ := hrel
      obtain ⟨x0, x1, x2, x3, x4⟩ := cells5 HXr.out
      by_cases hlt : m < l.length
      · obtain ⟨b, o, hb0, hcap, hblt, -, p, hp, hc0, hc1, hc2, hc3, hc4⟩ := (HV.out.later HBE.out).child m hlt
        obtain rfl : va = some ⟨b, o, none⟩ := HVA.out.trans hb0
        clear hb0
        have hm1 := HLE.out (m + 1)
        have htk := countL_take l m hlt
        have hin := List.getElem_mem hlt
        have HC : Hid (Calls Tryz.prog 19 #[p.val] wr fun e w' => e = .returned (.int .i64 (countT l[m])) ∧ Below wr.heap.size wr w') :=
          HI.out l[m] hin p S wr hp (by omega)
        obtain ⟨A, hA⟩ : ∃ A, A = 1 + countL (l.take m) := ⟨_, rfl⟩
        rw [← hA]
        have hA2 : A + countT l[m] = 1 + countL (l.take (m + 1)) := by omega
        have hA3 : A + countT l[m] ≤ 1000000 := by omega
        have HA2 := Lib.hid hA2
        generalize countT l[m] = x at *
        clear hp hin htk hm1 hA hA2
        obtain ⟨pk, pn, pf, ps, pa, pl, pc⟩ := p
        dsimp only [VV.val] at *
        go_wp2_with fail
        refine HC.out.mono ?_
        rintro e w4 ⟨rfl, hb4⟩
        have HB4 := Lib.hid (HBE.out.trans (hb4.mono HBE.out.size))
        have HX4 := Lib.hid ((hb4.block _ (lt_of_heap HXr.out)).trans HXr.out)
        clear hb4 x0 x1 x2 x3 x4 hc0 hc1 hc2 hc3 hc4
        go_wp2_with fail
        go_roundw
        case rel =>
          refine ⟨m + 1, by omega, by go_num, ?_, HX4.out, HB4.out⟩
          rw [← HA2.out]
          go_num
        case measure => simp [RowKit.intOf]; omega
      · obtain rfl : m = l.length := by omega
        rw [List.take_length, ← HRR.out]
        go_wp2_with fail
        go_ret
        exact ⟨rfl, HBE.out⟩
end Go.Proofs.YtpijpeocdlnhiaaGreatDoor
namespace Go.Proofs.YtpijpeocdlnhiaaGreatDoor
set_option linter.unusedVariables false
set_option linter.unusedSimpArgs false
open Go.RowKit

theorem low_toNat (x : Nat) (h : x < 128) : (((UInt8.ofNat x).toNat : Nat) : Int) = (x : Int) := by rw [UInt8.toNat_ofNat']; omega
theorem high_toNat (x : Nat) : (((UInt8.ofNat (x % 128 + 128)).toNat : Nat) : Int) = (x : Int) % 128 + 128 := by rw [UInt8.toNat_ofNat']; omega
def natV : Value → Nat
  | .int _ n => n.toNat
  | _ => 0
set_option maxRecDepth 100000 in
set_option maxHeartbeats 4000000 in
theorem ruint_any (x : Nat) (hx : x < 18446744073709551616) (w : World) : Calls Tryz.prog 75 #[.int .u64 x] w (BytesP w (uintL x)) := by
  obtain ⟨D, hD⟩ : ∃ D, D = uintL x := ⟨_, rfl⟩
  have hD10 : D.length ≤ 10 := by rw [hD]; exact uintL_ten hx
  rw [← hD]
  have HD := Lib.hid hD
  clear hD
  go_enter Tryz.func75, Tryz.ntmps75
  go_wp2_with fail
  go_loopw [0, 3] (fun i o w' => ∃ (y : Nat) (acc : List UInt8) (a : Option Addr) (c : Nat), y < 18446744073709551616 ∧ i = .int .u64 y ∧ o = .slice a acc.length c ∧ Hid (D = acc ++ uintL y) ∧ Hid (Row w' 5 1 (.slice a acc.length c) acc.length (byts acc) (fun b => w.heap.size ≤ b)) ∧ Hid (Below w.heap.size w w')) (fun i _ _ => natV i)
  case atStart => exact ⟨x, [], none, 0, hx, rfl, rfl, HD.out, Row.nil _ _ _ _, Below.refl _ _⟩
  case round =>
    obtain ⟨y, acc, a, c, hy, rfl, rfl, HL, HR, HBE⟩ := hrel
    have hpl : acc.length < 10 := by have h1 := uintL_pos y; have h2 := congrArg List.length HL.out; rw [List.length_append] at h2; omega
    have hs := HBE.out.size
    by_cases hlt : y < 128
    · have hb : ¬ ((y : Int) ≥ 128) := by omega
      have hFD : Hid (D = acc ++ [UInt8.ofNat y]) := by rw [Hid, HL.out, uintL_small hlt]
      have HV : Hid (byts (acc ++ [UInt8.ofNat y]) = byts acc ++ [.int .u8 y]) := by
        rw [Hid, byts_append]; show _ ++ [Value.int .u8 _] = _; rw [low_toNat y hlt]
      go_wp2_with (refine wpList_row elemU8 rfl rfl (S := fun b => w.heap.size ≤ b) (v := .slice a acc.length c) (n := acc.length) (xs := byts acc) rfl (HR.out.frame (fun k _ hk => Below.heap_alloc _ _ _ hk)) (y := .slice (some ⟨wr.heap.size, 0, none⟩) 1 1) (m := 1) (news := [.int .u8 y]) rfl (reads_one wr _ _) (one_of rfl) (by unfold maxLen; omega) (by omega) ?_
                   intro v5 w5 hr5 hch5
                   obtain ⟨a5, c5, rfl⟩ : ∃ a5 c5, v5 = .slice a5 (acc.length + 1) c5 := (by obtain ⟨-, a5, c5, h, -⟩ := hr5.reads; exact ⟨a5, c5, h⟩)
                   have HR5 := Lib.hid hr5
                   have HCH5 := Lib.hid hch5
                   clear hr5 hch5)
      go_ret
      have hl : D.length = acc.length + 1 := by rw [hFD.out]; simp
      unfold BytesP
      rw [hl]
      refine ⟨a5, c5, rfl, ?_, (HBE.out.alloc hs _).trans (HCH5.out.toBelow (B := w.heap.size) (by simp only [World.size_alloc]; omega) (fun n hn h => by omega))⟩
      rw [hFD.out, HV.out]
      exact HR5.out.mono (fun k hk => by rcases hk with hk | hk; exact hk; simp only [World.size_alloc] at hk; omega)
    · have hb : ((y : Int) ≥ 128) := by omega
      have HFD : Hid (D = (acc ++ [UInt8.ofNat (y % 128 + 128)]) ++ uintL (y / 128)) := by rw [Hid, HL.out, uintL_big hlt]; simp
      have HV : Hid (byts (acc ++ [UInt8.ofNat (y % 128 + 128)]) = byts acc ++ [.int .u8 ((y : Int) % 128 + 128)]) := by
        rw [Hid, byts_append]; show _ ++ [Value.int .u8 _] = _; rw [high_toNat y]
      go_wp2_with (refine wpList_row elemU8 rfl rfl (S := fun b => w.heap.size ≤ b) (v := .slice a acc.length c) (n := acc.length) (xs := byts acc) rfl (HR.out.frame (fun k _ hk => Below.heap_alloc _ _ _ hk)) (y := .slice (some ⟨wr.heap.size, 0, none⟩) 1 1) (m := 1) (news := [.int .u8 ((y : Int) % 128 + 128)]) rfl (reads_one wr _ _) (one_of rfl) (by unfold maxLen; omega) (by omega) ?_
                   intro v5 w5 hr5 hch5
                   obtain ⟨a5, c5, rfl⟩ : ∃ a5 c5, v5 = .slice a5 (acc.length + 1) c5 := (by obtain ⟨-, a5, c5, h, -⟩ := hr5.reads; exact ⟨a5, c5, h⟩)
                   have HR5 := Lib.hid hr5
                   have HCH5 := Lib.hid hch5
                   clear hr5 hch5)
      go_roundw
      case rel =>
        have hln : (acc ++ [UInt8.ofNat (y % 128 + 128)]).length = acc.length + 1 := by simp
        refine ⟨y / 128, acc ++ [UInt8.ofNat (y % 128 + 128)], a5, c5, by omega, rfl, by rw [hln], HFD.out, ?_, (HBE.out.alloc hs _).trans (HCH5.out.toBelow (B := w.heap.size) (by simp only [World.size_alloc]; omega) (fun n hn h => by omega))⟩
        rw [Hid, hln, HV.out]
        exact HR5.out.mono (fun k hk => by rcases hk with hk | hk; exact hk; simp only [World.size_alloc] at hk; omega)
      case measure =>
        show natV (.int _ _) < natV (.int _ _)
        unfold natV
        dsimp only
        omega
set_option maxRecDepth 100000 in
set_option maxHeartbeats 1000000 in
theorem rint_any (n : Int) (hn : -9223372036854775808 ≤ n ∧ n ≤ 9223372036854775807) (w : World) : Calls Tryz.prog 76 #[.int .i64 n] w (BytesP w (uintL (zz n))) := by
  have HU := Lib.hid (ruint_any (zz n) (zz_lt n hn) w)
  by_cases h0 : 0 ≤ n
  · have hz : (zz n : Int) = n * 2 := by unfold zz; rw [if_pos h0]; omega
    generalize zz n = z at *
    rw [hz] at HU
    clear hz
    go_enter Tryz.func76, Tryz.ntmps76
    go_wp2_with fail
    refine HU.out.mono ?_
    rintro e w2 ⟨a, c, rfl, hr, hb⟩
    go_wp2
    go_ret
    exact ⟨a, c, rfl, hr, hb⟩
  · have hz : (zz n : Int) = (-(n + 1)) * 2 + 1 := by unfold zz; rw [if_neg h0]; omega
    generalize zz n = z at *
    rw [hz] at HU
    clear hz
    go_enter Tryz.func76, Tryz.ntmps76
    go_wp2_with fail
    refine HU.out.mono ?_
    rintro e w2 ⟨a, c, rfl, hr, hb⟩
    go_wp2
    go_ret
    exact ⟨a, c, rfl, hr, hb⟩
set_option maxRecDepth 100000 in
set_option maxHeartbeats 1000000 in
theorem rbytes_any (sa : Option Addr) (sc : Nat) (l : List UInt8) (w : World) (h : Reads w (.slice sa l.length sc) l.length 1 (byts l)) (hl : l.length ≤ 1000000) : Calls Tryz.prog 77 #[.slice sa l.length sc] w (BytesP w (uintL l.length ++ l)) := by
  have HU := Lib.hid (ruint_any l.length (by omega) w)
  have hU10 := uintL_ten (x := l.length) (by omega)
  have HBA := Lib.hid (byts_append (uintL l.length) l)
  have hl2 : (uintL l.length ++ l).length = (uintL l.length).length + l.length := List.length_append
  have HR := Lib.hid h
  unfold BytesP
  rw [hl2, HBA.out]
  clear hl2 h
  generalize uintL l.length = U at *
  go_enter Tryz.func77, Tryz.ntmps77
  go_wp2_with fail
  refine HU.out.mono ?_
  rintro e w2 ⟨a, c, rfl, hr, hb⟩
  have HR2 := Lib.hid (HR.out.later hb)
  go_wp2_with (refine wpList_row elemU8 rfl rfl (S := fun k => w.heap.size ≤ k) (v := .slice a U.length c) (n := U.length) (xs := byts U) rfl hr (y := .slice sa l.length sc) (m := l.length) (news := byts l) rfl HR2.out (byts_one l) (by unfold maxLen; omega) (by omega) ?_
               intro v5 w5 hr5 hch5
               obtain ⟨a5, c5, rfl⟩ : ∃ a5 c5, v5 = .slice a5 (U.length + l.length) c5 := (by obtain ⟨-, a5, c5, h, -⟩ := hr5.reads; exact ⟨a5, c5, h⟩)
               have HR5 := Lib.hid hr5
               have HCH5 := Lib.hid hch5
               clear hr5 hch5)
  go_ret
  have hb' := hb.size
  exact ⟨a5, c5, rfl, HR5.out.mono (fun k hk => by rcases hk with hk | hk; exact hk; omega), hb.trans (HCH5.out.toBelow (B := w.heap.size) hb.size (fun n hn h => by omega))⟩
end Go.Proofs.YtpijpeocdlnhiaaGreatDoor
namespace Go.Proofs.YtpijpeocdlnhiaaGreatDoor
set_option linter.unusedVariables false
set_option linter.unusedSimpArgs false
open Go.RowKit

theorem bytesP_of {w w' : World} {U B : List UInt8} {a : Option Addr} {c : Nat} {e : Ending} (hA : byts (U ++ B) = byts U ++ byts B) (hl : (U ++ B).length = U.length + B.length) (he : e = .returned (.slice a (U.length + B.length) c))
    (hr : Row w' 5 1 (.slice a (U.length + B.length) c) (U.length + B.length) (byts U ++ byts B) (fun k => w.heap.size ≤ k)) (hb : Below w.heap.size w w') : BytesP w (U ++ B) e w' := by
  unfold BytesP
  rw [hl, hA]
  exact ⟨a, c, he, hr, hb⟩

set_option maxRecDepth 100000 in
set_option maxHeartbeats 4000000 in
theorem rform_0 (n : Int) (f : Nat) (s : ByteArray) (a : Option Addr) (l c : Nat) (w : World) :
    Calls Tryz.prog 47 #[.agg #[.int .i64 0, .int .i64 n, .float .f64 f, .string s, .slice a l c]] w (BytesP w (uintL 0)) := by
  have HU : Hid (∀ W, Calls Tryz.prog 75 #[.int .u64 0] W (BytesP W (uintL 0))) := fun W => ruint_any 0 (by decide) W
  have hU10 := uintL_ten (x := 0) (by decide)
  have HXx : Hid ((w.alloc (.cells #[.int .i64 0, .int .i64 n, .float .f64 f, .string s, .slice a l c] 26)).heap[w.heap.size]? = some (.cells #[.int .i64 0, .int .i64 n, .float .f64 f, .string s, .slice a l c] 26 (0, 0))) := heap_alloc_new w _
  have HBx : Hid (Below w.heap.size w (w.alloc (.cells #[.int .i64 0, .int .i64 n, .float .f64 f, .string s, .slice a l c] 26))) := (Below.refl _ _).alloc (Nat.le_refl _) _
  have HSx : Hid ((w.alloc (.cells #[.int .i64 0, .int .i64 n, .float .f64 f, .string s, .slice a l c] 26)).heap.size = w.heap.size + 1) := by simp [Hid]
  generalize uintL 0 = U at *
  go_enter Tryz.func47, Tryz.ntmps47
  go_upto_region 1 with fail
  generalize (w.alloc (.cells #[.int .i64 0, .int .i64 n, .float .f64 f, .string s, .slice a l c] 26)) = wx at *
  obtain ⟨hx0, hx1, hx2, hx3, hx4⟩ := cells5 HXx.out
  go_wp2_with fail
  refine (HU.out _).mono ?_
  rintro e w2 ⟨a2, c2, rfl, hr, hb⟩
  have HR2 : Hid (Row w2 5 1 (.slice a2 U.length c2) U.length (byts U) (fun k => w.heap.size + 1 ≤ k)) := hr.mono (fun k hk => by have := HSx.out; omega)
  have HB2 : Hid (Below w.heap.size w w2) := HBx.out.trans (hb.mono HBx.out.size)
  have HX2 := Lib.hid ((hb.block _ (lt_of_heap HXx.out)).trans HXx.out)
  have HS2 : Hid (w.heap.size + 1 ≤ w2.heap.size) := by have h1 := HSx.out; have h2 := hb.size; rw [Hid]; omega
  clear hr hb hx0 hx1 hx2 hx3 hx4
  obtain ⟨hx0, hx1, hx2, hx3, hx4⟩ := cells5 HX2.out
  go_wp2_with fail
  go_ret
  exact ⟨a2, c2, rfl, HR2.out.mono (fun k hk => by omega), HB2.out⟩

set_option maxRecDepth 100000 in
set_option maxHeartbeats 4000000 in
theorem rform_1 (n : Int) (f : Nat) (s : ByteArray) (a : Option Addr) (l c : Nat) (w : World) (hn : -9223372036854775808 ≤ n ∧ n ≤ 9223372036854775807) :
    Calls Tryz.prog 47 #[.agg #[.int .i64 1, .int .i64 n, .float .f64 f, .string s, .slice a l c]] w (BytesP w (uintL 1 ++ uintL (zz n))) := by
  have HU : Hid (∀ W, Calls Tryz.prog 75 #[.int .u64 1] W (BytesP W (uintL 1))) := fun W => ruint_any 1 (by decide) W
  have hU10 := uintL_ten (x := 1) (by decide)
  have HXx : Hid ((w.alloc (.cells #[.int .i64 1, .int .i64 n, .float .f64 f, .string s, .slice a l c] 26)).heap[w.heap.size]? = some (.cells #[.int .i64 1, .int .i64 n, .float .f64 f, .string s, .slice a l c] 26 (0, 0))) := heap_alloc_new w _
  have HBx : Hid (Below w.heap.size w (w.alloc (.cells #[.int .i64 1, .int .i64 n, .float .f64 f, .string s, .slice a l c] 26))) := (Below.refl _ _).alloc (Nat.le_refl _) _
  have HSx : Hid ((w.alloc (.cells #[.int .i64 1, .int .i64 n, .float .f64 f, .string s, .slice a l c] 26)).heap.size = w.heap.size + 1) := by simp [Hid]
  have HI := Lib.hid (rint_any n hn)
  have hB10 := uintL_ten (zz_lt n hn)
  generalize uintL (zz n) = B at *
  have HBA := Lib.hid (byts_append (uintL 1) B)
  have hl2 : (uintL 1 ++ B).length = (uintL 1).length + B.length := List.length_append
  generalize uintL 1 = U at *
  go_enter Tryz.func47, Tryz.ntmps47
  go_upto_region 1 with fail
  generalize (w.alloc (.cells #[.int .i64 1, .int .i64 n, .float .f64 f, .string s, .slice a l c] 26)) = wx at *
  obtain ⟨hx0, hx1, hx2, hx3, hx4⟩ := cells5 HXx.out
  go_wp2_with fail
  refine (HU.out _).mono ?_
  rintro e w2 ⟨a2, c2, rfl, hr, hb⟩
  have HR2 : Hid (Row w2 5 1 (.slice a2 U.length c2) U.length (byts U) (fun k => w.heap.size + 1 ≤ k)) := hr.mono (fun k hk => by have := HSx.out; omega)
  have HB2 : Hid (Below w.heap.size w w2) := HBx.out.trans (hb.mono HBx.out.size)
  have HX2 := Lib.hid ((hb.block _ (lt_of_heap HXx.out)).trans HXx.out)
  have HS2 : Hid (w.heap.size + 1 ≤ w2.heap.size) := by have h1 := HSx.out; have h2 := hb.size; rw [Hid]; omega
  clear hr hb hx0 hx1 hx2 hx3 hx4
  obtain ⟨hx0, hx1, hx2, hx3, hx4⟩ := cells5 HX2.out
  go_wp2_with fail
  refine (HI.out _).mono ?_
  rintro e w3 ⟨a3, c3, rfl, hr3, hb3⟩
  have HB3 := Lib.hid hb3
  have HY3 := Lib.hid hr3.reads
  clear hr3 hb3 hx0 hx1 hx2 hx3 hx4
  go_wp2_with (refine wpList_row elemU8 rfl rfl (S := fun k => w.heap.size + 1 ≤ k) (v := .slice a2 U.length c2) (n := U.length) (xs := byts U) rfl (HR2.out.frame (fun k _ hk => HB3.out.block k hk)) (y := .slice a3 B.length c3) (m := B.length) (news := byts B) rfl HY3.out (byts_one B) (by unfold maxLen; omega) (by omega) ?_
               intro v5 w5 hr5 hch5
               obtain ⟨a5, c5, rfl⟩ : ∃ a5 c5, v5 = .slice a5 (U.length + B.length) c5 := (by obtain ⟨-, a5, c5, h, -⟩ := hr5.reads; exact ⟨a5, c5, h⟩)
               have HR5 := Lib.hid hr5
               have HCH5 := Lib.hid hch5
               clear hr5 hch5)
  go_ret
  have h2 := HS2.out
  have h3 := HB3.out.size
  have h4 := HB2.out.size
  exact bytesP_of HBA.out hl2 rfl (HR5.out.mono (fun k hk => by rcases hk with hk | hk <;> omega)) ((HB2.out.trans (HB3.out.mono h4)).trans (HCH5.out.toBelow (B := w.heap.size) (by omega) (fun n hn h => by omega)))

set_option maxRecDepth 100000 in
set_option maxHeartbeats 4000000 in
theorem rform_3 (n : Int) (f : Nat) (s : ByteArray) (a : Option Addr) (l c : Nat) (w : World) (hs : s.size ≤ 1000000) :
    Calls Tryz.prog 47 #[.agg #[.int .i64 3, .int .i64 n, .float .f64 f, .string s, .slice a l c]] w (BytesP w (uintL 3 ++ (uintL s.size ++ s.data.toList))) := by
  have HU : Hid (∀ W, Calls Tryz.prog 75 #[.int .u64 3] W (BytesP W (uintL 3))) := fun W => ruint_any 3 (by decide) W
  have hU10 := uintL_ten (x := 3) (by decide)
  have HXx : Hid ((w.alloc (.cells #[.int .i64 3, .int .i64 n, .float .f64 f, .string s, .slice a l c] 26)).heap[w.heap.size]? = some (.cells #[.int .i64 3, .int .i64 n, .float .f64 f, .string s, .slice a l c] 26 (0, 0))) := heap_alloc_new w _
  have HBx : Hid (Below w.heap.size w (w.alloc (.cells #[.int .i64 3, .int .i64 n, .float .f64 f, .string s, .slice a l c] 26))) := (Below.refl _ _).alloc (Nat.le_refl _) _
  have HSx : Hid ((w.alloc (.cells #[.int .i64 3, .int .i64 n, .float .f64 f, .string s, .slice a l c] 26)).heap.size = w.heap.size + 1) := by simp [Hid]
  have HBB := Lib.hid (fun (sa : Option Addr) (sc : Nat) (W : World) (h : Reads W (.slice sa s.data.toList.length sc) s.data.toList.length 1 (byts s.data.toList)) => rbytes_any sa sc s.data.toList W h (by rw [← Lib.size_eq]; exact hs))
  have hBl : (uintL s.size ++ s.data.toList).length ≤ 1000010 := by have := uintL_ten (x := s.size) (by omega); rw [List.length_append, bsize]; omega
  rw [← Lib.size_eq] at HBB
  generalize uintL s.size ++ s.data.toList = B at *
  have HBA := Lib.hid (byts_append (uintL 3) B)
  have hl2 : (uintL 3 ++ B).length = (uintL 3).length + B.length := List.length_append
  generalize uintL 3 = U at *
  go_enter Tryz.func47, Tryz.ntmps47
  go_upto_region 1 with fail
  generalize (w.alloc (.cells #[.int .i64 3, .int .i64 n, .float .f64 f, .string s, .slice a l c] 26)) = wx at *
  obtain ⟨hx0, hx1, hx2, hx3, hx4⟩ := cells5 HXx.out
  go_wp2_with fail
  refine (HU.out _).mono ?_
  rintro e w2 ⟨a2, c2, rfl, hr, hb⟩
  have HR2 : Hid (Row w2 5 1 (.slice a2 U.length c2) U.length (byts U) (fun k => w.heap.size + 1 ≤ k)) := hr.mono (fun k hk => by have := HSx.out; omega)
  have HB2 : Hid (Below w.heap.size w w2) := HBx.out.trans (hb.mono HBx.out.size)
  have HX2 := Lib.hid ((hb.block _ (lt_of_heap HXx.out)).trans HXx.out)
  have HS2 : Hid (w.heap.size + 1 ≤ w2.heap.size) := by have h1 := HSx.out; have h2 := hb.size; rw [Hid]; omega
  clear hr hb hx0 hx1 hx2 hx3 hx4
  obtain ⟨hx0, hx1, hx2, hx3, hx4⟩ := cells5 HX2.out
  have hcv := run_bytes_of_string (P := Tryz.prog) w2 9 33 5 s Tryz.underlying9 Tryz.underlying33 Tryz.underlying5
  have hge := grownCap_ge w2 s.size 0 5
  have HRB := Lib.hid (reads_bytes w2 s _ ((bytesRow s (grownCap w2 s.size 0 5)).size, (bytesRow s (grownCap w2 s.size 0 5)).size + 1) hge)
  have hb3 : Below w2.heap.size w2 (w2.drew.alloc (.cells (bytesRow s (grownCap w2 s.size 0 5)) 5 ((bytesRow s (grownCap w2 s.size 0 5)).size, (bytesRow s (grownCap w2 s.size 0 5)).size + 1))) := ((Below.refl _ _).drew).alloc (Nat.le_refl _) _
  have HB33 := Lib.hid hb3
  have HBs := Lib.hid (HBB.out _ _ _ HRB.out)
  clear hb3 HRB hge
  generalize (w2.drew.alloc (.cells (bytesRow s (grownCap w2 s.size 0 5)) 5 ((bytesRow s (grownCap w2 s.size 0 5)).size, (bytesRow s (grownCap w2 s.size 0 5)).size + 1))) = w3 at *
  generalize grownCap w2 s.size 0 5 = cp at *
  go_wp2_with fail
  refine HBs.out.mono ?_
  rintro e w4 ⟨a3, c3, rfl, hr3, hb4⟩
  have HB3 := Lib.hid (HB33.out.trans (hb4.mono HB33.out.size))
  have HY3 := Lib.hid hr3.reads
  clear hr3 hb4 hx0 hx1 hx2 hx3 hx4 hcv
  go_wp2_with (refine wpList_row elemU8 rfl rfl (S := fun k => w.heap.size + 1 ≤ k) (v := .slice a2 U.length c2) (n := U.length) (xs := byts U) rfl (HR2.out.frame (fun k _ hk => HB3.out.block k hk)) (y := .slice a3 B.length c3) (m := B.length) (news := byts B) rfl HY3.out (byts_one B) (by unfold maxLen; omega) (by omega) ?_
               intro v5 w5 hr5 hch5
               obtain ⟨a5, c5, rfl⟩ : ∃ a5 c5, v5 = .slice a5 (U.length + B.length) c5 := (by obtain ⟨-, a5, c5, h, -⟩ := hr5.reads; exact ⟨a5, c5, h⟩)
               have HR5 := Lib.hid hr5
               have HCH5 := Lib.hid hch5
               clear hr5 hch5)
  go_ret
  have h2 := HS2.out
  have h3 := HB3.out.size
  have h4 := HB2.out.size
  exact bytesP_of HBA.out hl2 rfl (HR5.out.mono (fun k hk => by rcases hk with hk | hk <;> omega)) ((HB2.out.trans (HB3.out.mono h4)).trans (HCH5.out.toBelow (B := w.heap.size) (by omega) (fun n hn h => by omega)))

end Go.Proofs.YtpijpeocdlnhiaaGreatDoor
namespace Go.Proofs.YtpijpeocdlnhiaaGreatDoor
set_option linter.unusedVariables false
set_option linter.unusedSimpArgs false
open Go.RowKit

def RFormC (t : VT) : Prop := ∀ (v : VV) (S : Nat → Prop) (w : World), TRead w S t v → Calls Tryz.prog 47 #[v.val] w (BytesP w (formT t))
set_option maxRecDepth 100000 in
set_option maxHeartbeats 4000000 in
theorem rform_4 (n : Int) (f : Nat) (s : ByteArray) (l : List VT) (hl : l.length ≤ 1000000) (htl : (formT (.node 4 n f s l)).length ≤ 1000000) (IH : ∀ t ∈ l, RFormC t) (v : VV) (S : Nat → Prop) (w : World) (hv : TRead w S (.node 4 n f s l) v) :
    Calls Tryz.prog 47 #[v.val] w (BytesP w (formT (.node 4 n f s l))) := by
  have HV := Lib.hid hv
  have hval : v.val = .agg #[.int .i64 4, .int .i64 n, .float .f64 f, .string s, .slice v.a l.length v.c] := hv.val
  have hlen : l.length ≤ v.c := by obtain ⟨vs, hr, _⟩ := hv.elems; obtain ⟨_, _, _, he, hle, _⟩ := hr; cases he; exact hle
  rw [hval]
  have HI := Lib.hid IH
  clear hv hval IH
  obtain ⟨va, hva⟩ : ∃ va, va = v.a := ⟨_, rfl⟩
  have HVA := Lib.hid hva
  rw [← hva]
  clear hva
  have hform : formT (.node 4 n f s l) = (uintL 4 ++ uintL l.length) ++ formsT l := by rw [formT, if_pos rfl, List.append_assoc]; rfl
  obtain ⟨R, hR⟩ : ∃ R, R = formT (.node 4 n f s l) := ⟨_, rfl⟩
  rw [← hR] at htl hform ⊢
  clear hR
  have HU : Hid (∀ W, Calls Tryz.prog 75 #[.int .u64 4] W (BytesP W (uintL 4))) := fun W => ruint_any 4 (by decide) W
  have HU2 := Lib.hid (ruint_any l.length (by omega))
  have hU10 := uintL_ten (x := 4) (by decide)
  have hU20 := uintL_ten (x := l.length) (by omega)
  have HTL : Hid (∀ m, ((uintL 4 ++ uintL l.length) ++ formsT (l.take m)).length ≤ 1000000) := fun m => by
    have := formsT_le l m
    rw [hform, List.length_append] at htl
    rw [List.length_append]
    omega
  have HRR := Lib.hid hform
  clear htl hform
  obtain ⟨Y, hY⟩ : ∃ Y, Y = uintL l.length := ⟨_, rfl⟩
  rw [← hY] at HU2 hU20 HTL HRR
  clear hY
  generalize uintL 4 = U at *
  have HXx : Hid ((w.alloc (.cells #[.int .i64 4, .int .i64 n, .float .f64 f, .string s, .slice va l.length v.c] 26)).heap[w.heap.size]? = some (.cells #[.int .i64 4, .int .i64 n, .float .f64 f, .string s, .slice va l.length v.c] 26 (0, 0))) := heap_alloc_new w _
  have HBx : Hid (Below w.heap.size w (w.alloc (.cells #[.int .i64 4, .int .i64 n, .float .f64 f, .string s, .slice va l.length v.c] 26))) := (Below.refl _ _).alloc (Nat.le_refl _) _
  have HSx : Hid ((w.alloc (.cells #[.int .i64 4, .int .i64 n, .float .f64 f, .string s, .slice va l.length v.c] 26)).heap.size = w.heap.size + 1) := by simp [Hid]
  go_enter Tryz.func47, Tryz.ntmps47
  go_upto_region 1 with fail
  generalize (w.alloc (.cells #[.int .i64 4, .int .i64 n, .float .f64 f, .string s, .slice va l.length v.c] 26)) = wx at *
  obtain ⟨hx0, hx1, hx2, hx3, hx4⟩ := cells5 HXx.out
  go_wp2_with fail
  refine (HU.out _).mono ?_
  rintro e w2 ⟨a2, c2, rfl, hr, hb⟩
  have HR2 : Hid (Row w2 5 1 (.slice a2 U.length c2) U.length (byts U) (fun k => w.heap.size + 1 ≤ k)) := hr.mono (fun k hk => by have := HSx.out; omega)
  have HB2 : Hid (Below w.heap.size w w2) := HBx.out.trans (hb.mono HBx.out.size)
  have HX2 := Lib.hid ((hb.block _ (lt_of_heap HXx.out)).trans HXx.out)
  have HS2 : Hid (w.heap.size + 1 ≤ w2.heap.size) := by have h1 := HSx.out; have h2 := hb.size; rw [Hid]; omega
  clear hr hb hx0 hx1 hx2 hx3 hx4
  obtain ⟨hx0, hx1, hx2, hx3, hx4⟩ := cells5 HX2.out
  go_wp2_with fail
  refine (HU2.out _).mono ?_
  rintro e w3 ⟨a3, c3, rfl, hr3, hb3⟩
  have HB3 := Lib.hid hb3
  have HY3 := Lib.hid hr3.reads
  have HX3 := Lib.hid ((hb3.block _ (lt_of_heap HX2.out)).trans HX2.out)
  clear hr3 hb3 hx0 hx1 hx2 hx3 hx4
  go_wp2_with (refine wpList_row elemU8 rfl rfl (S := fun k => w.heap.size + 1 ≤ k) (v := .slice a2 U.length c2) (n := U.length) (xs := byts U) rfl (HR2.out.frame (fun k _ hk => HB3.out.block k hk)) (y := .slice a3 Y.length c3) (m := Y.length) (news := byts Y) rfl HY3.out (byts_one Y) (by unfold maxLen; omega) (by omega) ?_
               intro v5 w5 hr5 hch5
               obtain ⟨a5, c5, rfl⟩ : ∃ a5 c5, v5 = .slice a5 (U.length + Y.length) c5 := (by obtain ⟨-, a5, c5, h, -⟩ := hr5.reads; exact ⟨a5, c5, h⟩)
               have HR5 := Lib.hid hr5
               have HCH5 := Lib.hid hch5
               have HX5 := Lib.hid (hch5.heap HX3.out (by omega))
               clear hr5 hch5)
  have hl2 : (U ++ Y).length = U.length + Y.length := List.length_append
  have h2 := HS2.out
  have h3 := HB3.out.size
  have h4 := HB2.out.size
  have h5 := HCH5.out.size
  have HR6 : Hid (Row w5 5 1 (.slice a5 (U ++ Y).length c5) (U ++ Y).length (byts (U ++ Y)) (fun k => w.heap.size + 1 ≤ k)) := by
    rw [Hid, hl2, byts_append]
    exact HR5.out.mono (fun k hk => by rcases hk with hk | hk <;> omega)
  have HB6 : Hid (Below w.heap.size w w5) := (HB2.out.trans (HB3.out.mono h4)).trans (HCH5.out.toBelow (B := w.heap.size) (by omega) (fun n hn h => by omega))
  have HS6 : Hid (w.heap.size + 1 ≤ w5.heap.size) := by rw [Hid]; omega
  rw [← hl2]
  clear HR5 HCH5 h2 h3 h4 h5 hl2
  obtain ⟨A, hA⟩ : ∃ A, A = U ++ Y := ⟨_, rfl⟩
  rw [← hA] at HR6 HTL HRR ⊢
  clear hA hU10 hU20 HU HU2
  go_loopw [3, 6] (fun o i w' => ∃ (m : Nat) (acc : List UInt8) (a : Option Addr) (c : Nat), m ≤ l.length ∧ i = .int .i64 m ∧ o = .slice a acc.length c ∧ Hid (acc = A ++ formsT (l.take m)) ∧ Hid (Row w' 5 1 (.slice a acc.length c) acc.length (byts acc) (fun b => w.heap.size + 1 ≤ b)) ∧ Hid (w'.heap[w.heap.size]? = some (.cells #[.int .i64 4, .int .i64 n, .float .f64 f, .string s, .slice va l.length v.c] 26 (0, 0))) ∧ Hid (Below w.heap.size w w') ∧ Hid (w.heap.size + 1 ≤ w'.heap.size)) (fun _ i _ => l.length - (RowKit.intOf i).toNat)
  case atStart => exact ⟨0, A, a5, c5, by omega, rfl, rfl, by rw [Hid, List.take_zero, formsT, List.append_nil], HR6.out, HX5.out, HB6.out, HS6.out⟩
  case round =>
    obtain ⟨m, acc, a, c, hm, rfl, rfl, HA, HR, HXr, HBE, HSZ⟩ := hrel
    obtain ⟨hx0, hx1, hx2, hx3, hx4⟩ := cells5 HXr.out
    by_cases hlt : m < l.length
    · obtain ⟨b, o, hb0, hcap, hblt, -, p, hp, hc0, hc1, hc2, hc3, hc4⟩ := (HV.out.later HBE.out).child m hlt
      obtain rfl : va = some ⟨b, o, none⟩ := HVA.out.trans hb0
      clear hb0
      have hin := List.getElem_mem hlt
      have HC : Hid (Calls Tryz.prog 47 #[p.val] wr (BytesP wr (formT l[m]))) := HI.out l[m] hin p S wr hp
      have HA2 : Hid (acc ++ formT l[m] = A ++ formsT (l.take (m + 1))) := by rw [Hid, HA.out, formsT_take l m hlt, List.append_assoc]
      have hle : acc.length + (formT l[m]).length ≤ 1000000 := by
        have h := HTL.out (m + 1)
        rw [← HA2.out, List.length_append] at h
        exact h
      generalize formT l[m] = tx at *
      clear hp hin HA
      obtain ⟨pk, pn, pf, ps, pa, pl, pc⟩ := p
      dsimp only [VV.val] at *
      go_wp2_with fail
      refine HC.out.mono ?_
      rintro e w4 ⟨a2, c2, rfl, hr2, hb4⟩
      have HB4 := Lib.hid hb4
      have HR4 := Lib.hid (HR.out.frame (fun k hk hl => hb4.block k hl))
      have HX4 := Lib.hid ((hb4.block _ (lt_of_heap HXr.out)).trans HXr.out)
      have HY4 := Lib.hid hr2.reads
      clear hb4 hr2 hx0 hx1 hx2 hx3 hx4 hc0 hc1 hc2 hc3 hc4
      go_wp2_with (refine wpList_row elemU8 rfl rfl (S := fun b => w.heap.size + 1 ≤ b) (v := .slice a acc.length c) (n := acc.length) (xs := byts acc) rfl HR4.out (y := .slice a2 tx.length c2) (m := tx.length) (news := byts tx) rfl HY4.out (byts_one tx) (by unfold maxLen; omega) (by omega) ?_
                   intro v5 w5 hr5 hch5
                   obtain ⟨a5, c5, rfl⟩ : ∃ a5 c5, v5 = .slice a5 (acc.length + tx.length) c5 := (by obtain ⟨-, a5, c5, h, -⟩ := hr5.reads; exact ⟨a5, c5, h⟩)
                   have HR5 := Lib.hid hr5
                   have HCH5 := Lib.hid hch5
                   have HX5 := Lib.hid (hch5.heap HX4.out (by omega))
                   clear hr5 hch5)
      go_roundw
      case rel =>
        have hln : (acc ++ tx).length = acc.length + tx.length := List.length_append
        have h4 := HB4.out.size
        have h5 := HSZ.out
        have h6 := HBE.out.size
        refine ⟨m + 1, acc ++ tx, a5, c5, by omega, by go_num, by rw [hln], HA2.out, ?_, HX5.out, ?_, ?_⟩
        · rw [Hid, hln, byts_append]
          exact HR5.out.mono (fun k hk => by rcases hk with hk | hk; exact hk; omega)
        · exact (HBE.out.trans (HB4.out.mono HBE.out.size)).trans (HCH5.out.toBelow (B := w.heap.size) (by omega) (fun n hn h => by omega))
        · have h7 := HCH5.out.size
          rw [Hid]
          omega
      case measure => simp [RowKit.intOf]; omega
    · obtain rfl : m = l.length := by omega
      rw [List.take_length] at HA
      obtain rfl : acc = R := HA.out.trans HRR.out.symm
      go_wp2_with fail
      go_ret
      exact ⟨a, c, rfl, HR.out.mono (fun k hk => by omega), HBE.out⟩
end Go.Proofs.YtpijpeocdlnhiaaGreatDoor
namespace Go.Proofs.YtpijpeocdlnhiaaGreatDoor
set_option linter.unusedVariables false
set_option linter.unusedSimpArgs false
open Go.RowKit

theorem and_low (a : Nat) (ha : a < 18446744073709551616) : bits .and .u64 (a : Int) 255 = ((a % 256 : Nat) : Int) := by
  have h := (bits_nat .u64 64 (by decide) (fun n h0 h1 => by rw [IntKind.wrap_u64]; omega) a 255 ha (by decide)).1
  have e : a &&& 255 = a % 256 := Nat.and_two_pow_sub_one_eq_mod a 8
  rw [← e]
  exact h
set_option maxRecDepth 100000 in
set_option maxHeartbeats 4000000 in
theorem rform_2 (n : Int) (f : Nat) (s : ByteArray) (a : Option Addr) (l c : Nat) (w : World) (hf : f < 18446744073709551616) :
    Calls Tryz.prog 47 #[.agg #[.int .i64 2, .int .i64 n, .float .f64 f, .string s, .slice a l c]] w (BytesP w (uintL 2 ++ beN (canonB f) 8)) := by
  have HU : Hid (∀ W, Calls Tryz.prog 75 #[.int .u64 2] W (BytesP W (uintL 2))) := fun W => ruint_any 2 (by decide) W
  have hU10 := uintL_ten (x := 2) (by decide)
  have HXx : Hid ((w.alloc (.cells #[.int .i64 2, .int .i64 n, .float .f64 f, .string s, .slice a l c] 26)).heap[w.heap.size]? = some (.cells #[.int .i64 2, .int .i64 n, .float .f64 f, .string s, .slice a l c] 26 (0, 0))) := heap_alloc_new w _
  have HBx : Hid (Below w.heap.size w (w.alloc (.cells #[.int .i64 2, .int .i64 n, .float .f64 f, .string s, .slice a l c] 26))) := (Below.refl _ _).alloc (Nat.le_refl _) _
  have HSx : Hid ((w.alloc (.cells #[.int .i64 2, .int .i64 n, .float .f64 f, .string s, .slice a l c] 26)).heap.size = w.heap.size + 1) := by simp [Hid]
  have HNB := Lib.hid (rbits_any f)
  have hcb : canonB f < 18446744073709551616 := canon_lt f hf
  generalize canonB f = cb at *
  generalize uintL 2 = U at *
  go_enter Tryz.func47, Tryz.ntmps47
  go_upto_region 1 with fail
  generalize (w.alloc (.cells #[.int .i64 2, .int .i64 n, .float .f64 f, .string s, .slice a l c] 26)) = wx at *
  obtain ⟨hx0, hx1, hx2, hx3, hx4⟩ := cells5 HXx.out
  go_wp2_with fail
  refine (HU.out _).mono ?_
  rintro e w2 ⟨a2, c2, rfl, hr, hb⟩
  have HR2 : Hid (Row w2 5 1 (.slice a2 U.length c2) U.length (byts U) (fun k => w.heap.size + 1 ≤ k)) := hr.mono (fun k hk => by have := HSx.out; omega)
  have HB2 : Hid (Below w.heap.size w w2) := HBx.out.trans (hb.mono HBx.out.size)
  have HX2 := Lib.hid ((hb.block _ (lt_of_heap HXx.out)).trans HXx.out)
  have HS2 : Hid (w.heap.size + 1 ≤ w2.heap.size) := by have h1 := HSx.out; have h2 := hb.size; rw [Hid]; omega
  clear hr hb hx0 hx1 hx2 hx3 hx4
  obtain ⟨hx0, hx1, hx2, hx3, hx4⟩ := cells5 HX2.out
  go_wp2_with fail
  refine (HNB.out _).mono ?_
  rintro e w3 ⟨rfl, rfl⟩
  clear hx0 hx1 hx2 hx3 hx4
  go_wp2_with fail
  go_loopw [3, 5] (fun o i w' => ∃ (m : Nat) (acc : List UInt8) (a : Option Addr) (c : Nat), m ≤ 8 ∧ i = .int .i64 (7 - (m : Int)) ∧ o = .slice a acc.length c ∧ Hid (acc = U ++ beN cb m) ∧ Hid (Row w' 5 1 (.slice a acc.length c) acc.length (byts acc) (fun b => w.heap.size + 1 ≤ b)) ∧ Hid (Below w.heap.size w w') ∧ Hid (w.heap.size + 1 ≤ w'.heap.size)) (fun _ i _ => (RowKit.intOf i + 1).toNat)
  case atStart => exact ⟨0, U, a2, c2, by omega, rfl, rfl, by rw [Hid]; simp [beN], HR2.out, HB2.out, HS2.out⟩
  case round =>
    obtain ⟨m, acc, a, c, hm, rfl, rfl, HA, HR, HBE, HSZ⟩ := hrel
    by_cases hlt : m < 8
    · have hge : decide ((m : Int) ≤ 7) = true := by simp; omega
      have hpos : ¬ (8 * (7 - (m : Int))) < 0 := by omega
      have HVAL : Hid ((bits BinOp.and IntKind.u64 ((cb : Int) / 2 ^ (8 * (7 - m))) 255 % 256) = (((UInt8.ofNat (cb / 2 ^ (56 - 8 * m) % 256)).toNat : Nat) : Int)) := by
        have e : 8 * (7 - m) = 56 - 8 * m := by omega
        have h1 := and_low (cb / 2 ^ (56 - 8 * m)) (Nat.lt_of_le_of_lt (Nat.div_le_self _ _) hcb)
        rw [Hid, e, UInt8.toNat_ofNat', Nat.mod_mod]
        have h2 : ((cb : Int) / 2 ^ (56 - 8 * m)) = ((cb / 2 ^ (56 - 8 * m) : Nat) : Int) := rfl
        rw [h2, h1]
        omega
      have hal : acc.length ≤ 18 := by rw [HA.out, List.length_append, beN_length]; omega
      go_wp2_with (refine wpList_row elemU8 rfl rfl (S := fun b => w.heap.size + 1 ≤ b) (v := .slice a acc.length c) (n := acc.length) (xs := byts acc) rfl (HR.out.frame (fun k _ hk => Below.heap_alloc _ _ _ hk)) (y := .slice (some ⟨wr.heap.size, 0, none⟩) 1 1) (m := 1) (news := [.int .u8 (bits BinOp.and IntKind.u64 ((cb : Int) / 2 ^ (8 * (7 - m))) 255 % 256)]) rfl (reads_one wr _ _) (one_of rfl) (by unfold maxLen; omega) (by omega) ?_
                   intro v5 w5 hr5 hch5
                   obtain ⟨a5, c5, rfl⟩ : ∃ a5 c5, v5 = .slice a5 (acc.length + 1) c5 := (by obtain ⟨-, a5, c5, h, -⟩ := hr5.reads; exact ⟨a5, c5, h⟩)
                   have HR5 := Lib.hid hr5
                   have HCH5 := Lib.hid hch5
                   clear hr5 hch5)
      go_roundw
      case rel =>
        have hln : (acc ++ [UInt8.ofNat (cb / 2 ^ (56 - 8 * m) % 256)]).length = acc.length + 1 := by simp
        refine ⟨m + 1, acc ++ [UInt8.ofNat (cb / 2 ^ (56 - 8 * m) % 256)], a5, c5, by omega, ?_, by rw [hln], ?_, ?_, ?_, ?_⟩
        · congr 1; omega
        · rw [Hid, HA.out, beN_succ, List.append_assoc]
        · have e : byts (acc ++ [UInt8.ofNat (cb / 2 ^ (56 - 8 * m) % 256)]) = byts acc ++ [.int .u8 (bits BinOp.and IntKind.u64 ((cb : Int) / 2 ^ (8 * (7 - m))) 255 % 256)] := by
            rw [byts_append, HVAL.out]; rfl
          rw [Hid, hln, e]
          exact HR5.out.mono (fun k hk => by rcases hk with hk | hk; exact hk; have h1 := HSZ.out; simp only [World.size_alloc] at hk; omega)
        · have h4 := HBE.out.size
          exact (HBE.out.alloc (by omega) _).trans (HCH5.out.toBelow (B := w.heap.size) (by simp only [World.size_alloc]; omega) (fun n hn h => by omega))
        · have h1 := HSZ.out
          have h5 := HCH5.out.size
          rw [Hid]
          simp only [World.size_alloc] at h5
          omega
      case measure => simp [RowKit.intOf]; omega
    · have hge : decide ((m : Int) ≤ 7) = false := by simp; omega
      obtain rfl : m = 8 := by omega
      obtain rfl : acc = U ++ beN cb 8 := HA.out
      go_wp2_with fail
      go_ret
      have hl : (U ++ beN cb 8).length = U.length + 8 := by rw [List.length_append, beN_length]
      first
        | exact ⟨a, c, rfl, HR.out.mono (fun k hk => by omega), HBE.out⟩
        | (unfold BytesP; rw [List.length_append] at *; exact ⟨a, c, rfl, HR.out.mono (fun k hk => by omega), HBE.out⟩)

theorem rform_any (t : VT) : ∀ (left : Int), goodT left t = true → wfT t → (formT t).length ≤ 1000000 → RFormC t := by
  induction t using VT.ind with
  | _ k n f s l ih =>
    intro left hg hw hl
    rw [goodT, Bool.and_eq_true] at hg
    obtain ⟨hh, hgl⟩ := hg
    obtain ⟨hk, hk4⟩ := head_of hh
    rw [wfT] at hw
    obtain ⟨-, hn, hf, hs, hwl⟩ := hw
    intro v S w hv
    obtain ⟨e1, e2, e3, e4, e5⟩ := hv.fields
    have hv2 := hv
    obtain ⟨vk, vn, vf, vs, va, vl, vc⟩ := v
    simp only [VT.k, VT.n, VT.f, VT.s, VT.l] at e1 e2 e3 e4 e5
    subst e1 e2 e3 e4
    obtain rfl | rfl | rfl | rfl | rfl : vk = 0 ∨ vk = 1 ∨ vk = 2 ∨ vk = 3 ∨ vk = 4 := by omega
    · have ht : formT (.node 0 vn vf vs l) = uintL 0 := by rw [formT, if_neg (by decide)]; exact List.append_nil _
      rw [ht]
      exact rform_0 vn vf vs va vl vc w
    · have ht : formT (.node 1 vn vf vs l) = uintL 1 ++ uintL (zz vn) := by rw [formT, if_neg (by decide)]; rfl
      rw [ht]
      exact rform_1 vn vf vs va vl vc w hn
    · have ht : formT (.node 2 vn vf vs l) = uintL 2 ++ beN (canonB vf) 8 := by rw [formT, if_neg (by decide)]; rfl
      rw [ht]
      exact rform_2 vn vf vs va vl vc w hf
    · have ht : formT (.node 3 vn vf vs l) = uintL 3 ++ (uintL vs.size ++ vs.data.toList) := by rw [formT, if_neg (by decide)]; rfl
      rw [ht, List.length_append] at hl
      rw [ht]
      have hl2 : (uintL vs.size ++ vs.data.toList).length = (uintL vs.size).length + vs.size := by rw [List.length_append, bsize]
      exact rform_3 vn vf vs va vl vc w (by omega)
    · have h1 := formsT_ge l
      have hl3 : (formsT l).length ≤ 1000000 := by rw [formT, if_pos rfl, List.length_append, List.length_append] at hl; omega
      exact rform_4 vn vf vs l (by omega) hl (fun t ht => ih t ht (left - 1) ((goodL_iff _ _).1 hgl t ht) ((wfL_iff l).1 hwl t ht) (by have := h1.2 t ht; omega)) ⟨4, vn, vf, vs, va, vl, vc⟩ S w hv2
set_option maxRecDepth 100000 in
set_option maxHeartbeats 4000000 in
theorem rbytesT_any (t : VT) (v : VV) (S : Nat → Prop) (w : World) (hv : TRead w S t v) (hwf : wfT t) (hlen : goodT 8 t = true → (formT t).length ≤ 1000000) :
    Calls Tryz.prog 17 #[v.val] w (BytesTop w t) := by
  have HX : Hid ((w.alloc (.cells #[.int .i64 v.k, .int .i64 v.n, .float .f64 v.f, .string v.s, .slice v.a v.l v.c] 26)).heap[w.heap.size]? = some (.cells #[.int .i64 v.k, .int .i64 v.n, .float .f64 v.f, .string v.s, .slice v.a v.l v.c] 26 (0, 0))) := heap_alloc_new w _
  have HBel : Hid (Below w.heap.size w (w.alloc (.cells #[.int .i64 v.k, .int .i64 v.n, .float .f64 v.f, .string v.s, .slice v.a v.l v.c] 26))) := (Below.refl _ _).alloc (Nat.le_refl _) _
  have HVA := Lib.hid (rvalid_any t v S _ (hv.later HBel.out) hwf)
  have HC : Hid (goodT 8 t = true → ∀ W, Below w.heap.size w W → Calls Tryz.prog 47 #[v.val] W (BytesP W (formT t))) :=
    fun h W hW => rform_any t 8 h hwf (hlen h) v S W (hv.later hW)
  unfold BytesTop
  generalize goodT 8 t = g at *
  generalize formT t = B at *
  clear hv hwf hlen
  obtain ⟨pk, pn, pf, ps, pa, pl, pc⟩ := v
  dsimp only [VV.val] at *
  go_enter Tryz.func17, Tryz.ntmps17
  go_upto_region 1 with fail
  generalize w.alloc (.cells #[.int .i64 pk, .int .i64 pn, .float .f64 pf, .string ps, .slice pa pl pc] 26) = wa at *
  obtain ⟨x0, x1, x2, x3, x4⟩ := cells5 HX.out
  go_wp2_with fail
  refine HVA.out.mono ?_
  rintro e w2 ⟨rfl, hb2⟩
  have HB2 := Lib.hid (HBel.out.trans (hb2.mono HBel.out.size))
  have HX2 := Lib.hid ((hb2.block _ (lt_of_heap HX.out)).trans HX.out)
  clear hb2 x0 x1 x2 x3 x4
  cases g with
  | false =>
    go_wp2_with fail
    go_ret2
    exact ⟨by simp, HB2.out⟩
  | true =>
    have HC2 := Lib.hid (HC.out rfl w2 HB2.out)
    obtain ⟨x0, x1, x2, x3, x4⟩ := cells5 HX2.out
    go_wp2_with fail
    refine HC2.out.mono ?_
    rintro e w3 ⟨a, c, rfl, hr, hb3⟩
    have HB3 := Lib.hid (HB2.out.trans (hb3.mono HB2.out.size))
    have HR3 : Hid (Row w3 5 1 (.slice a B.length c) B.length (byts B) (fun k => w.heap.size ≤ k)) := hr.mono (fun k hk => Nat.le_trans HB2.out.size hk)
    clear hb3 hr
    go_wp2_with fail
    go_ret2
    exact ⟨⟨a, c, rfl, HR3.out⟩, HB3.out⟩
end Go.Proofs.YtpijpeocdlnhiaaGreatDoor
