/- The text of a text value: its bytes in hexadecimal digits between quotes. -/
import Derived.Test.YtpijpeocdlnhiaaGreatDoorTopValid
import Derived.Test.YtpijpeocdlnhiaaGreatDoorHexL
import Derived.Laws.IdiomStrings
namespace Go.Proofs.YtpijpeocdlnhiaaGreatDoor
set_option linter.unusedVariables false
set_option linter.unusedSimpArgs false
open Go.RowKit

def u8s (l : List UInt8) : List Value := l.map fun c => .int .u8 (c.toNat : Int)
theorem elemU8 : ElemOf Tryz.prog 33 5 (.int .u8 0) 1 1 := ⟨Tryz.underlying33, by kernel_rfl, rfl, by decide⟩
theorem u8s_one (l : List UInt8) : ∀ u ∈ u8s l, u.oneCell' = true := by
  intro u hu
  obtain ⟨c, _, rfl⟩ := List.mem_map.1 hu
  rfl

abbrev digB : ByteArray := ⟨#[48, 49, 50, 51, 52, 53, 54, 55, 56, 57, 97, 98, 99, 100, 101, 102]⟩
theorem dig_all : ∀ n : Fin 16, digB.data[n.val]? = some (dig n.val) := by decide +kernel
theorem dig_at (n : Nat) (h : n < digB.size) : digB[n]'h = dig n := by
  have h16 : n < 16 := h
  have h1 := dig_all ⟨n, h16⟩
  have h2 : n < digB.data.size := h
  rw [Array.getElem?_eq_getElem h2] at h1
  exact Option.some.inj h1
theorem and_all : ∀ n : Fin 256, bits BinOp.and IntKind.u8 ((n.val : Nat) : Int) 15 = ((n.val : Nat) : Int) % 16 := by decide +kernel
theorem and_at (n : Nat) (h : n < 256) : bits BinOp.and IntKind.u8 (n : Int) 15 = (n : Int) % 16 := and_all ⟨n, h⟩
theorem Reads.frame_chg {w w' : World} {b o n c : Nat} {xs : List Value} {T : Nat → Prop} (h : Reads w (.slice (some ⟨b, o, none⟩) n c) n 1 xs) (hc : Chg T w w') (hT : ¬ T b) : Reads w' (.slice (some ⟨b, o, none⟩) n c) n 1 xs := by
  obtain ⟨hl, ao, c', hv, hle, hnn, hcell⟩ := h
  cases hv
  refine ⟨hl, _, c, rfl, hle, hnn, fun ad had j u hu => ?_⟩
  have h1 := hcell ad had j u hu
  cases had
  have hblk : ((⟨b, o, none⟩ : Addr).add j).block = b := by unfold Addr.add; split <;> rfl
  have hlt : b < w.heap.size := by
    have := World.block_lt_of_cell? w _ h1
    rwa [hblk] at this
  rw [← h1]
  exact World.cell?_of_block (by rw [hblk]; exact hc.block _ hlt hT)
theorem bsize (s : ByteArray) : s.data.toList.length = s.size := by simp
theorem reads_bytes (W : World) (s : ByteArray) (c : Nat) (fr : Nat × Nat) (hc : s.size ≤ c) :
    Reads (W.drew.alloc (.cells (bytesRow s c) 5 fr)) (.slice (some ⟨W.heap.size, 0, none⟩) s.size c) s.size 1 (u8s s.data.toList) := by
  refine ⟨by rw [u8s, List.length_map, bsize]; omega, _, c, rfl, hc, (fun h => by cases h), fun ad had j u hu => ?_⟩
  cases had
  rw [Addr.add_lit, Nat.zero_add]
  have hj : j < s.data.size := by
    have := (List.getElem?_eq_some_iff.1 hu).1
    rw [u8s, List.length_map, bsize] at this; exact this
  refine cellAt (heap_alloc_new W.drew _) j ?_
  rw [bytesRow_at s c j hj, ← hu, u8s, List.getElem?_map, List.getElem?_eq_getElem (by simpa using hj)]
  simp
set_option maxRecDepth 100000 in
set_option maxHeartbeats 1000000 in
theorem vtext_any (k n : Int) (f : Nat) (s : ByteArray) (a : Option Addr) (l c : Nat) (w : World) (hs : s.size ≤ 1000000) :
    Calls Tryz.prog 222 #[.agg #[], .agg #[.int .i64 k, .int .i64 n, .float .f64 f, .string s, .slice a l c]] w fun e w' => e = .returned (.string ⟨(34 :: hexL s.data.toList ++ [34]).toArray⟩) ∧ Below w.heap.size w w' := by
  have HX : Hid ((((w.alloc (.cells #[] 106)).alloc (.cells #[.int .i64 k, .int .i64 n, .float .f64 f, .string s, .slice a l c] 26)).alloc (.cells #[.int .u8 34] 5)).heap[w.heap.size + 1]? = some (.cells #[.int .i64 k, .int .i64 n, .float .f64 f, .string s, .slice a l c] 26 (0, 0))) := by
    rw [Hid, Below.heap_alloc _ _ _ (by simp)]
    exact alloc2_high w _ _ (heap_alloc_new _ _)
  have HQ : Hid ((((w.alloc (.cells #[] 106)).alloc (.cells #[.int .i64 k, .int .i64 n, .float .f64 f, .string s, .slice a l c] 26)).alloc (.cells #[.int .u8 34] 5)).heap[w.heap.size + 1 + 1]? = some (.cells #[.int .u8 34] 5 (0, 0))) := by
    have := heap_alloc_new ((w.alloc (.cells #[] 106)).alloc (.cells #[.int .i64 k, .int .i64 n, .float .f64 f, .string s, .slice a l c] 26)) (.cells #[.int .u8 34] 5)
    rwa [World.size_alloc, World.size_alloc] at this
  have HB : Hid (Below w.heap.size w (((w.alloc (.cells #[] 106)).alloc (.cells #[.int .i64 k, .int .i64 n, .float .f64 f, .string s, .slice a l c] 26)).alloc (.cells #[.int .u8 34] 5))) := (((Below.refl _ _).alloc (Nat.le_refl _) _).alloc (by simp) _).alloc (by simp; omega) _
  go_enter Tryz.func222, Tryz.ntmps222
  go_upto_region 2 with fail
  generalize (((w.alloc (.cells #[] 106)).alloc (.cells #[.int .i64 k, .int .i64 n, .float .f64 f, .string s, .slice a l c] 26)).alloc (.cells #[.int .u8 34] 5)) = wa at *
  have x3 := cellAt HX.out 3 rfl
  have hcv := run_bytes_of_string (P := Tryz.prog) wa 9 33 5 s Tryz.underlying9 Tryz.underlying33 Tryz.underlying5
  have hge := grownCap_ge wa s.size 0 5
  have HRB := Lib.hid (reads_bytes wa s _ ((bytesRow s (grownCap wa s.size 0 5)).size, (bytesRow s (grownCap wa s.size 0 5)).size + 1) hge)
  have hb2 : Below wa.heap.size wa (wa.drew.alloc (.cells (bytesRow s (grownCap wa s.size 0 5)) 5 ((bytesRow s (grownCap wa s.size 0 5)).size, (bytesRow s (grownCap wa s.size 0 5)).size + 1))) := ((Below.refl _ _).drew).alloc (Nat.le_refl _) _
  have HB2 := Lib.hid (HB.out.trans (hb2.mono HB.out.size))
  have HW2 : Hid (wa.heap.size < (wa.drew.alloc (.cells (bytesRow s (grownCap wa s.size 0 5)) 5 ((bytesRow s (grownCap wa s.size 0 5)).size, (bytesRow s (grownCap wa s.size 0 5)).size + 1))).heap.size) := by rw [Hid, World.size_alloc]; exact Nat.lt_succ_self _
  have HQ2 : Hid (Row (wa.drew.alloc (.cells (bytesRow s (grownCap wa s.size 0 5)) 5 ((bytesRow s (grownCap wa s.size 0 5)).size, (bytesRow s (grownCap wa s.size 0 5)).size + 1))) 5 1 (.slice (some ⟨w.heap.size + 1 + 1, 0, none⟩) 1 1) 1 (u8s [34]) (fun k => k = w.heap.size + 1 + 1)) :=
    ⟨rfl, .inr ⟨_, 0, 1, _, rfl, rfl, (hb2.block _ (lt_of_heap HQ.out)).trans HQ.out, Nat.le_refl _, by unfold maxLen; omega, by simp, rfl⟩⟩
  have HQL := Lib.hid (lt_of_heap HQ.out)
  generalize (wa.drew.alloc (.cells (bytesRow s (grownCap wa s.size 0 5)) 5 ((bytesRow s (grownCap wa s.size 0 5)).size, (bytesRow s (grownCap wa s.size 0 5)).size + 1))) = w2 at *
  generalize grownCap wa s.size 0 5 = cp at *
  clear hb2
  go_wp2_with fail
  go_loopw [5, 13] (fun out i w' => ∃ m : Nat, m ≤ s.size ∧ i = .int .i64 m ∧ Hid (Row w' 5 1 out (1 + 2 * m) (u8s (34 :: hexL (s.data.toList.take m))) (fun k => k = w.heap.size + 1 + 1 ∨ w2.heap.size ≤ k)) ∧ Hid (Chg (fun k => k = w.heap.size + 1 + 1) w2 w')) (fun _ i _ => s.size - (RowKit.intOf i).toNat)
  case atStart => exact ⟨0, by omega, rfl, HQ2.out.mono (fun k hk => .inl hk), Chg.refl _ _⟩
  case round =>
    obtain ⟨m, hm, rfl, HO, HC⟩ := hrel
    by_cases hlt : m < s.size
    · have hrd := (HRB.out.frame_chg HC.out (fun e => by have e2 : wa.heap.size = w.heap.size + 1 + 1 := e; have := HQL.out; omega))
      obtain ⟨b', o', c', hv, hle, hbl, hcell⟩ := hrd.at (by omega)
      have hlt' : m < s.data.toList.length := by rw [bsize]; exact hlt
      obtain ⟨x, hx⟩ : ∃ x, x = s.data.toList[m] := ⟨_, rfl⟩
      have hc := hcell m (.int .u8 (x.toNat : Int)) (by rw [u8s, List.getElem?_map, List.getElem?_eq_getElem hlt', hx]; rfl)
      cases hv
      rw [Nat.zero_add] at hc
      have hx256 := x.toNat_lt
      have HXX := Lib.hid hx
      clear hcell hx
      have hq1 : 0 ≤ (x.toNat : Int) / 16 ∧ (x.toNat : Int) / 16 < 16 := by omega
      have hq2 : 0 ≤ (x.toNat : Int) % 16 ∧ (x.toNat : Int) % 16 < 16 := by omega
      have hq3 := and_at x.toNat hx256
      have hq4 : ((x.toNat : Int) / 16).toNat = x.toNat / 16 := by omega
      have hq5 : ((x.toNat : Int) % 16).toNat = x.toNat % 16 := by omega
      have hg1 := dig_at (x.toNat / 16)
      have hg2 := dig_at (x.toNat % 16)
      go_wp2_with fail
      have HTK : Hid (u8s (34 :: hexL (s.data.toList.take (m + 1))) = u8s (34 :: hexL (s.data.toList.take m)) ++ u8s [dig (x.toNat / 16), dig (x.toNat % 16)]) := by
        rw [Hid, List.take_succ_eq_append_getElem hlt', hexL_append, ← HXX.out]
        simp [u8s, hexL]
      clear HXX
      clear hlt'
      go_region_law
        (refine step_row elemU8 rfl rfl (S := fun k => k = w.heap.size + 1 + 1 ∨ w2.heap.size ≤ k) (v := u5) (n := 1 + 2 * m) (xs := u8s (34 :: hexL (s.data.toList.take m))) rfl ((show Row wr.drew _ _ _ _ _ _ from HO.out).frame (fun k _ hk => Below.heap_alloc _ _ _ hk)) (y := .slice (some ⟨wr.heap.size, 0, none⟩) 2 2) (m := 2) (news := u8s [dig (x.toNat / 16), dig (x.toNat % 16)]) rfl (Reads.block (heap_alloc_new wr.drew _) 2 1 rfl) (u8s_one _) (by unfold maxLen; omega) (by omega) ?_
         intro v6 w6 hr6 hc6
         have HR6 := Lib.hid hr6
         have HC6 := Lib.hid hc6
         clear hr6 hc6)
      all_goals
        go_wp2
        go_roundw
        case rel =>
          have hw := HC.out.size
          refine ⟨m + 1, by omega, by go_num, ?_, ?_⟩
          · rw [Hid, HTK.out]
            exact HR6.out.mono (fun k hk => by rcases hk with hk | hk; exact hk; simp only [World.size_alloc, World.size_drew] at hk; omega)
          · exact (HC.out.drew.alloc _).trans (HC6.out.mono (T := fun k => k = w.heap.size + 1 + 1 ∨ w2.heap.size ≤ k) (fun k hk => hk)) (fun k hk => hk)
        case measure => simp [RowKit.intOf]; omega
    · obtain rfl : m = s.size := by omega
      rw [← bsize s, List.take_length] at HO
      rw [bsize s] at HO
      have HLN : Hid ((34 :: hexL s.data.toList ++ [34]).length = 1 + 2 * s.size + 1) := by
        rw [Hid, List.length_append, List.length_cons, hexL_length, bsize]; simp; omega
      have hw := HC.out.size
      go_wp2_with (refine wpList_row elemU8 rfl rfl (S := fun k => k = w.heap.size + 1 + 1 ∨ w2.heap.size ≤ k) (v := u5) (n := 1 + 2 * s.size) (xs := u8s (34 :: hexL s.data.toList)) rfl (HO.out.frame (fun k _ hk => Below.heap_alloc _ _ _ hk)) (y := .slice (some ⟨wr.heap.size, 0, none⟩) 1 1) (m := 1) (news := u8s [34]) rfl (Reads.block (heap_alloc_new wr _) 1 1 rfl) (u8s_one _) (by unfold maxLen; omega) (by omega) ?_
                   intro v5 w5 hr5 hc5
                   obtain ⟨b5, o5, c5, rfl, hle5, hb5, hcell5⟩ := hr5.reads.at (by omega)
                   have hcv5 := run_convert_bytes_back (P := Tryz.prog) w5 33 9 5 ⟨b5, o5, none⟩ c5 (34 :: hexL s.data.toList ++ [34]) Tryz.underlying33 Tryz.underlying5 Tryz.underlying9 (fun j hj => by
                     rw [Addr.add_lit]
                     refine hcell5 j _ ?_
                     have e : u8s (34 :: hexL s.data.toList) ++ u8s [34] = u8s (34 :: hexL s.data.toList ++ [34]) := by simp [u8s]
                     rw [e, u8s, List.getElem?_map, List.getElem?_eq_getElem hj]; rfl)
                   rw [HLN.out] at hcv5
                   have HB5 := Lib.hid (HB2.out.trans ((((HC.out.alloc (.cells #[.int .u8 34] 5)).trans (hc5.mono (T := fun k => k = w.heap.size + 1 + 1 ∨ w2.heap.size ≤ k) (fun k hk => hk)) (fun k hk => hk)).toBelow (B := w.heap.size) HB2.out.size (fun j hj e => by have e2 : j = w.heap.size + 1 + 1 := e; omega))))
                   clear hr5 hc5 hcell5)
      go_ret
      exact ⟨rfl, HB5.out⟩
end Go.Proofs.YtpijpeocdlnhiaaGreatDoor
