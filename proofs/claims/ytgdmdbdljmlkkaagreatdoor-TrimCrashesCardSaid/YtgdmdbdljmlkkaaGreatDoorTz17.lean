/- Frame, Next -/
import Derived.Test.YtgdmdbdljmlkkaaGreatDoorTz14
import Derived.Deep.MidRow
import Derived.Laws.Cover3
set_option maxRecDepth 100000
set_option linter.unusedVariables false
set_option linter.unusedSimpArgs false
namespace Go.Proofs.YtgdmdbdljmlkkaaGreatDoor
open Go.RowKit
theorem run_append_full {P : Program} {t e : TypeId} {z : Value} {size bytes : Nat} (hE : ElemOf P t e z size bytes) (ty : TypeId) (w : World) {ao : Option Addr} {n : Nat} {xs : List Value} (hv : Reads w (.slice ao n n) n size xs)
   (x : Value) (m : Nat) (news : List Value) (hx : Reads w x m size news) (h1 : ∀ u ∈ news, u.oneCell' = true) (hm : 0 < m) (h63 : n + m ≤ maxLen) (hbytes : (n + m) * bytes ≤ 140737488355328) :
   ∃ v' w', (Builtin.append_ #[t, t] ty #[.slice ao n n, x]).run P w = .ok v' w' ∧ Row w' e size v' (n + m) (xs ++ news) (fun k => w.heap.size ≤ k) ∧ Below w.heap.size w w' := by
 obtain ⟨i, hi, hz, hs, hb⟩ := info_parts hE.info
 cases ao with
 | none =>
   obtain ⟨hl0, ao', c', hv', -, hnone, -⟩ := hv
   cases hv'
   obtain ⟨rfl, -⟩ := hnone rfl
   obtain rfl : xs = [] := List.eq_nil_of_length_eq_zero (by simpa using hl0)
   obtain ⟨v', w', hrun, r1, r2, _⟩ := run_append_any hE ty w w.heap.size (.slice none 0 0) 0 [] (World.ownsRow_nil _ _ _ _) x m news hx h1 h63 hbytes (Nat.le_refl _)
   exact ⟨v', w', hrun, Row.ofOwns r1, (Below.refl _ _).grown r2 (Nat.le_refl _) (fun k e => by simp [Value.ownBlock] at e)⟩
 | some ad0 =>
   obtain ⟨hl0, ao', c', hv', -, -, hold⟩ := hv
   cases hv'
   obtain ⟨hl, ao, c, rfl, hmc, hnone, hcells⟩ := hx
   cases ao with
   | none => have := (hnone rfl).1; omega
   | some ad =>
     obtain ⟨v', w', hrun, r1, r2⟩ := run_append_arg_grows (P := P) w t ty e i z size bytes hE.und hi hz hs hb hE.zsize hE.pos ad0 n n xs hl0 (hold ad0 rfl) ad m c news hl (hcells ad rfl) (by omega) h63 hbytes
     exact ⟨v', w', hrun, Row.ofOwns r1, (Below.refl _ _).grown r2 (Nat.le_refl _) (fun k e => by cases e)⟩
theorem wpList_full {P : Program} {t e : TypeId} {z : Value} {size bytes : Nat} (hE : ElemOf P t e z size bytes) {w : World} {ops : Array Oper} {rest : List Oper} {o : Oper} {a : Act} {Q : Exit → Act → World → Prop} (hgd : o.guard = none) {s x : Operand}
   (ho : o.op = .call { callee := .builtin .append, args := #[s, x], argTypes := #[t, t] })
   {ao : Option Addr} {n : Nat} {xs : List Value} (hs : a.eval s = .slice ao n n) (hv : Reads w (.slice ao n n) n size xs)
   {y : Value} {m : Nat} {news : List Value} (hx : a.eval x = y) (hy : Reads w y m size news) (h1 : ∀ u ∈ news, u.oneCell' = true) (hm : 0 < m)
   (h63 : n + m ≤ maxLen) (hbytes : (n + m) * bytes ≤ 140737488355328)
   (h : ∀ v' w', Row w' e size v' (n + m) (xs ++ news) (fun k => w.heap.size ≤ k) → Below w.heap.size w w' → wpList P ops Q rest (a.put o.dst v') w') : wpList P ops Q (o :: rest) a w := by
 refine wpList_plain hgd fun K hK => ?_
 subst hx
 obtain ⟨v', w', hrun, r1, r2⟩ := run_append_full hE o.type w hv _ m news hy h1 hm h63 hbytes
 unfold Oper.wp
 simp [execOp, ho, resolve, invoke, builtin, hs, hrun, Result.andThen]
 exact hK _ _ (h v' w' r1 r2)
theorem u8_ofNat (n : Nat) : (((UInt8.ofNat n).toNat : Nat) : Int) = (n : Int) % 256 := by simp
theorem le4_byts (x : W32) : byts (le4 x) = [.int .u8 ((x.toNat : Int) % 256), .int .u8 ((x.toNat : Int) / 256 % 256), .int .u8 ((x.toNat : Int) / 65536 % 256), .int .u8 ((x.toNat : Int) / 16777216 % 256)] := by
 unfold byts le4
 simp only [List.map_cons, List.map_nil, u8v, u8_ofNat]
 simp
theorem le4_byts' (x : W32) : byts (le4 x) = [.int .u8 ((x.toNat : Int) % 256), .int .u8 ((x.toNat : Int) / 256 % 256), .int .u8 ((x.toNat : Int) / 65536 % 256), .int .u8 ((x.toNat : Int) / 16777216)] := by
 rw [le4_byts, Int.emod_eq_of_lt (a := (x.toNat : Int) / 16777216) (by have := w32_bd x; omega) (by have := w32_bd x; omega)]
theorem joined_one (ba : Option Addr) (l : List UInt8) (bc : Nat) : joined [(ba, l, bc)] = l := by simp [joined]
set_option maxHeartbeats 1000000 in
theorem sum_any (pa : Option Addr) (pc : Nat) (ps : List (Option Addr × List UInt8 × Nat)) (w : World) (hr : Reads w (.slice pa ps.length pc) ps.length 1 (ps.map partV)) (hl : ps.length ≤ 100000)
   (he : ∀ p ∈ ps, Reads w (partV p) p.2.1.length 1 (byts p.2.1)) (hs : lens ps ≤ 1000000000) :
   Calls Tryz.prog 173 #[.slice pa ps.length pc] w fun e w' => e = .returned (.int .u32 (crcB (joined ps)).toNat) ∧ Below w.heap.size w w' := by
 have HC := Lib.hid (concat_any pa pc ps w hr hl he hs)
 have HL := Lib.hid (joined_length ps)
 clear hr he
 go_enter Tryz.func173, Tryz.ntmps173
 go_wp2_with fail
 refine HC.out.mono ?_
 rintro e w1 ⟨a, c, rfl, hrow, hb⟩
 have HM : Hid (Calls Tryz.prog 208 #[.int .u32 0, .slice a (joined ps).length c] w1 fun e w' => e = .returned (.int .u32 (crcB (joined ps)).toNat) ∧ Below w1.heap.size w1 w') := more_any 0#32 a c (joined ps) w1 hrow.reads (by rw [HL.out]; exact hs)
 have HB := Lib.hid hb
 clear hrow hb HC
 go_wp2_with fail
 refine HM.out.mono ?_
 rintro e w2 ⟨rfl, hb2⟩
 have HB2 := Lib.hid (HB.out.trans (hb2.mono HB.out.size))
 clear hb2 HM
 go_wp2
 go_ret
 exact ⟨rfl, HB2.out⟩
set_option maxHeartbeats 2000000 in
theorem seal_any (ba : Option Addr) (bc : Nat) (l : List UInt8) (w : World) (h : Reads w (.slice ba l.length bc) l.length 1 (byts l)) (hl : l.length ≤ 100000000) :
   Calls Tryz.prog 139 #[.slice ba l.length bc] w fun e w' => ∃ a c, e = .returned (.slice a (l.length + 4) c) ∧ Row w' 5 1 (.slice a (l.length + 4) c) (l.length + 4) (byts (sealB l)) (fun k => w.heap.size ≤ k) ∧ Below w.heap.size w w' := by
 have HR := Lib.hid h
 have hcap : l.length ≤ bc := by obtain ⟨_, ao, c, hv, hle, _⟩ := h; cases hv; exact hle
 clear h
 go_enter Tryz.func139, Tryz.ntmps139
 go_wp2_with fail
 have HBA : Hid (Below w.heap.size w (w.alloc (.cells #[.slice ba l.length bc] 72))) := (Below.refl _ _).alloc (Nat.le_refl _) _
 have HRA := Lib.hid (HR.out.later HBA.out)
 have HRB : Hid (Reads (w.alloc (.cells #[.slice ba l.length bc] 72)) (.slice (some ⟨w.heap.size, 0, none⟩) 1 1) 1 1 [.slice ba l.length bc]) := reads_one w _ _
 have HS := sum_any (some ⟨w.heap.size, 0, none⟩) 1 [(ba, l, bc)] (w.alloc (.cells #[.slice ba l.length bc] 72)) HRB.out (by simp) (by intro p hp; rw [List.mem_singleton.1 hp]; exact HRA.out) (by simp [lens]; omega)
 rw [joined_one] at HS
 refine HS.mono ?_
 rintro e w1 ⟨rfl, hb⟩
 have HB1 := Lib.hid (HBA.out.trans (hb.mono HBA.out.size))
 have HR1 := Lib.hid (HR.out.later HB1.out)
 clear HS hb HRB HRA HBA
 have hX := w32_bd (crcB l)
 have HLB := Lib.hid (le4_byts' (crcB l))
 obtain ⟨X, hXE⟩ : ∃ X, X = crcB l := ⟨_, rfl⟩
 rw [← hXE] at hX HLB ⊢
 have HXE := Lib.hid hXE
 clear hXE
 have HN1 : Hid (Reads (w1.alloc (.cells #[.int .u8 ((X.toNat : Int) % 256), .int .u8 ((X.toNat : Int) / 256 % 256), .int .u8 ((X.toNat : Int) / 65536 % 256), .int .u8 ((X.toNat : Int) / 16777216)] 5)) (.slice (some ⟨w1.heap.size, 0, none⟩) 4 4) 4 1 (byts (le4 X))) := by
   rw [Hid, HLB.out]
   exact Reads.block (heap_alloc_new w1 _) 4 1 rfl
 have HR2 : Hid (Reads (w1.alloc (.cells #[.int .u8 ((X.toNat : Int) % 256), .int .u8 ((X.toNat : Int) / 256 % 256), .int .u8 ((X.toNat : Int) / 65536 % 256), .int .u8 ((X.toNat : Int) / 16777216)] 5)) (.slice ba l.length l.length) l.length 1 (byts l)) := by
   have h := HR1.out.later ((Below.refl w1.heap.size w1).alloc (Nat.le_refl _) (.cells #[.int .u8 ((X.toNat : Int) % 256), .int .u8 ((X.toNat : Int) / 256 % 256), .int .u8 ((X.toNat : Int) / 65536 % 256), .int .u8 ((X.toNat : Int) / 16777216)] 5))
   obtain ⟨h1, ao, c, hv, h2, h3, h4⟩ := h
   cases hv
   exact ⟨h1, _, _, rfl, Nat.le_refl _, fun e => ⟨(h3 e).1, (h3 e).1⟩, h4⟩
 go_upto_region 2 with fail
 go_wp2_with (
   refine wpList_full elemU8 rfl rfl (ao := ba) (n := l.length) (xs := byts l) rfl HR2.out (y := .slice (some ⟨w1.heap.size, 0, none⟩) 4 4) (m := 4) (news := byts (le4 X)) rfl HN1.out (byts_one _) (by omega) (by unfold maxLen; omega) (by omega) ?_
   intro v2 w2 hr2 hb2)
 obtain ⟨a2, c2, rfl⟩ : ∃ a c, v2 = .slice a (l.length + 4) c := by obtain ⟨-, ao, c, h, -⟩ := hr2.reads; exact ⟨ao, c, h⟩
 have HR3 : Hid (Row w2 5 1 (.slice a2 (l.length + 4) c2) (l.length + 4) (byts (sealB l)) (fun k => w.heap.size ≤ k)) := by
   have e : byts l ++ byts (le4 X) = byts (sealB l) := by rw [← byts_append, HXE.out]; rfl
   rw [Hid, ← e]
   have := HB1.out.size
   exact hr2.mono (fun k hk => by simp only [World.size_alloc] at hk; omega)
 have HB3 : Hid (Below w.heap.size w w2) := (HB1.out.alloc HB1.out.size _).trans (hb2.mono (by rw [World.size_alloc]; have := HB1.out.size; omega))
 clear hr2 hb2 HN1 HR2 HLB
 go_wp2
 go_ret
 exact ⟨a2, c2, rfl, HR3.out, HB3.out⟩
def BytesP (w : World) (r : Option (List UInt8)) : Ending → World → Prop := fun e w' =>
 (match r with
 | none => e = .returned (.tuple #[.slice none 0 0, .bool false])
 | some x => ∃ a c, e = .returned (.tuple #[.slice a x.length c, .bool true]) ∧ Row w' 5 1 (.slice a x.length c) x.length (byts x) (fun k => w.heap.size ≤ k)) ∧ Below w.heap.size w w'
theorem Reads.takeB {w : World} {ba : Option Addr} {bc : Nat} {l : List UInt8} (h : Reads w (.slice ba l.length bc) l.length 1 (byts l)) (n : Nat) (hn : n ≤ l.length) : Reads w (.slice ba (l.take n).length bc) (l.take n).length 1 (byts (l.take n)) := by
 have e : (l.take n).length = n := by rw [List.length_take]; omega
 have := h.take n hn
 rw [e]
 unfold byts at this ⊢
 rwa [List.map_take]
set_option maxHeartbeats 2000000 in
theorem open_any (ba : Option Addr) (bc : Nat) (l : List UInt8) (w : World) (h : Reads w (.slice ba l.length bc) l.length 1 (byts l)) (hl : l.length ≤ 100000) :
   Calls Tryz.prog 197 #[.slice ba l.length bc] w (BytesP w (openB l)) := by
 have HR := Lib.hid h
 have hcap : l.length ≤ bc := by obtain ⟨_, ao, c, hv, hle, _⟩ := h; cases hv; exact hle
 clear h
 by_cases h4 : l.length < 4
 · have HO : Hid (openB l = none) := by unfold openB; rw [Hid, if_neg (by omega)]
   obtain ⟨Q, hQ⟩ : ∃ Q, Q = BytesP w (openB l) := ⟨_, rfl⟩
   have HQ : Hid (Q (.returned (.tuple #[.slice none 0 0, .bool false])) w) := by rw [hQ, Hid, HO.out]; exact ⟨rfl, Below.refl _ _⟩
   rw [← hQ]
   clear hQ
   have hd : decide ((l.length : Int) - 4 < 0) = true := by simp; omega
   go_enter Tryz.func197, Tryz.ntmps197
   go_wp2
   exact HQ.out
 · obtain ⟨n, hn⟩ : ∃ n, n + 4 = l.length := ⟨l.length - 4, by omega⟩
   have HN := Lib.hid hn
   have HT := Lib.hid (HR.out.takeB n (by omega))
   have htl : (l.take n).length = n := by rw [List.length_take]; omega
   have HTL := Lib.hid htl
   have HRD : Hid (Reads w (.slice ba n bc) n 1 (byts (l.take n))) := by have := HT.out; rwa [htl] at this
   have HSE : Hid (Calls Tryz.prog 139 #[.slice ba n bc] w fun e w' => ∃ a c, e = .returned (.slice a (n + 4) c) ∧ Row w' 5 1 (.slice a (n + 4) c) (n + 4) (byts (sealB (l.take n))) (fun k => w.heap.size ≤ k) ∧ Below w.heap.size w w') := by
     have := seal_any ba bc (l.take n) w HT.out (by omega)
     rwa [htl] at this
   have HO : Hid (openB l = if sealB (l.take n) = l then some (l.take n) else none) := by
     unfold openB
     rw [Hid, ← hn, Nat.add_sub_cancel]
     by_cases e : sealB (l.take n) = l
     · rw [if_pos ⟨by omega, e⟩, if_pos e]
     · rw [if_neg (fun x => e x.2), if_neg e]
   have hsl : (sealB (l.take n)).length = n + 4 := by rw [sealB_length, htl]
   have HSL := Lib.hid hsl
   obtain ⟨Q, hQ⟩ : ∃ Q, Q = BytesP w (openB l) := ⟨_, rfl⟩
   rw [← hQ]
   have HQD := Lib.hid hQ
   have hnb : (n : Int) + 4 ≤ (bc : Int) := by omega
   clear hQ htl hsl h4
   obtain ⟨ln, hln⟩ : ∃ ln, ln = l.length := ⟨_, rfl⟩
   have HLN := Lib.hid hln
   rw [← hln] at hn hl hcap ⊢
   subst hn
   clear hln
   have hd : decide ((n : Int) < 0) = false := by simp
   go_enter Tryz.func197, Tryz.ntmps197
   go_wp2_with fail
   refine HSE.out.mono ?_
   rintro e w1 ⟨a, c, rfl, hrow, hb⟩
   have HROW := Lib.hid hrow
   have HB := Lib.hid hb
   clear hrow hb
   have HEQ : Hid (Calls Tryz.prog 90 #[.slice a (n + 4) c, .slice ba (n + 4) bc] w1 fun e w' => e = .returned (.bool (decide (sealB (l.take n) = l))) ∧ Below w1.heap.size w1 w') := by
     have hr1 := HROW.out.reads
     have hr2 := HR.out.later HB.out
     rw [← HSL.out] at hr1
     have := bequal_any a ba c bc (sealB (l.take n)) l w1 hr1 hr2 (by rw [HSL.out]; omega) (by rw [← HLN.out]; omega)
     rwa [HSL.out, ← HLN.out] at this
   go_wp2_with fail
   refine HEQ.out.mono ?_
   rintro e w2 ⟨rfl, hb2⟩
   have HB2 := Lib.hid (HB.out.trans (hb2.mono HB.out.size))
   clear hb2 HEQ HROW
   by_cases he : sealB (l.take n) = l
   · have HE := Lib.hid he
     rw [decide_eq_true he]
     clear he
     have HC := Lib.hid (bclone_any ba n bc (byts (l.take n)) w2 (HRD.out.later HB2.out) (byts_one _) (by omega))
     go_wp2_with fail
     refine HC.out.mono ?_
     rintro e w3 ⟨v3, rfl, hr3, hb3⟩
     obtain ⟨a3, c3, rfl⟩ : ∃ a c, v3 = .slice a n c := by obtain ⟨-, ao, c, h, -⟩ := hr3.reads; exact ⟨ao, c, h⟩
     have HQ3 : Hid (Q (.returned (.tuple #[.slice a3 n c3, .bool true])) w3) := by
       rw [HQD.out, Hid, HO.out, if_pos HE.out]
       refine ⟨⟨a3, c3, by rw [HTL.out], ?_⟩, HB2.out.trans (hb3.mono HB2.out.size)⟩
       rw [HTL.out]
       have := HB2.out.size
       exact hr3.mono (fun k hk => by omega)
     clear hr3 hb3
     go_wp2
     exact HQ3.out
   · have HQ3 : Hid (Q (.returned (.tuple #[.slice none 0 0, .bool false])) w2) := by
       rw [HQD.out, Hid, HO.out, if_neg he]
       exact ⟨rfl, HB2.out⟩
     rw [decide_eq_false he]
     clear he
     go_wp2
     exact HQ3.out
theorem le4_nat (n : Nat) (h : n ≤ 1073741824) : byts (le4 (BitVec.ofNat 32 n)) = [.int .u8 ((n : Int) % 256), .int .u8 ((n : Int) / 256 % 256), .int .u8 ((n : Int) / 65536 % 256), .int .u8 ((n : Int) / 16777216)] := by
 have e : (BitVec.ofNat 32 n).toNat = n := by rw [BitVec.toNat_ofNat]; exact Nat.mod_eq_of_lt (by omega)
 rw [le4_byts', e]
theorem little_any (n : Nat) (hn : n ≤ 1073741824) (w : World) :
   Calls Tryz.prog 138 #[.int .i64 n] w fun e w' => e = .returned (.agg #[.int .u8 ((n : Int) % 256), .int .u8 ((n : Int) / 256 % 256), .int .u8 ((n : Int) / 65536 % 256), .int .u8 ((n : Int) / 16777216)]) ∧ Below w.heap.size w w' := by
 go_enter Tryz.func138, Tryz.ntmps138
 go_wp2
 exact bodyPost_ret (v := .agg #[.int .u8 ((n : Int) % 256), .int .u8 ((n : Int) / 256 % 256), .int .u8 ((n : Int) / 65536 % 256), .int .u8 ((n : Int) / 16777216)]) (by simp [results, Tryz.results138, go_sem]) rfl ⟨rfl, (Below.refl _ _).alloc (Nat.le_refl _) _⟩
theorem or_i64 (a c i : Nat) (ha : a < 2 ^ i) (hc : c < 256) (hi : i ≤ 24) : bits .or .i64 (a : Int) ((c * 2 ^ i : Nat) : Int) = ((a + c * 2 ^ i : Nat) : Int) := by
 have h2 : 2 ^ i ≤ 2 ^ 24 := Nat.pow_le_pow_right (by decide) hi
 have h3 : c * 2 ^ i ≤ 255 * 2 ^ 24 := Nat.mul_le_mul (by omega) h2
 rw [(bits_nat .i64 62 (by decide) (fun n h0 h1 => IntWalk.i64_in n (by omega)) a (c * 2 ^ i) (by omega) (by omega)).2, Nat.or_comm, Nat.mul_comm, ← Nat.two_pow_add_eq_or_of_lt ha c, Nat.add_comm]
def numK (c0 c1 c2 c3 : Nat) : Nat → Nat
 | 0 => 0
 | 1 => c0
 | 2 => c0 + 256 * c1
 | 3 => c0 + 256 * c1 + 65536 * c2
 | _ => c0 + 256 * c1 + 65536 * c2 + 16777216 * c3
set_option maxHeartbeats 1000000 in
theorem fnumber_any (c0 c1 c2 c3 : UInt8) (w : World) :
   Calls Tryz.prog 196 #[.agg #[.int .u8 c0.toNat, .int .u8 c1.toNat, .int .u8 c2.toNat, .int .u8 c3.toNat]] w fun e w' => e = .returned (.int .i64 (numK c0.toNat c1.toNat c2.toNat c3.toNat 4 : Nat)) ∧ Below w.heap.size w w' := by
 have h0 := c0.toNat_lt
 have h1 := c1.toNat_lt
 have h2 := c2.toNat_lt
 have h3 := c3.toNat_lt
 have o0 : bits .or .i64 0 (c0.toNat : Int) = ((c0.toNat : Nat) : Int) := by
   have := or_i64 0 c0.toNat 0 (by decide) h0 (by decide)
   simpa using this
 have o1 : bits .or .i64 (c0.toNat : Int) ((c1.toNat : Int) * 256) = ((c0.toNat + 256 * c1.toNat : Nat) : Int) := by
   have := or_i64 c0.toNat c1.toNat 8 (by omega) h1 (by decide)
   rw [show (2 : Nat) ^ 8 = 256 from rfl, Nat.mul_comm c1.toNat 256] at this
   rw [← this, Nat.mul_comm 256]; rfl
 have o2 : bits .or .i64 ((c0.toNat : Int) + 256 * (c1.toNat : Int)) ((c2.toNat : Int) * 65536) = ((c0.toNat + 256 * c1.toNat + 65536 * c2.toNat : Nat) : Int) := by
   have := or_i64 (c0.toNat + 256 * c1.toNat) c2.toNat 16 (by omega) h2 (by decide)
   rw [show (2 : Nat) ^ 16 = 65536 from rfl, Nat.mul_comm c2.toNat 65536] at this
   rw [← this, Nat.mul_comm 65536]; rfl
 have o3 : bits .or .i64 ((c0.toNat : Int) + 256 * (c1.toNat : Int) + 65536 * (c2.toNat : Int)) ((c3.toNat : Int) * 16777216) = ((c0.toNat + 256 * c1.toNat + 65536 * c2.toNat + 16777216 * c3.toNat : Nat) : Int) := by
   have := or_i64 (c0.toNat + 256 * c1.toNat + 65536 * c2.toNat) c3.toNat 24 (by omega) h3 (by decide)
   rw [show (2 : Nat) ^ 24 = 16777216 from rfl, Nat.mul_comm c3.toNat 16777216] at this
   rw [← this, Nat.mul_comm 16777216]; rfl
 generalize c0.toNat = n0 at *
 generalize c1.toNat = n1 at *
 generalize c2.toNat = n2 at *
 generalize c3.toNat = n3 at *
 have i0 : ∀ w, (Instr.index 186 (.agg #[.int .u8 n0, .int .u8 n1, .int .u8 n2, .int .u8 n3]) (.int .i64 0)).run Tryz.prog w = .ok (.int .u8 n0) w := fun _ => by kernel_rfl
 have i1 : ∀ w, (Instr.index 186 (.agg #[.int .u8 n0, .int .u8 n1, .int .u8 n2, .int .u8 n3]) (.int .i64 1)).run Tryz.prog w = .ok (.int .u8 n1) w := fun _ => by kernel_rfl
 have i2 : ∀ w, (Instr.index 186 (.agg #[.int .u8 n0, .int .u8 n1, .int .u8 n2, .int .u8 n3]) (.int .i64 2)).run Tryz.prog w = .ok (.int .u8 n2) w := fun _ => by kernel_rfl
 have i3 : ∀ w, (Instr.index 186 (.agg #[.int .u8 n0, .int .u8 n1, .int .u8 n2, .int .u8 n3]) (.int .i64 3)).run Tryz.prog w = .ok (.int .u8 n3) w := fun _ => by kernel_rfl
 have O0 := Lib.hid o0
 have O1 := Lib.hid o1
 have O2 := Lib.hid o2
 have O3 := Lib.hid o3
 clear o0 o1 o2 o3
 go_enter Tryz.func196, Tryz.ntmps196
 go_wp2_with fail
 go_loop [3, 7] (fun v i => ∃ k : Nat, k ≤ 4 ∧ i = .int .i64 k ∧ v = .int .i64 (numK n0 n1 n2 n3 k : Nat)) (fun _ i => 4 - (RowKit.intOf i).toNat)
 case atStart => exact ⟨0, by omega, rfl, rfl⟩
 case round =>
   obtain ⟨k, hk, rfl, rfl⟩ := hrel
   have hcases : k = 0 ∨ k = 1 ∨ k = 2 ∨ k = 3 ∨ k = 4 := by omega
   rcases hcases with rfl | rfl | rfl | rfl | rfl
   · simp only [numK]
     go_wp2
     go_round
     case rel => exact ⟨1, by omega, by go_num, congrArg (Value.int .i64) O0.out⟩
     case measure => simp [RowKit.intOf]
   · simp only [numK]
     go_wp2
     go_round
     case rel => exact ⟨2, by omega, by go_num, congrArg (Value.int .i64) O1.out⟩
     case measure => simp [RowKit.intOf]
   · simp only [numK]
     go_wp2
     go_round
     case rel => exact ⟨3, by omega, by go_num, congrArg (Value.int .i64) O2.out⟩
     case measure => simp [RowKit.intOf]
   · simp only [numK]
     go_wp2
     go_round
     case rel => exact ⟨4, by omega, by go_num, congrArg (Value.int .i64) O3.out⟩
     case measure => simp [RowKit.intOf]
   · simp only [numK]
     go_wp2
     go_ret
     exact ⟨rfl, (Below.refl _ _).alloc (Nat.le_refl _) _⟩
set_option maxHeartbeats 2000000 in
theorem make_any (ba : Option Addr) (bc : Nat) (r : List UInt8) (w : World) (h : Reads w (.slice ba r.length bc) r.length 1 (byts r)) (hl : r.length ≤ 10000000) :
   Calls Tryz.prog 97 #[.slice ba r.length bc] w (BytesP w (if 1048576 < r.length then none else some (frameB r))) := by
 have HR := Lib.hid h
 clear h
 obtain ⟨Q, hQ⟩ : ∃ Q, Q = BytesP w (if 1048576 < r.length then none else some (frameB r)) := ⟨_, rfl⟩
 have HQD := Lib.hid hQ
 rw [← hQ]
 clear hQ
 by_cases hbig : 1048576 < r.length
 · have HQ : Hid (Q (.returned (.tuple #[.slice none 0 0, .bool false])) w) := by rw [HQD.out, Hid, if_pos hbig]; exact ⟨rfl, Below.refl _ _⟩
   go_enter Tryz.func97, Tryz.ntmps97
   go_wp2
   exact HQ.out
 · have HQI : (if 1048576 < r.length then none else some (frameB r)) = some (frameB r) := if_neg hbig
   rw [HQI] at HQD
   clear HQI
   have HL8 := Lib.hid (frameB_length r)
   obtain ⟨n, hn⟩ : ∃ n, n = r.length := ⟨_, rfl⟩
   have HN := Lib.hid hn
   rw [← hn] at hbig hl HR ⊢
   have HL4 := Lib.hid (le4_nat n (by omega))
   have HFR : Hid (frameB r = sealB (le4 (BitVec.ofNat 32 n) ++ r)) := by rw [hn]; rfl
   have HX4 : Hid ((le4 (BitVec.ofNat 32 n) ++ r).length = n + 4) := by rw [Hid, List.length_append, le4_length, hn, Nat.add_comm]
   generalize BitVec.ofNat 32 n = X at *
   clear hn
   go_enter Tryz.func97, Tryz.ntmps97
   go_wp2_with fail
   refine (little_any n (by omega) w).mono ?_
   rintro e w1 ⟨rfl, hb1⟩
   have HB1 := Lib.hid hb1
   clear hb1
   go_upto_region 4 with fail
   have HA : Hid ((w1.alloc (.cells #[.int .u8 ((n : Int) % 256), .int .u8 ((n : Int) / 256 % 256), .int .u8 ((n : Int) / 65536 % 256), .int .u8 ((n : Int) / 16777216)] 186)).heap[w1.heap.size]? = some (.cells #[.int .u8 ((n : Int) % 256), .int .u8 ((n : Int) / 256 % 256), .int .u8 ((n : Int) / 65536 % 256), .int .u8 ((n : Int) / 16777216)] 186 (0, 0))) := heap_alloc_new _ _
   have HB2 := Lib.hid (HB1.out.alloc HB1.out.size (.cells #[.int .u8 ((n : Int) % 256), .int .u8 ((n : Int) / 256 % 256), .int .u8 ((n : Int) / 65536 % 256), .int .u8 ((n : Int) / 16777216)] 186))
   generalize w1.alloc (.cells #[.int .u8 ((n : Int) % 256), .int .u8 ((n : Int) / 256 % 256), .int .u8 ((n : Int) / 65536 % 256), .int .u8 ((n : Int) / 16777216)] 186) = w2 at *
   generalize w1.heap.size = b4 at *
   have HRA : Hid (Reads w2 (.slice (some ⟨b4, 0, none⟩) 4 4) 4 1 (byts (le4 X))) := by
     rw [Hid, HL4.out]; exact Reads.block HA.out 4 1 rfl
   have HR2 := Lib.hid (HR.out.later HB2.out)
   clear HA HL4
   have hbl : Below w2.heap.size w2 (w2.alloc (.cells #[.slice (some ⟨b4, 0, none⟩) 4 4, .slice ba n bc] 72)) := (Below.refl _ _).alloc (Nat.le_refl _) _
   have HC : Hid (Calls Tryz.prog 140 #[.slice (some ⟨w2.heap.size, 0, none⟩) 2 2] (w2.alloc (.cells #[.slice (some ⟨b4, 0, none⟩) 4 4, .slice ba n bc] 72)) fun e w' => ∃ a c, e = .returned (.slice a (n + 4) c) ∧ Row w' 5 1 (.slice a (n + 4) c) (n + 4) (byts (le4 X ++ r)) (fun k => w.heap.size ≤ k) ∧ Below w.heap.size w w') := by
     have hj : joined [((some ⟨b4, 0, none⟩ : Option Addr), le4 X, 4), (ba, r, bc)] = le4 X ++ r := by simp [joined]
     have h1 := concat_any (some ⟨w2.heap.size, 0, none⟩) 2 [(some ⟨b4, 0, none⟩, le4 X, 4), (ba, r, bc)] (w2.alloc (.cells #[.slice (some ⟨b4, 0, none⟩) 4 4, .slice ba n bc] 72))
       (by
         have := Reads.block (heap_alloc_new w2 (.cells #[.slice (some ⟨b4, 0, none⟩) 4 4, .slice ba n bc] 72)) 2 1 rfl
         rw [HN.out] at this ⊢
         exact this) (by simp) (by
         intro p hp
         simp only [List.mem_cons, List.not_mem_nil, or_false] at hp
         rcases hp with rfl | rfl
         · exact HRA.out.later hbl
         · have := HR2.out.later hbl
           rw [HN.out] at this ⊢
           exact this) (by simp only [lens, List.map_cons, List.map_nil, List.sum_cons, List.sum_nil, le4_length]; rw [← HN.out]; omega)
     rw [hj, HX4.out] at h1
     refine h1.mono ?_
     rintro e w' ⟨a, c, he, hr, hb⟩
     have hs := HB2.out.size
     exact ⟨a, c, he, hr.mono (fun k hk => by simp only [World.size_alloc] at hk; omega), (HB2.out.alloc hs _).trans (hb.mono (by simp only [World.size_alloc]; omega))⟩
   go_wp2_with fail
   refine HC.out.mono ?_
   rintro e w3 ⟨a3, c3, rfl, hr3, hb3⟩
   have HB3 := Lib.hid hb3
   have HS : Hid (Calls Tryz.prog 139 #[.slice a3 (n + 4) c3] w3 fun e w' => ∃ a c, e = .returned (.slice a (n + 8) c) ∧ Row w' 5 1 (.slice a (n + 8) c) (n + 8) (byts (frameB r)) (fun k => w3.heap.size ≤ k) ∧ Below w3.heap.size w3 w') := by
     have h1 := hr3.reads
     rw [← HX4.out] at h1
     have := seal_any a3 c3 (le4 X ++ r) w3 h1 (by rw [HX4.out]; omega)
     rw [HX4.out, ← HFR.out] at this
     exact this
   clear HC hr3 hb3 hbl
   go_wp2_with fail
   refine HS.out.mono ?_
   rintro e w4 ⟨a4, c4, rfl, hr4, hb4⟩
   have HQ : Hid (Q (.returned (.tuple #[.slice a4 (n + 8) c4, .bool true])) w4) := by
     rw [HQD.out]
     have hs := HB3.out.size
     refine ⟨⟨a4, c4, by rw [HL8.out, HN.out], ?_⟩, HB3.out.trans (hb4.mono hs)⟩
     rw [HL8.out, ← HN.out]
     exact hr4.mono (fun k hk => by omega)
   clear hr4 hb4
   go_wp2
   exact HQ.out
def NextP (w : World) (r : Option (List UInt8 × Nat)) : Ending → World → Prop := fun e w' =>
 (match r with
 | none => e = .returned (.tuple #[.slice none 0 0, .int .i64 0])
 | some (x, n) => ∃ a c, e = .returned (.tuple #[.slice a x.length c, .int .i64 n]) ∧ Row w' 5 1 (.slice a x.length c) x.length (byts x) (fun k => w.heap.size ≤ k)) ∧ Below w.heap.size w w'
theorem Row.dropN {w : World} {T : TypeId} {S : Nat → Prop} {g o n c : Nat} {xs : List Value} (h : Row w T 1 (.slice (some ⟨g, o, none⟩) n c) n xs S) (i : Nat) (hi : i ≤ n) (ao : Option Addr) (hao : ao = some ⟨g, o + i, none⟩ ∨ (c = i ∧ ao = some ⟨g, o, none⟩)) :
   Row w T 1 (.slice ao (n - i) (c - i)) (n - i) (xs.drop i) S := by
 obtain ⟨hl, h⟩ := h
 rcases h with ⟨hv, hn⟩ | ⟨g', o', c', cur, hv, hS, hg, hnc, hcm, hsz, hx⟩
 · cases hv
 cases hv
 refine ⟨by rw [List.length_drop, hl]; omega, .inr ?_⟩
 rcases hao with rfl | ⟨hc, rfl⟩
 · refine ⟨g, o + i, c - i, cur, rfl, hS, hg, by omega, by omega, by omega, ?_⟩
   rw [← hx, List.drop_take, List.drop_drop]
   congr 1; omega
 · refine ⟨g, o, c - i, cur, rfl, hS, hg, by omega, by omega, by omega, ?_⟩
   have e : n - i = 0 := by omega
   rw [e, Nat.zero_mul, List.take_zero, List.drop_eq_nil_of_le (by omega)]
theorem next_any (ba : Option Addr) (bc : Nat) (l : List UInt8) (w : World) (h : Reads w (.slice ba l.length bc) l.length 1 (byts l)) (hl : l.length ≤ 100000) :
   Calls Tryz.prog 163 #[.slice ba l.length bc] w (NextP w (nextB l)) := by
 have HR := Lib.hid h
 have hcap : l.length ≤ bc := by obtain ⟨_, ao, c, hv, hle, _⟩ := h; cases hv; exact hle
 clear h
 obtain ⟨Q, hQ⟩ : ∃ Q, Q = NextP w (nextB l) := ⟨_, rfl⟩
 have HQD := Lib.hid hQ
 rw [← hQ]
 clear hQ
 by_cases h8 : l.length < 8
 · have HQ : Hid (Q (.returned (.tuple #[.slice none 0 0, .int .i64 0])) w) := by
     rw [HQD.out, Hid]; unfold nextB; rw [if_pos h8]; exact ⟨rfl, Below.refl _ _⟩
   go_enter Tryz.func163, Tryz.ntmps163
   go_wp2
   exact HQ.out
 · obtain ⟨c0, c1, c2, c3, r, hlr⟩ : ∃ c0 c1 c2 c3 r, l = c0 :: c1 :: c2 :: c3 :: r := by
     match l, h8 with
     | c0 :: c1 :: c2 :: c3 :: r, _ => exact ⟨c0, c1, c2, c3, r, rfl⟩
     | [], h => simp at h
     | [_], h => simp at h
     | [_, _], h => simp at h
     | [_, _, _], h => simp at h
   have HNK : Hid (numK c0.toNat c1.toNat c2.toNat c3.toNat 4 = num4 l) := by rw [hlr, Hid]; rfl
   obtain ⟨g, o, c, hv, hnc, hg, hat⟩ := HR.out.at (by omega)
   cases hv
   have HLD : Hid (w.rangeAt g o [.int .u8 c0.toNat, .int .u8 c1.toNat, .int .u8 c2.toNat, .int .u8 c3.toNat]) := by
     intro j v hj
     refine hat j v ?_
     rw [hlr]
     match j, hj with
     | 0, hj => simpa [byts, u8v] using hj
     | 1, hj => simpa [byts, u8v] using hj
     | 2, hj => simpa [byts, u8v] using hj
     | 3, hj => simpa [byts, u8v] using hj
     | j + 4, hj => simp at hj
   have HNB : Hid (nextB l = if 1048576 < num4 l ∨ l.length < num4 l + 8 then none else match openB (l.take (num4 l + 8)) with
     | none => none
     | some x => some (x.drop 4, num4 l + 8)) := by rw [Hid]; unfold nextB; rw [if_neg h8]; rfl
   have HC := Lib.hid (fnumber_any c0 c1 c2 c3 w)
   rw [HNK.out] at HC
   have HN4 : Hid (num4 l ≤ 4294967296) := by rw [← HNK.out, Hid]; unfold numK; have := c0.toNat_lt; have := c1.toNat_lt; have := c2.toNat_lt; have := c3.toNat_lt; simp only; omega
   obtain ⟨n, hn⟩ : ∃ n, n = num4 l := ⟨_, rfl⟩
   rw [← hn] at HC HNB HN4
   have HOP : Hid (∀ w1, Below w.heap.size w w1 → n + 8 ≤ l.length → Calls Tryz.prog 197 #[.slice (some ⟨g, o, none⟩) (n + 8) bc] w1 (BytesP w1 (openB (l.take (n + 8))))) := by
     intro w1 hb1 hle
     have hT := (HR.out.later hb1).takeB (n + 8) hle
     have he : (l.take (n + 8)).length = n + 8 := by rw [List.length_take]; omega
     have := open_any (some ⟨g, o, none⟩) bc (l.take (n + 8)) w1 hT (by omega)
     rwa [he] at this
   have HOL : Hid (n + 8 ≤ l.length → ∀ x, openB (l.take (n + 8)) = some x → x.length = n + 4) := by
     intro hle x hx
     have he : (l.take (n + 8)).length = n + 8 := by rw [List.length_take]; omega
     unfold openB at hx
     split at hx
     · cases hx; rw [List.length_take, he]; omega
     · cases hx
   obtain ⟨ln, hln⟩ : ∃ ln, ln = l.length := ⟨_, rfl⟩
   have HLN := Lib.hid hln
   rw [← hln] at hl hcap h8 HNB HOP HOL hnc ⊢
   clear HR hlr hat HNK hn hln
   have hat : ∀ w, (Instr.arrayAt 186 (.slice (some ⟨g, o, none⟩) ln bc)).run Tryz.prog w = .ok (.pointer (some ⟨g, o, none⟩)) w := fun w => run_arrayAt w _ _ 4 _ ln bc Tryz.underlying186 (by omega)
   have hc0 : w.cell? ⟨g, o, none⟩ = some (.int .u8 c0.toNat) := HLD.out 0 _ rfl
   have hc1 : w.cell? ⟨g, o + 1, none⟩ = some (.int .u8 c1.toNat) := HLD.out 1 _ rfl
   have hc2 : w.cell? ⟨g, o + 2, none⟩ = some (.int .u8 c2.toNat) := HLD.out 2 _ rfl
   have hc3 : w.cell? ⟨g, o + 3, none⟩ = some (.int .u8 c3.toNat) := HLD.out 3 _ rfl
   have hn4 := HN4.out
   by_cases hbig : 1048576 < n
   · go_enter Tryz.func163, Tryz.ntmps163
     go_wp2_with (simp only [hat])
     refine HC.out.mono ?_
     rintro e w1 ⟨rfl, hb1⟩
     have HB1 := Lib.hid hb1
     have HQ1 : Hid (Q (.returned (.tuple #[.slice none 0 0, .int .i64 0])) w1) := by
       rw [HQD.out, Hid, HNB.out, if_pos (.inl hbig)]; exact ⟨rfl, HB1.out⟩
     clear hb1 HC
     go_wp2
     exact HQ1.out
   · by_cases hsh : ln < n + 8
     · go_enter Tryz.func163, Tryz.ntmps163
       go_wp2_with (simp only [hat])
       refine HC.out.mono ?_
       rintro e w1 ⟨rfl, hb1⟩
       have HB1 := Lib.hid hb1
       have HQ1 : Hid (Q (.returned (.tuple #[.slice none 0 0, .int .i64 0])) w1) := by
         rw [HQD.out, Hid, HNB.out, if_pos (.inr hsh)]; exact ⟨rfl, HB1.out⟩
       clear hb1 HC
       go_wp2
       exact HQ1.out
     · have HLE := Lib.hid (show n + 8 ≤ ln by omega)
       go_enter Tryz.func163, Tryz.ntmps163
       go_wp2_with (simp only [hat])
       refine HC.out.mono ?_
       rintro e w1 ⟨rfl, hb1⟩
       have HB1 := Lib.hid hb1
       have HOP1 := Lib.hid (HOP.out w1 hb1 HLE.out)
       have HOL1 := Lib.hid (HOL.out HLE.out)
       have HNB1 : Hid (nextB l = match openB (l.take (n + 8)) with
         | none => none
         | some x => some (x.drop 4, n + 8)) := by rw [Hid, HNB.out, if_neg (by omega)]
       clear hb1 HC HOP HOL HNB
       generalize l.take (n + 8) = lt at *
       cases hop : openB lt with
       | none =>
         rw [hop] at HOP1 HNB1
         go_wp2_with fail
         refine HOP1.out.mono ?_
         rintro e w2 ⟨rfl, hb2⟩
         have HQ1 : Hid (Q (.returned (.tuple #[.slice none 0 0, .int .i64 0])) w2) := by
           rw [HQD.out, Hid, HNB1.out]; exact ⟨rfl, HB1.out.trans (hb2.mono HB1.out.size)⟩
         clear hb2 HOP1
         go_wp2
         exact HQ1.out
       | some x =>
         have HX := Lib.hid (HOL1.out x hop)
         rw [hop] at HOP1 HNB1
         clear HOL1 hop
         go_wp2_with fail
         refine HOP1.out.mono ?_
         rintro e w2 ⟨⟨a, c2, rfl, hrow⟩, hb2⟩
         rw [HX.out] at hrow ⊢
         have hrow2 := hrow
         obtain ⟨g1, o1, c1', cur, hv, -, -, hnc1, -⟩ := hrow2.open (by omega)
         cases hv
         have hd := fun ao hao => hrow.dropN 4 (by omega) ao hao
         have HQ1 : Hid (∀ ao, (ao = some ⟨g1, o1 + 4, none⟩ ∨ (c2 = 4 ∧ ao = some ⟨g1, o1, none⟩)) → Q (.returned (.tuple #[.slice ao n (c2 - 4), .int .i64 ((n : Int) + 8)])) w2) := by
           intro ao hao
           have h1 := hd ao hao
           rw [HQD.out, HNB1.out]
           have e1 : (x.drop 4).length = n := by rw [List.length_drop, HX.out]; omega
           refine ⟨⟨ao, c2 - 4, by rw [e1]; rfl, ?_⟩, HB1.out.trans (hb2.mono HB1.out.size)⟩
           rw [e1]
           have hs := HB1.out.size
           have : n + 4 - 4 = n := by omega
           rw [this] at h1
           unfold byts at h1 ⊢
           rw [List.map_drop]
           exact h1.mono (fun k hk => by omega)
         clear hb2 HOP1 hd hrow hrow2
         go_wp2_with fail
         all_goals first
           | exact HQ1.out _ (.inl rfl)
           | exact HQ1.out _ (.inr ⟨by omega, rfl⟩)
           | (have h4 : c2 = 4 := by omega
              subst h4
              exact HQ1.out _ (.inr ⟨rfl, rfl⟩))
end Go.Proofs.YtgdmdbdljmlkkaaGreatDoor
