/- RefNext, RefRecs -/
import Derived.Test.YtgdmdbdljmlkkaaGreatDoorTz23
import Derived.Laws.IdiomStrings
import Derived.BigQuiet
set_option maxRecDepth 100000
set_option linter.unusedVariables false
set_option linter.unusedSimpArgs false
namespace Go.Proofs.YtgdmdbdljmlkkaaGreatDoor
open Go.RowKit
set_option maxHeartbeats 800000 in
theorem ropen_any (ba : Option Addr) (bc : Nat) (l : List UInt8) (w : World) (h : Reads w (.slice ba l.length bc) l.length 1 (byts l)) (hl : l.length ≤ 100000) :
   Calls Tryz.prog 164 #[.slice ba l.length bc] w fun e w' => (match openB l with
     | none => e = .returned (.tuple #[.slice none 0 0, .bool false])
     | some x => e = .returned (.tuple #[.slice ba x.length bc, .bool true])) ∧ Below w.heap.size w w' := by
 have HR := Lib.hid h
 have hcap : l.length ≤ bc := by obtain ⟨_, ao, c, hv, hle, _⟩ := h; cases hv; exact hle
 clear h
 obtain ⟨Q, hQ⟩ : ∃ Q : Ending → World → Prop, Q = fun e w' => (match openB l with
     | none => e = .returned (.tuple #[.slice none 0 0, .bool false])
     | some x => e = .returned (.tuple #[.slice ba x.length bc, .bool true])) ∧ Below w.heap.size w w' := ⟨_, rfl⟩
 have HQD := Lib.hid hQ
 rw [← hQ]
 clear hQ
 by_cases h4 : l.length < 4
 · have HO : Hid (openB l = none) := by unfold openB; rw [Hid, if_neg (by omega)]
   have HQ : Hid (∀ k, Q (.returned (.tuple #[.slice none 0 0, .bool false])) (w.drewN k)) := by
     intro k
     rw [HQD.out, HO.out]; exact ⟨rfl, rfl, rfl, rfl, Nat.le_refl _, fun _ _ => rfl⟩
   have hd : decide ((l.length : Int) - 4 < 0) = true := by simp; omega
   go_enter Tryz.func164, Tryz.ntmps164
   go_upto_region 2 with fail
   go_quiet (fail)
   go_wp2
   exact HQ.out _
 · obtain ⟨n, hn⟩ : ∃ n, n + 4 = l.length := ⟨l.length - 4, by omega⟩
   have HN := Lib.hid hn
   have hd : decide ((n : Int) < 0) = false := by simp
   have HT := Lib.hid (HR.out.takeB n (by omega))
   have htl : (l.take n).length = n := by rw [List.length_take]; omega
   have HTL := Lib.hid htl
   have HSU : Hid (∀ w', Below w.heap.size w w' → Calls Tryz.prog 172 #[.slice ba n bc] w' fun e w'' => e = .returned (.int .u32 (crcB (l.take n)).toNat) ∧ w'' = w') := by
     intro w' hb
     have := rsum_any ba bc (l.take n) w' (HT.out.later hb) (by omega)
     rwa [htl] at this
   obtain ⟨g, o, c, hv, -, -, hat⟩ := HR.out.at (by omega)
   cases hv
   have HS : Hid (∀ w', Below w.heap.size w w' → Reads w' (.slice (some ⟨g, o + n, none⟩) 4 (bc - n)) 4 1 (byts (l.drop n))) := by
     intro w' hb
     have := (HR.out.later hb).drop n (by omega) (some ⟨g, o + n, none⟩) (fun _ => rfl) (by simp)
     have e4 : l.length - n = 4 := by omega
     rw [e4] at this
     unfold byts at this ⊢
     rwa [List.map_drop]
   have HL4 : Hid ((l.drop n).length = 4) := by rw [Hid, List.length_drop]; omega
   have HOB : Hid (openB l = if le4 (crcB (l.take n)) = l.drop n then some (l.take n) else none) := by
     have e : l.length - 4 = n := by omega
     unfold openB sealB
     rw [Hid, e]
     have hsplit : l = l.take n ++ l.drop n := (List.take_append_drop n l).symm
     by_cases h : le4 (crcB (l.take n)) = l.drop n
     · rw [if_pos h, if_pos ⟨by omega, by rw [h]; exact hsplit.symm⟩]
     · rw [if_neg h, if_neg (fun x => h (List.append_cancel_left (x.2.trans hsplit)))]
   have HLI := Lib.hid (fun w' => rlittle_any (crcB (l.take n)) w')
   have hcv : ∀ w', Below w.heap.size w w' → (convert 72 9 (.slice (some ⟨g, o + n, none⟩) 4 (bc - n))).run Tryz.prog w' = .ok (.string ⟨(l.drop n).toArray⟩) w' := by
     intro w' hb
     have h1 := HS.out w' hb
     have h2 := HL4.out
     have := conv_all w' (some ⟨g, o + n, none⟩) (bc - n) (l.drop n) (by rw [h2]; exact h1)
     rwa [h2] at this
   have HQN : Hid (∀ w', Below w.heap.size w w' → Q (.returned (if le4 (crcB (l.take n)) = l.drop n then .tuple #[.slice (some ⟨g, o, none⟩) n bc, .bool true] else .tuple #[.slice none 0 0, .bool false])) w') := by
     intro w' hb
     rw [HQD.out, HOB.out]
     by_cases h : le4 (crcB (l.take n)) = l.drop n
     · rw [if_pos h, if_pos h]; exact ⟨by simp only [HTL.out], hb⟩
     · rw [if_neg h, if_neg h]; exact ⟨rfl, hb⟩
   have hnb : n + 4 ≤ bc := by omega
   clear hat htl
   obtain ⟨ln, hln⟩ : ∃ ln, ln = l.length := ⟨_, rfl⟩
   rw [← hln] at hn hl hcap ⊢
   clear HR HN h4 HOB HT HTL hln
   subst hn
   generalize crcB (l.take n) = X at *
   generalize l.drop n = ld at *
   have hi0 : (0 : Int) ≤ (n : Int) := by omega
   have hi1 : (n : Int) ≤ (bc : Int) := by omega
   have hi2 : (n : Int) ≤ (n : Int) + 4 := by omega
   have hi3 : (n : Int) + 4 ≤ (bc : Int) := by omega
   go_enter Tryz.func164, Tryz.ntmps164
   go_upto_region 2 with fail
   have hb0 : Below w.heap.size w w.drew := ⟨rfl, rfl, rfl, Nat.le_refl _, fun _ _ => rfl⟩
   have HB0 := Lib.hid hb0
   have hcvd := hcv _ hb0
   have HCV := Lib.hid hcv
   clear hcv hb0 hcvd
   have hbn : ¬ bc = n := by omega
   refine wp_region_held_drew (S := fun w' => (convert 72 9 (.slice (some ⟨g, o + n, none⟩) 4 (bc - n))).run Tryz.prog w' = .ok (.string ⟨ld.toArray⟩) w') (by kernel_rfl) (HCV.out _ HB0.out) (fun hHeld => ?_)
   refine wpAnyH_take (i := 0) (oi := ⟨_, _, _, _, _, _⟩) (v := ?_) rfl (by kernel_rfl) (by kernel_rfl) (by kernel_rfl) (fun _ _ _ h => h) (Or.inl ⟨by rfl, ?hy⟩) (by assumption) ?rest
   case hy => (intro w hSw; (try dsimp only at hSw); go_simp; all_goals (with_reducible rfl))
   case rest =>
   try simp only [Act.put, List.setIfInBounds_toArray, List.set_cons_zero, List.set_cons_succ]
   refine wpAnyH_take (i := 1) (oi := ⟨_, _, _, _, _, _⟩) (v := ?_) rfl (by kernel_rfl) (by kernel_rfl) (by kernel_rfl) (fun _ _ _ h => h) (Or.inl ⟨by rfl, ?hy⟩) (by assumption) ?rest
   case hy => (intro w hSw; (try dsimp only at hSw); go_simp; all_goals (with_reducible rfl))
   case rest =>
   try simp only [Act.put, List.setIfInBounds_toArray, List.set_cons_zero, List.set_cons_succ]
   refine wpAnyH_take (i := 2) (oi := ⟨_, _, _, _, _, _⟩) (v := ?_) rfl (by kernel_rfl) (by kernel_rfl) (by kernel_rfl) (fun _ _ _ h => h) (Or.inl ⟨by rfl, ?hy⟩) (by assumption) ?rest
   case hy => (intro w hSw; (try dsimp only at hSw); go_simp; all_goals (with_reducible rfl))
   case rest =>
   try simp only [Act.put, List.setIfInBounds_toArray, List.set_cons_zero, List.set_cons_succ]
   refine wpAnyH_take (i := 3) (oi := ⟨_, _, _, _, _, _⟩) (v := ?_) rfl (by kernel_rfl) (by kernel_rfl) (by kernel_rfl) (fun _ _ _ h => h) (Or.inl ⟨by rfl, ?hy⟩) (by assumption) ?rest
   case hy => (intro w hSw; (try dsimp only at hSw); go_simp; all_goals (with_reducible rfl))
   case rest =>
   try simp only [Act.put, List.setIfInBounds_toArray, List.set_cons_zero, List.set_cons_succ]
   refine wpAnyH_take (i := 4) (oi := ⟨_, _, _, _, _, _⟩) (v := ?_) rfl (by kernel_rfl) (by kernel_rfl) (by kernel_rfl) (fun _ _ _ h => h) (Or.inl ⟨by rfl, ?hy⟩) (by assumption) ?rest
   case hy => (intro w hSw; (try dsimp only at hSw); go_simp; all_goals (with_reducible rfl))
   case rest =>
   try simp only [Act.put, List.setIfInBounds_toArray, List.set_cons_zero, List.set_cons_succ]
   refine wpAnyH_take (i := 5) (oi := ⟨_, _, _, _, _, _⟩) (v := ?_) rfl (by kernel_rfl) (by kernel_rfl) (by kernel_rfl) (fun _ _ _ h => h) (Or.inl ⟨by rfl, ?hy⟩) (by assumption) ?rest
   case hy => (intro w hSw; (try dsimp only at hSw); go_simp; all_goals (with_reducible rfl))
   case rest =>
   try simp only [Act.put, List.setIfInBounds_toArray, List.set_cons_zero, List.set_cons_succ]
   refine wpAnyH_take (i := 9) (oi := ⟨_, _, _, _, _, _⟩) (v := ?_) rfl (by kernel_rfl) (by kernel_rfl) (by kernel_rfl) (fun _ _ _ h => h) (Or.inl ⟨by rfl, ?hy⟩) (by assumption) ?rest
   case hy => (intro w hSw; (try dsimp only at hSw); go_simp; all_goals (with_reducible rfl))
   case rest =>
   try simp only [Act.put, List.setIfInBounds_toArray, List.set_cons_zero, List.set_cons_succ]
   refine wpAnyH_take (i := 10) (oi := ⟨_, _, _, _, _, _⟩) (v := ?_) rfl (by kernel_rfl) (by kernel_rfl) (by kernel_rfl) (fun _ _ _ h => h) (Or.inl ⟨by rfl, ?hy⟩) (by assumption) ?rest
   case hy => (intro w hSw; (try dsimp only at hSw); go_simp; all_goals (with_reducible rfl))
   case rest =>
   try simp only [Act.put, List.setIfInBounds_toArray, List.set_cons_zero, List.set_cons_succ]
   refine wpAnyH_take (i := 11) (oi := ⟨_, _, _, _, _, _⟩) (v := ?_) rfl (by kernel_rfl) (by kernel_rfl) (by kernel_rfl) (fun _ _ _ h => h) (Or.inl ⟨by rfl, ?hy⟩) (by assumption) ?rest
   case hy => (intro w hSw; (try dsimp only at hSw); go_simp; all_goals (with_reducible rfl))
   case rest =>
   try simp only [Act.put, List.setIfInBounds_toArray, List.set_cons_zero, List.set_cons_succ]
   refine wpAnyH_take (i := 12) (oi := ⟨_, _, _, _, _, _⟩) (v := ?_) rfl (by kernel_rfl) (by kernel_rfl) (by kernel_rfl) (fun _ _ _ h => h) (Or.inl ⟨by rfl, ?hy⟩) (by assumption) ?rest
   case hy => (intro w hSw; (try dsimp only at hSw); go_simp; all_goals (with_reducible rfl))
   case rest =>
   try simp only [Act.put, List.setIfInBounds_toArray, List.set_cons_zero, List.set_cons_succ]
   refine wpAnyH_ready (rs := [6]) (by kernel_rfl) (by simp) (AllReadyH.cons (o := ⟨_, _, _, _, _, _⟩) rfl (fun K hK => ?_) AllReadyH.nil)
   go_simp
   go_at_call 172
   refine (HSU.out _ HB0.out).mono ?_
   rintro e w2 ⟨rfl, rfl⟩
   refine hK.out _ _ (HCV.out _ HB0.out) (fun hHeld => ?_)
   clear hK K
   try simp only [Act.put, List.setIfInBounds_toArray, List.set_cons_zero, List.set_cons_succ]
   refine wpAnyH_ready (rs := [7]) (by kernel_rfl) (by simp) (AllReadyH.cons (o := ⟨_, _, _, _, _, _⟩) rfl (fun K hK => ?_) AllReadyH.nil)
   go_simp
   go_at_call 137
   refine (HLI.out _).mono ?_
   rintro e w2 ⟨rfl, hrow, hb⟩
   have HB2 := Lib.hid (HB0.out.trans (hb.mono HB0.out.size))
   have hcw := conv_all _ _ _ (le4 X) (by rw [le4_length]; exact hrow.reads)
   rw [le4_length] at hcw
   have hcw2 : (convert 72 9 (.slice (some ⟨w.heap.size, 0, none⟩) 4 4)).run Tryz.prog w2 = .ok (.string ⟨(le4 X).toArray⟩) w2 := hcw
   clear hrow hb hcw
   refine hK.out _ _ (HCV.out _ HB2.out) (fun hHeld => ?_)
   clear hK K
   try simp only [Act.put, List.setIfInBounds_toArray, List.set_cons_zero, List.set_cons_succ]
   refine wpAnyH_ready (rs := [8]) (by kernel_rfl) (by simp) (AllReadyH.cons (o := ⟨_, _, _, _, _, _⟩) rfl (fun K hK => ?_) AllReadyH.nil)
   go_simp
   refine hK.out _ _ (HCV.out _ HB2.out) (fun hHeld => ?_)
   clear hK K
   try simp only [Act.put, List.setIfInBounds_toArray, List.set_cons_zero, List.set_cons_succ]
   refine wpAnyH_take (i := 13) (oi := ⟨_, _, _, _, _, _⟩) (v := ?_) rfl (by kernel_rfl) (by kernel_rfl) (by kernel_rfl) (fun _ _ _ h => h) (Or.inl ⟨by rfl, ?hy⟩) (by assumption) ?rest
   case hy => (intro w hSw; (try dsimp only at hSw); go_simp; all_goals (with_reducible rfl))
   case rest =>
   try simp only [Act.put, List.setIfInBounds_toArray, List.set_cons_zero, List.set_cons_succ]
   refine wpAnyH_take (i := 14) (oi := ⟨_, _, _, _, _, _⟩) (v := ?_) rfl (by kernel_rfl) (by kernel_rfl) (by kernel_rfl) (fun _ _ _ h => h) (Or.inl ⟨by rfl, ?hy⟩) (by assumption) ?rest
   case hy => (intro w hSw; (try dsimp only at hSw); go_simp; all_goals (with_reducible rfl))
   case rest =>
   try simp only [Act.put, List.setIfInBounds_toArray, List.set_cons_zero, List.set_cons_succ]
   refine wpAnyH_done (by kernel_rfl) ?_ _
   by_cases heq : le4 X = ld
   · have hne : (le4 X == ld) = true := by simpa using heq
     have HQ2 := Lib.hid (HQN.out w2 HB2.out)
     rw [if_pos heq] at HQ2
     rw [hne]
     clear heq hne HQN HQD
     go_wp2
     exact HQ2.out
   · have hne : (le4 X == ld) = false := by simpa using heq
     have HQ2 := Lib.hid (HQN.out w2 HB2.out)
     rw [if_neg heq] at HQ2
     rw [hne]
     clear heq hne HQN HQD
     go_wp2
     exact HQ2.out
def NextR (ba : Option Addr) (bc : Nat) (l : List UInt8) (w : World) (r : Option (List UInt8 × Nat)) : Ending → World → Prop := fun e w' => ∃ xv nv, e = .returned (.tuple #[xv, nv]) ∧ (match r with
 | none => xv = .slice none 0 0 ∧ nv = .int .i64 0
 | some (x, n) => (∃ a c, xv = .slice a x.length c) ∧ nv = .int .i64 n ∧ ∀ W, Reads W (.slice ba l.length bc) l.length 1 (byts l) → Reads W xv x.length 1 (byts x)) ∧ Below w.heap.size w w'
set_option maxHeartbeats 1000000 in
theorem rnext_any (ba : Option Addr) (bc : Nat) (l : List UInt8) (w : World) (h : Reads w (.slice ba l.length bc) l.length 1 (byts l)) (hl : l.length ≤ 100000) :
   Calls Tryz.prog 125 #[.slice ba l.length bc] w (NextR ba bc l w (nextB l)) := by
 have HR := Lib.hid h
 have hcap : l.length ≤ bc := by obtain ⟨_, ao, c, hv, hle, _⟩ := h; cases hv; exact hle
 clear h
 obtain ⟨Q, hQ⟩ : ∃ Q, Q = NextR ba bc l w (nextB l) := ⟨_, rfl⟩
 have HQD := Lib.hid hQ
 rw [← hQ]
 clear hQ
 by_cases h8 : l.length < 8
 · have HQ : Hid (Q (.returned (.tuple #[.slice none 0 0, .int .i64 0])) w) := by
     rw [HQD.out, Hid]; unfold nextB; rw [if_pos h8]; exact ⟨_, _, rfl, ⟨rfl, rfl⟩, Below.refl _ _⟩
   go_enter Tryz.func125, Tryz.ntmps125
   go_wp2
   exact HQ.out
 · obtain ⟨c0, c1, c2, c3, r, hlr⟩ : ∃ c0 c1 c2 c3 r, l = c0 :: c1 :: c2 :: c3 :: r := by
     match l, h8 with
     | c0 :: c1 :: c2 :: c3 :: r, _ => exact ⟨c0, c1, c2, c3, r, rfl⟩
     | [], h => simp at h
     | [_], h => simp at h
     | [_, _], h => simp at h
     | [_, _, _], h => simp at h
   have hnum : ((c0.toNat : Int) + (c1.toNat : Int) * 256 + (c2.toNat : Int) * 65536 + (c3.toNat : Int) * 16777216) = (num4 l : Int) := by
     rw [hlr]; unfold num4; simp only [List.getD_cons_zero, List.getD_cons_succ]; omega
   have HNUM := Lib.hid hnum
   obtain ⟨g, o, c, hv, hnc, hg, hat⟩ := HR.out.at (by omega)
   obtain ⟨rfl, rfl⟩ : ba = some ⟨g, o, none⟩ ∧ bc = c := by cases hv; exact ⟨rfl, rfl⟩
   clear hv
   have HNB : Hid (nextB l = if 1048576 < num4 l ∨ l.length < num4 l + 8 then none else match openB (l.take (num4 l + 8)) with
     | none => none
     | some x => some (x.drop 4, num4 l + 8)) := by rw [Hid]; unfold nextB; rw [if_neg h8]; rfl
   have HC : Hid (w.cell? ⟨g, o, none⟩ = some (.int .u8 c0.toNat) ∧ w.cell? ⟨g, o + 1, none⟩ = some (.int .u8 c1.toNat) ∧ w.cell? ⟨g, o + 2, none⟩ = some (.int .u8 c2.toNat) ∧ w.cell? ⟨g, o + 3, none⟩ = some (.int .u8 c3.toNat)) := by
     refine ⟨hat 0 _ ?_, hat 1 _ ?_, hat 2 _ ?_, hat 3 _ ?_⟩ <;> rw [hlr] <;> simp [byts, u8v]
   have hn4 : num4 l ≤ 4294967296 := by have := c0.toNat_lt; have := c1.toNat_lt; have := c2.toNat_lt; have := c3.toNat_lt; omega
   have hp0 := c0.toNat_lt
   have hp1 := c1.toNat_lt
   have hp2 := c2.toNat_lt
   have hp3 := c3.toNat_lt
   generalize c0.toNat = d0 at *
   generalize c1.toNat = d1 at *
   generalize c2.toNat = d2 at *
   generalize c3.toNat = d3 at *
   obtain ⟨n, hn⟩ : ∃ n, n = num4 l := ⟨_, rfl⟩
   rw [← hn] at HNUM HNB hn4
   have HOP : Hid (n + 8 ≤ l.length → ∀ w', Below w.heap.size w w' → Calls Tryz.prog 164 #[.slice (some ⟨g, o, none⟩) (n + 8) bc] w' fun e w'' => (match openB (l.take (n + 8)) with
     | none => e = .returned (.tuple #[.slice none 0 0, .bool false])
     | some x => e = .returned (.tuple #[.slice (some ⟨g, o, none⟩) x.length bc, .bool true])) ∧ Below w'.heap.size w' w'') := by
     intro hle w' hb
     have hT := (HR.out.later hb).takeB (n + 8) hle
     have he : (l.take (n + 8)).length = n + 8 := by rw [List.length_take]; omega
     have := ropen_any (some ⟨g, o, none⟩) bc (l.take (n + 8)) w' hT (by omega)
     rwa [he] at this
   have HOL : Hid (n + 8 ≤ l.length → ∀ x, openB (l.take (n + 8)) = some x → x.length = n + 4 ∧ x.drop 4 = (l.drop 4).take n) := by
     intro hle x hx
     have he : (l.take (n + 8)).length = n + 8 := by rw [List.length_take]; omega
     unfold openB at hx
     split at hx
     · cases hx
       refine ⟨by rw [List.length_take, he]; omega, ?_⟩
       rw [he, List.take_take, List.drop_take]
       congr 1; omega
     · cases hx
   have HRD : Hid (∀ ao, ao ≠ none → (¬ bc = 4 → ao = some (⟨g, o + 4, none⟩ : Addr)) → n + 8 ≤ l.length → ∀ W, Reads W (.slice (some ⟨g, o, none⟩) l.length bc) l.length 1 (byts l) → Reads W (.slice ao n (bc - 4)) n 1 (byts ((l.drop 4).take n))) := by
     intro ao h1 h2 hle W hW
     have hd := hW.drop 4 (by omega) ao h2 h1
     have he : (byts l).drop 4 = byts (l.drop 4) := by unfold byts; rw [List.map_drop]
     rw [he] at hd
     have el : (l.drop 4).length = l.length - 4 := List.length_drop
     rw [← el] at hd
     have := Reads.takeB hd n (by omega)
     have hlen : ((l.drop 4).take n).length = n := by rw [List.length_take, el]; omega
     rwa [hlen] at this
   obtain ⟨ln, hln⟩ : ∃ ln, ln = l.length := ⟨_, rfl⟩
   have HLN := Lib.hid hln
   rw [← hln] at hl hcap h8 HNB HOP HOL hnc ⊢
   clear HR hat hn hln hnum hlr
   obtain ⟨hc0, hc1, hc2, hc3⟩ := HC.out
   go_enter Tryz.func125, Tryz.ntmps125
   go_upto_region 3 with fail
   go_quiet (fail)
   rw [HNUM.out]
   have HBD := Lib.hid (show Below w.heap.size w (w.drewN nq) from ⟨rfl, rfl, rfl, Nat.le_refl _, fun _ _ => rfl⟩)
   generalize w.drewN nq = wd at *
   clear hc0 hc1 hc2 hc3 HC HNUM hp0 hp1 hp2 hp3
   have HNIL : Hid (nextB l = none → ∀ w', Below w.heap.size w w' → Q (.returned (.tuple #[.slice none 0 0, .int .i64 0])) w') := by
     intro hq w' hb
     rw [HQD.out, hq]; exact ⟨_, _, rfl, ⟨rfl, rfl⟩, hb⟩
   by_cases hbig : 1048576 < n
   · have HQ1 := Lib.hid (HNIL.out (by rw [HNB.out, if_pos (.inl hbig)]) wd HBD.out)
     go_wp2
     exact HQ1.out
   by_cases hsh : ln < n + 8
   · have HQ1 := Lib.hid (HNIL.out (by rw [HNB.out, if_pos (.inr hsh)]) wd HBD.out)
     have hs : (ln : Int) - 8 < (n : Int) := by omega
     go_wp2
     exact HQ1.out
   have HLE : Hid (n + 8 ≤ ln) := by show n + 8 ≤ ln; omega
   have hs : (n : Int) ≤ (ln : Int) - 8 := by omega
   have hi1 : (n : Int) + 8 ≤ (bc : Int) := by omega
   have HOP1 := Lib.hid (HOP.out HLE.out wd HBD.out)
   have HOL1 := Lib.hid (HOL.out HLE.out)
   have HNB1 : Hid (nextB l = match openB (l.take (n + 8)) with
     | none => none
     | some x => some (x.drop 4, n + 8)) := by rw [Hid, HNB.out, if_neg (by omega)]
   have hb4 : ¬ bc = 4 := by omega
   have HRD1 := Lib.hid (HRD.out (some ⟨g, o + 4, none⟩) (by simp) (fun _ => rfl) (by rw [← HLN.out]; exact HLE.out))
   clear HOP HOL HNB HRD
   cases hop : openB (l.take (n + 8)) with
   | none =>
     rw [hop] at HOP1 HNB1
     clear hop HOL1
     go_wp2_with fail
     refine HOP1.out.mono ?_
     rintro e w2 ⟨rfl, hb2⟩
     have HQ1 := Lib.hid (HNIL.out HNB1.out w2 (HBD.out.trans (hb2.mono HBD.out.size)))
     clear hb2 HOP1 HNIL
     go_wp2
     exact HQ1.out
   | some x =>
     obtain ⟨hx1, hx2⟩ := HOL1.out x hop
     rw [hop] at HOP1 HNB1
     have HX2 := Lib.hid hx2
     clear hop HOL1 HNIL hx2
     go_wp2_with fail
     refine HOP1.out.mono ?_
     rintro e w2 ⟨rfl, hb2⟩
     have HQ1 : Hid (Q (.returned (.tuple #[.slice (some ⟨g, o + 4, none⟩) n (bc - 4), .int .i64 ((n : Int) + 8)])) w2) := by
       rw [HQD.out, HNB1.out]
       have e1 : (x.drop 4).length = n := by rw [List.length_drop, hx1]; omega
       refine ⟨_, _, rfl, ⟨⟨some ⟨g, o + 4, none⟩, bc - 4, by rw [e1]⟩, by simp, fun W hW => ?_⟩, HBD.out.trans (hb2.mono HBD.out.size)⟩
       rw [e1, HX2.out]; exact HRD1.out W hW
     rw [hx1]
     clear hb2 HOP1 HQD HNB1 HRD1 HX2
     go_wp2_with fail
     exact HQ1.out
end Go.Proofs.YtgdmdbdljmlkkaaGreatDoor
namespace Go.Proofs.YtgdmdbdljmlkkaaGreatDoor
open Go.RowKit Go.Lib
set_option maxHeartbeats 1000000 in
theorem iclone_any (ao : Option Addr) (c : Nat) (l : List Int) (w : World) (h : Reads w (.slice ao l.length c) l.length 1 (ints l)) (hn : l.length ≤ 2000000000) :
   Calls Tryz.prog 165 #[.slice ao l.length c] w fun e w' => ∃ v', e = .returned v' ∧ w'.ownsRow w.heap.size 3 1 v' l.length (ints l) ∧ Below w.heap.size w w' := by
 cases ao with
 | none =>
   obtain ⟨hl, _, _, he, _, hnn, _⟩ := h
   cases he
   obtain ⟨hl0, rfl⟩ := hnn rfl
   obtain rfl : l = [] := List.eq_nil_of_length_eq_zero hl0
   have he : (binOp .eql 40 (.slice none 0 0) (.slice none 0 0)).run Tryz.prog w = .ok (.bool true) w := by kernel_rfl
   go_enter Tryz.func165, Tryz.ntmps165
   go_wp2
   go_ret
   exact ⟨_, rfl, World.ownsRow_nil _ _ _ _, Below.refl _ _⟩
 | some ad =>
   have he : ∀ W, (binOp .eql 40 (.slice (some ad) l.length c) (.slice none 0 0)).run Tryz.prog W = .ok (.bool false) W := fun W => Lib.run_eql_slice_nil W _ _ (some ad) l.length c 0 0 Tryz.underlying40
   have H := Lib.hid h
   have H1 : Hid (∀ u ∈ ints l, u.oneCell' = true) := fun u hu => by
     obtain ⟨x, -, rfl⟩ := List.mem_map.1 hu
     rfl
   clear h
   go_enter Tryz.func165, Tryz.ntmps165
   go_wp2_with (at_builtin; refine wpList_app elemInt rfl rfl (v := .slice (some ⟨w.heap.size, 0, none⟩) 0 0) (n := 0) (xs := []) rfl (base := w.heap.size) (owns_empty _ _ _ _ (Nat.le_refl _) rfl) (y := .slice (some ad) l.length c) (m := l.length) (news := ints l) rfl (H.out.later ((Below.refl _ _).alloc (Nat.le_refl _) _)) H1.out (by unfold maxLen; omega) (by omega) (by simp) ?_; intro v' w' hr hg _)
   go_ret
   refine ⟨_, rfl, ?_, ?_⟩
   · rw [Nat.zero_add, List.nil_append] at hr
     exact hr
   · exact ((Below.refl _ _).alloc (Nat.le_refl _) _).grown hg (by simp) (fun k hk => by cases hk; exact Nat.le_refl _)
theorem isort_any (v : Value) (l : List Int) (w : World) (base : Nat) (hown : w.ownsRow base 3 1 v l.length (ints l)) (hs : l.length ≤ 1000) (hbase : base ≤ w.heap.size) :
   Calls Tryz.prog 114 #[v] w fun e w1 => e = .returned (.tuple #[]) ∧ Below base w w1 ∧ Reads w1 v l.length 1 (ints (sortL l)) := by
 rcases hown.2 with ⟨rfl, hn⟩ | ⟨g, cap, cur, rfl, hbg, hg, hnc, hcm, hcs, htk⟩
 · obtain rfl : l = [] := List.eq_nil_of_length_eq_zero hn
   refine (Tryz.slices_Sort_int_none none 0 w).mono ?_
   rintro e w1 ⟨rfl, rfl⟩
   refine ⟨rfl, Below.refl _ _, ?_⟩
   have e0 : sortL [] = [] := by simp [sortL]
   rw [e0]
   exact Reads.nil _ _
 · have hgl := (Array.getElem?_eq_some_iff.1 hg).1
   have hlen : (sortL l).length = l.length := List.length_mergeSort _
   refine (Tryz.slices_Sort_int g 0 cap l w (Go.holds_of_blockI hg (by rw [Nat.mul_one] at htk; exact htk)) hgl (by omega)).mono ?_
   rintro e w1 ⟨rfl, n, os, hw1⟩
   have hown1 : w1.ownsRow base 3 1 (.slice (some ⟨g, 0, none⟩) l.length cap) l.length (ints (sortL l)) := by
     rw [hw1]; exact Go.ownsRow_sortedI hlen hbg hg hnc hcm hcs
   have hgr1 : w.grownBy w1 (some g) := by rw [hw1]; exact Go.grownBy_sortedI _
   exact ⟨rfl, (Below.refl _ _).grown hgr1 hbase (fun k hk => by cases hk; exact hbg), reads_of_owns hown1⟩
end Go.Proofs.YtgdmdbdljmlkkaaGreatDoor
namespace Go.Proofs.YtgdmdbdljmlkkaaGreatDoor
open Go.RowKit
def SplitR (ba : Option Addr) (bc : Nat) (w : World) (l : List UInt8) : Ending → World → Prop := fun e w' => ∃ (v : Value) (X : List SL), e = .returned (.tuple #[v, .int .i64 (splitB l).2]) ∧ Row w' 72 1 v X.length (X.map SL.v) (fun k => w.heap.size ≤ k) ∧ (∀ x ∈ X, (∃ a c, x.v = .slice a x.l.length c) ∧ ∀ W, Reads W (.slice ba l.length bc) l.length 1 (byts l) → Reads W x.v x.l.length 1 (byts x.l)) ∧ X.map SL.l = (splitB l).1 ∧ 8 * X.length ≤ l.length ∧ Below w.heap.size w w'
set_option maxHeartbeats 2000000 in
theorem rsplit_any (ba : Option Addr) (bc : Nat) (l : List UInt8) (w : World) (h : Reads w (.slice ba l.length bc) l.length 1 (byts l)) (hl : l.length ≤ 100000) (hba : (ba = none ∧ bc = 0) ∨ ∃ g o, ba = some ⟨g, o, none⟩) :
   Calls Tryz.prog 69 #[.slice ba l.length bc] w (SplitR ba bc w l) := by
 have HR := Lib.hid h
 have hcap : l.length ≤ bc := by obtain ⟨_, ao, c, hv, hle, _⟩ := h; cases hv; exact hle
 have HBA := Lib.hid hba
 have HEN : Hid (∀ (v : Value) (X : List SL) w', Row w' 72 1 v X.length (X.map SL.v) (fun k => w.heap.size ≤ k) → (∀ x ∈ X, (∃ a c, x.v = .slice a x.l.length c) ∧ ∀ W, Reads W (.slice ba l.length bc) l.length 1 (byts l) → Reads W x.v x.l.length 1 (byts x.l)) → X.map SL.l = (splitB l).1 → 8 * X.length ≤ l.length → Below w.heap.size w w' → SplitR ba bc w l (.returned (.tuple #[v, .int .i64 (splitB l).2])) w') := fun v X w' h1 h2 h3 h4 h5 => ⟨v, X, rfl, h1, h2, h3, h4, h5⟩
 obtain ⟨Q, hQ⟩ : ∃ Q, Q = SplitR ba bc w l := ⟨_, rfl⟩
 rw [← hQ] at HEN ⊢
 clear h hba hQ
 go_enter Tryz.func69, Tryz.ntmps69
 go_wp2_with fail
 go_loopw [4, 5] (fun out at_ w' => ∃ (X : List SL) (k : Nat), at_ = .int .i64 k ∧ k ≤ l.length ∧ 8 * X.length ≤ k ∧ Hid (Row w' 72 1 out X.length (X.map SL.v) (fun k => w.heap.size ≤ k)) ∧ Hid (∀ x ∈ X, (∃ a c, x.v = .slice a x.l.length c) ∧ ∀ W, Reads W (.slice ba l.length bc) l.length 1 (byts l) → Reads W x.v x.l.length 1 (byts x.l)) ∧ Hid (splitB l = (X.map SL.l ++ (splitB (l.drop k)).1, k + (splitB (l.drop k)).2)) ∧ Hid (Below w.heap.size w w')) (fun _ at_ _ => l.length - (RowKit.intOf at_).toNat)
 case atStart => exact ⟨[], 0, rfl, by omega, by simp, Row.nil _ _ _ _, by simp [Hid], by simp [Hid], Below.refl _ _⟩
 case round =>
   obtain ⟨X, k, rfl, hk, hxk, HO, HX, HS, HB⟩ := hrel
   rcases HBA.out with ⟨rfl, rfl⟩ | ⟨g, o, rfl⟩
   · obtain rfl : l = [] := List.eq_nil_of_length_eq_zero (by omega)
     obtain rfl : k = 0 := by simpa using hk
     obtain rfl : X = [] := List.eq_nil_of_length_eq_zero (by omega)
     have HN := Lib.hid (rnext_any none 0 [] wr (Reads.nil _ _) (by simp))
     rw [nextB_nil] at HN
     simp only [List.length_nil] at *
     go_wp2_with fail
     refine HN.out.mono ?_
     rintro e w2 ⟨xv, nv, rfl, ⟨rfl, rfl⟩, hb2⟩
     have hsn : splitB [] = ([], 0) := splitB_none nextB_nil
     have HQ1 : Hid (Q (.returned (.tuple #[u4, .int .i64 0])) w2) := by
       have := HEN.out u4 [] w2 (HO.out.frame (fun k _ hk => hb2.block k hk)) HX.out (by rw [hsn]; rfl) (by simp) (HB.out.trans (hb2.mono HB.out.size))
       rwa [hsn] at this
     clear hb2 HN hsn
     go_wp2
     exact HQ1.out
   · by_cases hbk : bc = k
     · have hlk : l.length = k := by omega
       have hdr : l.drop k = [] := List.drop_eq_nil_of_le (by omega)
       rw [hdr, splitB_none nextB_nil] at HS
       have HN := Lib.hid (rnext_any (some ⟨g, o, none⟩) 0 [] wr ⟨by simp [byts], _, 0, rfl, Nat.le_refl _, (fun h => by cases h), fun ad had j u hu => by simp [byts] at hu⟩ (by simp))
       rw [nextB_nil] at HN
       simp only [List.length_nil] at HN
       rw [hlk] at HR hcap ⊢
       subst hbk
       go_wp2_with fail
       refine HN.out.mono ?_
       rintro e w2 ⟨xv, nv, rfl, ⟨rfl, rfl⟩, hb2⟩
       have HQ1 : Hid (Q (.returned (.tuple #[u4, .int .i64 bc])) w2) := by
         have := HEN.out u4 X w2 (HO.out.frame (fun k _ hk => hb2.block k hk)) HX.out (by rw [HS.out, List.append_nil]) (by omega) (HB.out.trans (hb2.mono HB.out.size))
         rw [HS.out] at this
         exact this
       clear hb2 HN
       go_wp2
       exact HQ1.out
     · have hdl : (l.drop k).length = l.length - k := List.length_drop
       have hrd : Reads wr (.slice (some ⟨g, o + k, none⟩) (l.drop k).length (bc - k)) (l.drop k).length 1 (byts (l.drop k)) := by
         have := (HR.out.later HB.out).drop k hk (some ⟨g, o + k, none⟩) (fun _ => rfl) (by simp)
         rw [hdl]
         unfold byts at this ⊢
         rwa [List.map_drop]
       have HRW : Hid (∀ (v : Value) n (xs : List Value), Reads wr v n 1 xs → (∃ a c, v = .slice a n c) → True) := fun _ _ _ _ _ => trivial
       have hn := rnext_any (some ⟨g, o + k, none⟩) (bc - k) (l.drop k) wr hrd (by omega)
       rw [hdl] at hn
       have HN := Lib.hid hn
       have hki : (k : Int) ≤ (l.length : Int) := by omega
       have hkc : (k : Int) ≤ (bc : Int) := by omega
       clear hn hrd HRW
       cases hnb : nextB (l.drop k) with
       | none =>
         rw [hnb] at HN
         rw [splitB_none hnb] at HS
         go_wp2_with fail
         refine HN.out.mono ?_
         rintro e w2 ⟨xv, nv, rfl, ⟨rfl, rfl⟩, hb2⟩
         have HQ1 : Hid (Q (.returned (.tuple #[u4, .int .i64 k])) w2) := by
           have := HEN.out u4 X w2 (HO.out.frame (fun k _ hk => hb2.block k hk)) HX.out (by rw [HS.out, List.append_nil]) (by omega) (HB.out.trans (hb2.mono HB.out.size))
           rw [HS.out] at this
           exact this
         clear hb2 HN hnb
         go_wp2
         exact HQ1.out
       | some p =>
         obtain ⟨x, n⟩ := p
         rw [hnb] at HN
         have hpos := nextB_pos hnb
         rw [hdl] at hpos
         have hss := splitB_some hnb
         rw [List.drop_drop] at hss
         have HS2 : Hid (∀ y : SL, y.l = x → splitB l = ((X ++ [y]).map SL.l ++ (splitB (l.drop (k + n))).1, k + n + (splitB (l.drop (k + n))).2)) := by
           intro y hy
           rw [HS.out, hss, List.map_append]
           simp [hy, Nat.add_assoc]
         have HDL := Lib.hid hdl
         clear hnb hss HS hdl
         go_wp2_with fail
         refine HN.out.mono ?_
         rintro e w2 ⟨xv, nv, rfl, ⟨⟨xa, xc, rfl⟩, rfl, hrx⟩, hb2⟩
         have HB2 := Lib.hid (HB.out.trans (hb2.mono HB.out.size))
         have HO2 := Lib.hid (HO.out.frame (fun k _ hk => hb2.block k hk))
         have HRX : Hid (∀ W, Reads W (.slice (some ⟨g, o, none⟩) l.length bc) l.length 1 (byts l) → Reads W (.slice xa x.length xc) x.length 1 (byts x)) := by
           intro W hW
           refine hrx W ?_
           have := hW.drop k hk (some ⟨g, o + k, none⟩) (fun _ => rfl) (by simp)
           rw [HDL.out]
           unfold byts at this ⊢
           rwa [List.map_drop]
         have hs2 := HB2.out.size
         have hne : ((n : Int) == 0) = false := by simp; omega
         have hne2 : decide (n = 0) = false := by simp; omega
         clear hb2 hrx HN HO HB
         go_wp2_with (
           refine wpList_row elemRec rfl rfl (S := fun k => w.heap.size ≤ k) (n := X.length) (xs := X.map SL.v) rfl (HO2.out.frame (fun k _ hk => Below.heap_alloc _ _ _ hk)) (y := .slice (some ⟨w2.heap.size, 0, none⟩) 1 1) (m := 1) (news := [.slice xa x.length xc]) rfl (reads_one w2 _ _) (one_of rfl) (by unfold maxLen; omega) (by omega) ?_
           intro v5 w5 hr5 hc5)
         have HB5 := Lib.hid ((HB2.out.alloc hs2 (.cells #[.slice xa x.length xc] 72)).trans (hc5.toBelow (by simp; omega) (fun n hn h => by omega)))
         have HO5 : Hid (Row w5 72 1 v5 (X ++ [(⟨.slice xa x.length xc, x⟩ : SL)]).length ((X ++ [(⟨.slice xa x.length xc, x⟩ : SL)]).map SL.v) (fun k => w.heap.size ≤ k)) := by
           rw [Hid, List.length_append, List.map_append]
           exact hr5.mono (fun k hk => by rcases hk with h | h; exact h; simp only [World.size_alloc] at h; omega)
         have HX5 : Hid (∀ y ∈ X ++ [(⟨.slice xa x.length xc, x⟩ : SL)], (∃ a c, y.v = .slice a y.l.length c) ∧ ∀ W, Reads W (.slice (some ⟨g, o, none⟩) l.length bc) l.length 1 (byts l) → Reads W y.v y.l.length 1 (byts y.l)) := by
           intro y hy
           rcases List.mem_append.1 hy with hy | hy
           · exact HX.out y hy
           · rw [List.mem_singleton.1 hy]; exact ⟨⟨xa, xc, rfl⟩, HRX.out⟩
         have HS5 := Lib.hid (HS2.out ⟨.slice xa x.length xc, x⟩ rfl)
         clear hr5 hc5 HO2 HB2 HX HS2 HRX
         go_wp2
         go_roundw
         case rel => exact ⟨X ++ [(⟨.slice xa x.length xc, x⟩ : SL)], k + n, by go_num, by omega, by simp; omega, HO5, HX5, HS5, HB5⟩
         case measure => simp [RowKit.intOf]; omega
theorem namesR_V (R : List RF) : namesR R = strsV (R.map fun r => r.f.name) := by
 unfold namesR strsV; rw [List.map_map]; rfl
theorem row_form {w : World} {e : TypeId} {v : Value} {n : Nat} {xs : List Value} {S : Nat → Prop} {a : Option Addr} {c : Nat} (h : Row w e 1 v n xs S) (hv : v = .slice a n c) : (a = none ∧ c = 0) ∨ ∃ g o, a = some ⟨g, o, none⟩ := by
 rcases h.2 with ⟨h1, h2⟩ | ⟨g, off, cap, cur, h1, -⟩
 · rw [hv] at h1
   simp only [Value.slice.injEq] at h1
   exact .inl ⟨h1.1, h1.2.2⟩
 · rw [hv] at h1
   simp only [Value.slice.injEq] at h1
   exact .inr ⟨g, off, h1.1⟩
theorem pos_some {R : List RF} {n : ByteArray} (h : n ∈ R.map fun r => r.f.name) : ∃ j, ∃ hj : j < R.length, posR R n = (j : Int) ∧ findD (R.map RF.f) n = some R[j].f := by
 induction R with
 | nil => simp at h
 | cons r l ih =>
   by_cases h0 : r.f.name = n
   · exact ⟨0, by simp, by rw [posR, if_pos h0]; rfl, by rw [List.map_cons, findD, if_pos h0]; rfl⟩
   · have h1 : n ∈ l.map fun r => r.f.name := by
       rcases List.mem_cons.1 (by simpa using h : n ∈ r.f.name :: l.map fun r => r.f.name) with h1 | h1
       · exact absurd h1.symm h0
       · exact h1
     obtain ⟨j, hj, h2, h3⟩ := ih h1
     exact ⟨j + 1, by simp; omega, by rw [posR, if_neg h0, h2, if_neg (by omega)]; rfl, by rw [List.map_cons, findD, if_neg h0, h3]; rfl⟩
theorem name_of_refL {ns : List ByteArray} {n : Int} (h : n ∈ refL ns) : nameI n ∈ ns := by
 rw [mem_refL] at h
 unfold numsL at h
 obtain ⟨s, hs, rfl⟩ := List.mem_map.1 h
 obtain ⟨hs1, hs2⟩ := List.mem_filter.1 hs
 have h0 : 0 < numV s.data.toList := of_decide_eq_true hs2
 rw [nameI_yes h0 (numV_le _), name_numV _ h0]
 simpa using hs1
theorem pos_find {R : List RF} {n : Int} (h : n ∈ refL (R.map fun r => r.f.name)) : ∃ j, ∃ hj : j < R.length, posR R (nameI n) = (j : Int) ∧ fileB (R.map RF.f) n = R[j].f.b := by
 obtain ⟨j, hj, h1, h2⟩ := pos_some (name_of_refL h)
 exact ⟨j, hj, h1, by unfold fileB; rw [h2]⟩
end Go.Proofs.YtgdmdbdljmlkkaaGreatDoor
