/- (*Disk).run: what all changes begin with. -/
import Derived.Test.YtjhhmljebflanaaDoorDNamed
import Derived.Test.YtjhhmljebflanaaDoorDUsed
import Derived.Deep.RegionHeld3
namespace Go.Proofs.YtjhhmljebflanaaDoor
set_option linter.unusedVariables false
set_option linter.unusedSimpArgs false
open Go.RowKit

theorem keyS : KeyOk Tryd.prog 9 ByteArray Value.string := keyString Tryd.underlying9
theorem zeroF (w : World) : (zeroValue 65).run Tryd.prog w = .ok (.pointer none) w := by kernel_rfl
theorem look_f {w : World} {l : List DF} {pv : ByteArray → Nat} {bm : Nat} (h : MapFn w Value.string bm (fmap l pv)) (n : ByteArray) (ok : Bool) :
    (Instr.lookup 61 (.map (some bm)) (.string n) ok).run Tryd.prog w = .ok (if ok then .tuple #[(fmap l pv n).getD (.pointer none), .bool (fmap l pv n).isSome] else (fmap l pv n).getD (.pointer none)) w :=
  run_lookup_fn keyS Tryd.underlying61 (zeroF w) h n ok

theorem Reads.chg {w w' : World} {T : Nat → Prop} {a : Option Addr} {n m c : Nat} {xs : List Value} (h : Reads w (.slice a m c) n 1 xs) (hc : Chg T w w') (hT : ∀ ad, a = some ad → 0 < xs.length → ¬ T ad.block) : Reads w' (.slice a m c) n 1 xs := by
  obtain ⟨hl, ao, c', hv, hle, hnn, hcell⟩ := h
  cases hv
  refine ⟨hl, a, c, rfl, hle, hnn, fun ad had j u hu => ?_⟩
  have h1 := hcell ad had j u hu
  have hblk : (ad.add j).block = ad.block := by unfold Addr.add; split <;> rfl
  have hlt : ad.block < w.heap.size := by
    have := World.block_lt_of_cell? w _ h1
    rwa [hblk] at this
  rw [← h1]
  exact World.cell?_of_block (by rw [hblk]; exact hc.block _ hlt (hT ad had (by have := (List.getElem?_eq_some_iff.1 hu).1; omega)))

/-- How a change begins: the disk behind it, and the code with which it ends, if it ends. -/
def beginD (D : DS) (names : List ByteArray) (fresh : Bool) : DS × Option Int :=
  if D.down then (D, some 10)
  else if D.plan = 1 then ({ D with plan := 0, down := true }, some 10)
  else ({ D with plan := max (D.plan - 1) 0 },
    if names.all namedB then
      match findD D.files (names.headD ByteArray.empty) with
      | some _ => if fresh then some 7 else none
      | none => if fresh then none else some 6
    else some 6)

theorem lookD {w : World} {l : List DF} {pv : ByteArray → Nat} {bm : Nat} (h : MapFn w Value.string bm (fmap l pv)) (n : ByteArray) (p : Value) (ok : Bool) (hp : p = (fmap l pv n).getD (.pointer none)) (hok : ok = (findD l n).isSome) :
    (Instr.lookup 61 (.map (some bm)) (.string n) true).run Tryd.prog w = .ok (.tuple #[p, .bool ok]) w := by
  rw [look_f h n true, hp, hok]
  simp only [if_true]
  unfold fmap
  rw [Option.isSome_map]

set_option maxRecDepth 100000 in
set_option maxHeartbeats 2000000 in
theorem run_any (g : Nat) (lb : Array Value) (eg : ∀ args w, (callFunc g args).run Tryd.prog w = .ok (.enter g args) w) (D : DS) (S : Nat → Prop) (bx bm : Nat) (col : Nat → Option ByteArray) (pv : ByteArray → Nat) (w : World) (h : DAt w D S bx bm col pv)
    (hp : 0 ≤ D.plan ∧ D.plan ≤ 9223372036854775807) (a : Option Addr) (c : Nat) (n : ByteArray) (rest : List ByteArray) (hr : Reads w (.slice a (n :: rest).length c) (n :: rest).length 1 ((n :: rest).map Value.string)) (hl : rest.length ≤ 1000) (hab : ∀ ad, a = some ad → ad.block ≠ bx) (fresh : Bool)
    (Q : Ending → World → Prop)
    (h1 : ∀ D1 code, beginD D (n :: rest) fresh = (D1, some code) → ∀ w', DAt w' D1 S bx bm col pv → Chg (fun k => k = bx) w w' → Q (.returned (.int .i64 code)) w')
    (h2 : ∀ D1, beginD D (n :: rest) fresh = (D1, none) → ∀ w', DAt w' D1 S bx bm col pv → Chg (fun k => k = bx) w w' → Calls Tryd.prog g (#[(fmap D.files pv n).getD (.pointer none)] ++ lb) w' fun e w2 => ∃ code : Int, e = .returned (.int .i64 code) ∧ Q e w2) :
    Calls Tryd.prog 29 #[.pointer (some ⟨bx, 0, none⟩), .agg #[.slice a (n :: rest).length c, .bool fresh, .func (.func g) #[] lb]] w Q := by
  have H := Lib.hid h
  have H1 := Lib.hid h1
  have H2 := Lib.hid h2
  have HR := Lib.hid hr
  have hbx := lt_of_heap h.blk
  obtain ⟨room, files, plan, down⟩ := D
  have hblk := h.blk
  simp only at hblk
  simp only [List.length_cons] at *
  clear h h1 h2 hr
  cases down with
  | true =>
    have HW : Hid (DAt (w.alloc (.cells #[.slice a (rest.length + 1) c, .bool fresh, .func (.func g) #[] lb] 70)) ⟨room, files, plan, true⟩ S bx bm col pv) := H.out.frame (fun k _ hk => Below.heap_alloc _ _ _ hk)
    have HCh : Hid (Chg (fun k => k = bx) w (w.alloc (.cells #[.slice a (rest.length + 1) c, .bool fresh, .func (.func g) #[] lb] 70))) := (Chg.refl _ _).alloc _
    have hx3 := cellAt HW.out.blk 3 (v := .bool true) rfl
    have HB1 := Lib.hid (H1.out ⟨room, files, plan, true⟩ 10 (by unfold beginD; rfl))
    go_enter Tryd.func29, Tryd.ntmps29
    go_wp2_with fail
    exact HB1.out _ HW.out HCh.out
  | false =>
    have HW : Hid (DAt (w.alloc (.cells #[.slice a (rest.length + 1) c, .bool fresh, .func (.func g) #[] lb] 70)) ⟨room, files, plan, false⟩ S bx bm col pv) := H.out.frame (fun k _ hk => Below.heap_alloc _ _ _ hk)
    have HCh : Hid (Chg (fun k => k = bx) w (w.alloc (.cells #[.slice a (rest.length + 1) c, .bool fresh, .func (.func g) #[] lb] 70))) := (Chg.refl _ _).alloc _
    have HC : Hid ((w.alloc (.cells #[.slice a (rest.length + 1) c, .bool fresh, .func (.func g) #[] lb] 70)).heap[w.heap.size]? = some (.cells #[.slice a (rest.length + 1) c, .bool fresh, .func (.func g) #[] lb] 70 (0, 0))) := heap_alloc_new _ _
    have HRA : Hid (Reads (w.alloc (.cells #[.slice a (rest.length + 1) c, .bool fresh, .func (.func g) #[] lb] 70)) (.slice a (rest.length + 1) c) (rest.length + 1) 1 ((n :: rest).map Value.string)) := HR.out.later ((Below.refl _ _).alloc (Nat.le_refl _) _)
    have hblk2 := HW.out.blk
    simp only at hblk2
    have hx2 := cellAt hblk2 2 (v := .int .i64 plan) rfl
    have hx3 := cellAt hblk2 3 (v := .bool false) rfl
    have hf2 := freeAt hblk2 2
    have hf3 := freeAt hblk2 3
    have HBK := Lib.hid hblk2
    clear hblk hblk2
    by_cases hp1 : plan = 1
    · subst hp1
      have HB1 := Lib.hid (H1.out ⟨room, files, 0, true⟩ 10 (by unfold beginD; rfl))
      go_enter Tryd.func29, Tryd.ntmps29
      go_upto_region 1 with fail
      generalize w.alloc (.cells #[.slice a (rest.length + 1) c, .bool fresh, .func (.func g) #[] lb] 70) = wa at *
      go_wp2_with fail
      have HBL := heap_store (heap_store HBK.out 2 (.int .i64 0)) 3 (.bool true)
      have HC2 : Chg (fun k => k = bx) wa _ := ((Chg.refl (fun k => k = bx) _).setCell (p := ⟨bx, 2, none⟩) (.inl rfl) (.int .i64 0)).setCell (p := ⟨bx, 3, none⟩) (.inl rfl) (.bool true)
      exact HB1.out _ (HW.out.head ⟨room, files, 0, true⟩ rfl HBL HC2) (HCh.out.trans HC2 (fun k hk => .inl hk))
    · have hpb : (plan == 1) = false := by simp [hp1]
      go_enter Tryd.func29, Tryd.ntmps29
      go_upto_region 1 with fail
      generalize w.alloc (.cells #[.slice a (rest.length + 1) c, .bool fresh, .func (.func g) #[] lb] 70) = wa at *
      go_upto_region 9 with fail
      have HBL := Lib.hid (heap_store HBK.out 2 (.int .i64 (max (plan - 1) 0)))
      have HC2 : Hid (Chg (fun k => k = bx) wa (wa.setCell ⟨bx, 2, none⟩ (.int .i64 (max (plan - 1) 0)))) := (Chg.refl (fun k => k = bx) _).setCell (p := ⟨bx, 2, none⟩) (.inl rfl) (.int .i64 (max (plan - 1) 0))
      have HWB := Lib.hid (HW.out.head ⟨room, files, max (plan - 1) 0, false⟩ rfl HBL.out HC2.out)
      have hne : w.heap.size ≠ bx := by omega
      have HCB := Lib.hid (HC2.out.heap HC.out hne)
      have HCW := Lib.hid (HCh.out.trans HC2.out (fun k hk => .inl hk))
      have HRB : Hid (Reads (wa.setCell ⟨bx, 2, none⟩ (.int .i64 (max (plan - 1) 0))) (.slice a (rest.length + 1) c) (rest.length + 1) 1 ((n :: rest).map Value.string)) := HRA.out.chg HC2.out (fun ad had _ e => hab ad had e)
      generalize wa.setCell ⟨bx, 2, none⟩ (.int .i64 (max (plan - 1) 0)) = wb at *
      clear hx2 hx3 hf2 hf3 HBK HC HRA HBL HC2 HW HCh
      have hx1 := cellAt HWB.out.blk 1 (v := .map (some bm)) rfl
      have hy0 := cellAt HCB.out 0 (v := .slice a (rest.length + 1) c) rfl
      obtain ⟨b, o, c', hv, hle, hblt, hcn⟩ := HRB.out.at (by omega)
      cases hv
      have hn0 : wb.cell? ⟨b, o, none⟩ = some (.string n) := by simpa using hcn 0 _ rfl
      clear hcn
      obtain ⟨P, hP⟩ : ∃ P, P = (fmap files pv n).getD (.pointer none) := ⟨_, rfl⟩
      obtain ⟨ok, hok⟩ : ∃ ok, ok = (findD files n).isSome := ⟨_, rfl⟩
      have hlk := lookD HWB.out.mp n P ok hP hok
      have HP := Lib.hid hP
      have HOK := Lib.hid hok
      rw [← hP] at H2
      clear hP hok
      have hlk2 := lookD (w := wb.drew) HWB.out.mp n P ok HP.out HOK.out
      go_region_held3 (fun w' => w'.cell? ⟨bx, 1, none⟩ = some (.map (some bm)) ∧ w'.cell? ⟨w.heap.size, 0, none⟩ = some (.slice (some ⟨b, o, none⟩) (rest.length + 1) c) ∧ w'.cell? ⟨b, o, none⟩ = some (.string n)) (exact ⟨hx1, hy0, hn0⟩) (fail)
      have HWD : Hid (DAt wb.drew ⟨room, files, max (plan - 1) 0, false⟩ S bx bm col pv) := HWB.out.frame (fun _ _ _ => rfl)
      have HCWD : Hid (Chg (fun k => k = bx) w wb.drew) := HCW.out.drew
      have HRD : Hid (Reads wb.drew (.slice (some ⟨b, o, none⟩) (rest.length + 1) c) (rest.length + 1) 1 ((n :: rest).map Value.string)) := HRB.out
      have HCD : Hid (wb.drew.heap[w.heap.size]? = some (.cells #[.slice (some ⟨b, o, none⟩) (rest.length + 1) c, .bool fresh, .func (.func g) #[] lb] 70 (0, 0))) := HCB.out
      clear hx1 hy0 hn0 hlk hlk2 HWB HCW HRB HCB hblt
      generalize wb.drew = wd at *
      clear wb
      have HK := Lib.hid (containsS_any (some ⟨b, o, none⟩) c (n :: rest) wd HRD.out (by simp only [List.length_cons]; omega))
      have hy0 := cellAt HCD.out 0 (v := .slice (some ⟨b, o, none⟩) (rest.length + 1) c) rfl
      obtain ⟨al, hal⟩ : ∃ al, al = (n :: rest).all namedB := ⟨_, rfl⟩
      have HAL := Lib.hid hal
      rw [← hal] at HK
      clear hal
      simp only [List.length_cons] at HK
      go_wp2_with fail
      refine HK.out.mono ?_
      rintro e w2 ⟨rfl, hb2⟩
      have HW2 := Lib.hid (HWD.out.frame (fun k _ hk => hb2.block k hk))
      have HC2 := Lib.hid (HCWD.out.trans (Chg.ofBelow (S := fun k => k = bx) hb2) (fun k hk => .inl hk))
      have HCC := Lib.hid ((hb2.block _ (lt_of_heap HCD.out)).trans HCD.out)
      have hz1 := cellAt HCC.out 1 (v := .bool fresh) rfl
      have hz2 := cellAt HCC.out 2 (v := .func (.func g) #[] lb) rfl
      have HBE : Hid (beginD ⟨room, files, plan, false⟩ (n :: rest) fresh = (⟨room, files, max (plan - 1) 0, false⟩, if al then (if ok then (if fresh then some 7 else none) else (if fresh then none else some 6)) else some 6)) := by
        rw [Hid, beginD, HAL.out, HOK.out]
        simp only [Bool.false_eq_true, if_false, if_neg hp1, List.headD_cons]
        congr 2
        cases findD files n <;> simp
      clear hb2 HK HWD HCWD HRD HCD hy0 HAL
      cases al with
      | false =>
        have H3 := Lib.hid (H1.out _ 6 (by rw [HBE.out]; rfl) w2 HW2.out HC2.out)
        go_wp2_with fail
        exact H3.out
      | true =>
        cases ok with
        | true =>
          cases fresh with
          | true =>
            have H3 := Lib.hid (H1.out _ 7 (by rw [HBE.out]; rfl) w2 HW2.out HC2.out)
            go_wp2_with fail
            exact H3.out
          | false =>
            have H3 := Lib.hid (H2.out _ (by rw [HBE.out]; rfl) w2 HW2.out HC2.out)
            go_wp2_with fail
            refine H3.out.mono ?_
            rintro e w3 ⟨code, rfl, hq⟩
            have HQ := Lib.hid hq
            clear hq H3
            go_wp2_with fail
            exact HQ.out
        | false =>
          cases fresh with
          | true =>
            have H3 := Lib.hid (H2.out _ (by rw [HBE.out]; rfl) w2 HW2.out HC2.out)
            go_wp2_with fail
            refine H3.out.mono ?_
            rintro e w3 ⟨code, rfl, hq⟩
            have HQ := Lib.hid hq
            clear hq H3
            go_wp2_with fail
            exact HQ.out
          | false =>
            have H3 := Lib.hid (H1.out _ 6 (by rw [HBE.out]; rfl) w2 HW2.out HC2.out)
            go_wp2_with fail
            exact H3.out
end Go.Proofs.YtjhhmljebflanaaDoor
