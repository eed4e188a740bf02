/- TrimA -/
import Derived.Test.YtgdmdbdljmlkkaaGreatDoorTz27
set_option maxRecDepth 100000
set_option linter.unusedVariables false
set_option linter.unusedSimpArgs false
namespace Go.Proofs.YtgdmdbdljmlkkaaGreatDoor
open Go.RowKit
structure WorkAt (w : World) (pw : Nat) (x : Value) (ba : Option Addr) (b : List UInt8) (bc : Nat) (next : Int) (T : Nat → Prop) : Prop where
 blk : w.heap[pw]? = some (.cells #[x, .slice ba b.length bc, .int .i64 next] 154 (0, 0))
 off : ¬ T pw
 rd : Reads w (.slice ba b.length bc) b.length 1 (byts b)
 ro : ∀ ad, ba = some ad → ¬ T ad.block ∧ ad.block < w.heap.size
 tab : ∀ w', Chg T w w' → Tab w'
 tt : ∀ k, T k → k < w.heap.size
def cleanG (O : DoT) (D : DS) (n : ByteArray) : DS × Int := if (findD D.files n).isSome then O D ⟨5, n, ⟨#[]⟩, []⟩ else (D, 0)
theorem containsN_any (va : Option Addr) (vc : Nat) (zs : List ByteArray) (x : ByteArray) (w : World) (h : Reads w (.slice va zs.length vc) zs.length 1 (strsV zs)) (hl : zs.length ≤ 100000) :
   Calls Tryz.prog 147 #[.slice va zs.length vc, .string x] w fun e w' => e = .returned (.bool (Lib.containsS zs x)) ∧ w' = w := by
 by_cases hz : zs = []
 · subst hz
   have h1 := Tryz.slices_Contains_string_empty va vc x w
   have h2 : Lib.containsS [] x = false := by
     cases hc : Lib.containsS [] x with
     | false => rfl
     | true => exact absurd ((Lib.containsS_iff _ _).1 hc) (by simp)
   rw [h2]; exact h1
 · obtain ⟨b, o, c, hv, hle, hb, hc⟩ := h.at (List.length_pos_iff.2 hz)
   injection hv with h1 h2 h3
   subst h1 h3
   have := Tryz.slices_Contains_string b o zs.length vc zs x w (Nat.le_refl _) (by omega) (fun j hj => by
     rw [hc j (.string zs[j]) (by simp [strsV, hj]), List.getD_eq_getElem?_getD, List.getElem?_eq_getElem hj]; rfl)
   rwa [List.take_length] at this
section
variable {w : World} {pw : Nat} {x : Value} {ba : Option Addr} {b : List UInt8} {bc : Nat} {next : Int} {T : Nat → Prop} {D : DS}
variable (h : WorkAt w pw x ba b bc next T) (hd : DRep w x D T) (hp : 0 ≤ D.plan ∧ D.plan ≤ 9223372036854775807)
include h hd hp
set_option maxHeartbeats 1000000 in
theorem wcreate_any : Calls Tryz.prog 105 #[.pointer (some ⟨pw, 0, none⟩)] w (DPost w x T (createD D newNm)) := by
 have hx := cellAt h.blk 0 rfl
 have HC := Lib.hid (create_any x newNm D T w hd hp)
 obtain ⟨bx, bm, col, pv, rfl, -⟩ := hd
 unfold newNm at *
 generalize createD D ⟨#[110, 101, 119]⟩ = r at *
 clear h hp
 go_enter Tryz.func105, Tryz.ntmps105
 go_wp2_with fail
 refine HC.out.mono ?_
 rintro e w2 ⟨rfl, h1, h2⟩
 have H1 := Lib.hid h1
 have H2 := Lib.hid h2
 clear h1 h2 HC
 go_wp2
 go_ret
 exact ⟨rfl, H1.out, H2.out⟩
set_option maxHeartbeats 1000000 in
theorem wsync_any : Calls Tryz.prog 107 #[.pointer (some ⟨pw, 0, none⟩)] w (DPost w x T (syncD D newNm)) := by
 have hx := cellAt h.blk 0 rfl
 have HC := Lib.hid (sync_any x newNm D T w hd hp)
 obtain ⟨bx, bm, col, pv, rfl, -⟩ := hd
 unfold newNm at *
 generalize syncD D ⟨#[110, 101, 119]⟩ = r at *
 clear h hp
 go_enter Tryz.func107, Tryz.ntmps107
 go_wp2_with fail
 refine HC.out.mono ?_
 rintro e w2 ⟨rfl, h1, h2⟩
 have H1 := Lib.hid h1
 have H2 := Lib.hid h2
 clear h1 h2 HC
 go_wp2
 go_ret
 exact ⟨rfl, H1.out, H2.out⟩
set_option maxHeartbeats 1000000 in
theorem wwrite_any (hs : sumD D.files ≤ 1000000000) (hb : b.length ≤ 1000000000) : Calls Tryz.prog 106 #[.pointer (some ⟨pw, 0, none⟩)] w (DPost w x T (appendD D newNm b)) := by
 have hx := cellAt h.blk 0 rfl
 have hy := cellAt h.blk 1 rfl
 have HX := Lib.hid h.blk
 have HC := Lib.hid (fun (n : Nat) => append_any x newNm b ba bc D T (w.drewN n) (hd.frame (fun _ _ _ => rfl)) hp hs hb h.rd (fun ad ha _ => (h.ro ad ha).1))
 obtain ⟨bx, bm, col, pv, rfl, -⟩ := hd
 unfold newNm at *
 generalize appendD D ⟨#[110, 101, 119]⟩ b = r at *
 have HCD : Hid (Calls Tryz.prog 72 #[.pointer (some ⟨bx, 0, none⟩), .string ⟨#[110, 101, 119]⟩, .slice ba b.length bc] w.drew (DPost w.drew (.pointer (some ⟨bx, 0, none⟩)) T r)) := HC.out 1
 clear h hp
 go_enter Tryz.func106, Tryz.ntmps106
 go_upto_region 1 with fail
 go_region_law (go_simp; go_at_call 72; refine HCD.out.mono ?_; rintro e w2 ⟨rfl, h1, h2⟩
                have H1 := Lib.hid h1
                have H2 := Lib.hid h2
                clear h1 h2
                try dsimp only)
 all_goals
   clear HC HCD
   go_wp2
   go_ret
   exact ⟨rfl, H1.out, (Chg.refl T w).drew.trans H2.out (fun n hn => .inl hn)⟩
omit hd hp in
set_option maxHeartbeats 1000000 in
theorem wname_any : Calls Tryz.prog 148 #[.pointer (some ⟨pw, 0, none⟩)] w fun e w' => e = .returned (.string (nameI next)) ∧ Below w.heap.size w w' := by
 have hx := cellAt h.blk 2 rfl
 have HN := Lib.hid (segName_any next w (h.tab w (Chg.refl _ _)))
 clear h
 go_enter Tryz.func148, Tryz.ntmps148
 go_wp2_with fail
 refine HN.out.mono ?_
 rintro e w2 ⟨rfl, hb⟩
 have HB := Lib.hid hb
 clear hb HN
 go_wp2
 go_ret
 exact ⟨rfl, HB.out⟩
set_option maxHeartbeats 1000000 in
theorem wclean_any (hl : D.files.length ≤ 1000) (hnm : ∀ f ∈ D.files, f.name.size ≤ maxLen) : Calls Tryz.prog 104 #[.pointer (some ⟨pw, 0, none⟩)] w (DPost w x T (cleanG doP D newNm)) := by
 have hx := cellAt h.blk 0 rfl
 have HX := Lib.hid h.blk
 have HL := Lib.hid (list_any x D T w hd (by omega) hnm)
 have HD := Lib.hid hd
 have HTT := Lib.hid h.tt
 have hoff := h.off
 have HRM := Lib.hid (fun (w' : World) (hb : Below w.heap.size w w') => remove_any x newNm D T w' (hd.frame (fun k _ hk => hb.block k hk)) hp)
 obtain ⟨bx, bm, col, pv, rfl, -⟩ := hd
 obtain ⟨r, hr⟩ : ∃ r, r = cleanG doP D newNm := ⟨_, rfl⟩
 rw [← hr]
 have HR := Lib.hid hr
 clear h hp hr
 go_enter Tryz.func104, Tryz.ntmps104
 go_wp2_with fail
 refine HL.out.mono ?_
 rintro e w2 ⟨v2, ss, rfl, hrow, hb2, hpw, hmem⟩
 have HB2 := Lib.hid hb2
 have hx2 := cellAt ((hb2.block _ (lt_of_heap HX.out)).trans HX.out) 0 rfl
 have hsl := mkS_len hpw hmem
 have HIN : Hid ((⟨#[110, 101, 119]⟩ : ByteArray) ∈ mkS ss ↔ (findD D.files newNm).isSome = true) := by
   have h1 := mkS_mem hmem newNm
   have h2 : newNm ∈ D.files.map DF.name ↔ (findD D.files newNm).isSome = true := by
     constructor
     · intro hm
       cases hf : findD D.files newNm with
       | none => exact absurd hm (findD_none.1 hf)
       | some f => rfl
     · intro hm
       cases hf : findD D.files newNm with
       | none => rw [hf] at hm; cases hm
       | some f =>
         obtain ⟨e1, e2⟩ := findD_name hf
         exact List.mem_map.2 ⟨f, e2, e1⟩
   exact h1.trans h2
 obtain ⟨va, vc, rfl⟩ := slice_form hrow
 have HCT : Hid (Calls Tryz.prog 147 #[.slice va ss.length vc, .string ⟨#[110, 101, 119]⟩] w2 fun e w' => e = .returned (.bool (Lib.containsS (mkS ss) ⟨#[110, 101, 119]⟩)) ∧ w' = w2) := by
   have h1 := hrow.reads
   have h2 : (mkS ss).length = ss.length := by unfold mkS; rw [List.length_map]
   have h3 := containsN_any va vc (mkS ss) ⟨#[110, 101, 119]⟩ w2 (by rw [mkS_V, h2]; exact h1) (by simp only [List.length_map] at hsl; omega)
   rw [h2] at h3
   exact h3
 clear hrow hpw hmem hsl hx HL hb2
 by_cases hin : (findD D.files newNm).isSome = true
 · rw [(Lib.containsS_iff _ _).2 (HIN.out.2 hin)] at HCT
   have HR2 : Hid (r = removeD D newNm) := by rw [Hid, HR.out]; unfold cleanG; rw [if_pos hin]; rfl
   have HRM2 := Lib.hid (HRM.out w2 HB2.out)
   rw [← HR2.out] at HRM2
   unfold newNm at HRM2
   clear hin
   go_wp2_with fail
   refine HCT.out.mono ?_
   rintro e w3 ⟨rfl, rfl⟩
   go_wp2_with fail
   refine HRM2.out.mono ?_
   rintro e w4 ⟨rfl, h1, h2⟩
   have H1 := Lib.hid h1
   have H2 := Lib.hid h2
   have hsz := HB2.out.size
   clear h1 h2
   go_wp2
   go_ret
   exact ⟨rfl, H1.out.mono (fun k hk => by rcases hk with hk | hk; exact .inl hk; exact .inr (by omega)), (Chg.ofBelow HB2.out).trans H2.out (fun n hn => .inl hn)⟩
 · have hcf : Lib.containsS (mkS ss) ⟨#[110, 101, 119]⟩ = false := by
     cases hc : Lib.containsS (mkS ss) ⟨#[110, 101, 119]⟩ with
     | false => rfl
     | true => exact absurd (HIN.out.1 ((Lib.containsS_iff _ _).1 hc)) hin
   rw [hcf] at HCT
   clear hcf
   have HR2 : Hid (r = (D, 0)) := by rw [Hid, HR.out]; unfold cleanG; rw [if_neg hin]
   clear hin
   go_wp2_with fail
   refine HCT.out.mono ?_
   rintro e w3 ⟨rfl, rfl⟩
   go_wp2
   go_ret
   rw [HR2.out]
   exact ⟨rfl, (HD.out.frame (fun k _ hk => HB2.out.block k hk)).mono (fun k hk => .inl hk), Chg.ofBelow HB2.out⟩
end
end Go.Proofs.YtgdmdbdljmlkkaaGreatDoor
